/- Rows of words in memory that the call itself has made. -/
import Derived.Test.YtmknijpjkikoeaaGreatDoorBits
import Derived.Test.YtmknijpjkikoeaaGreatDoorPolyB
import Derived.Deep.OwnRows
set_option linter.unusedVariables false
set_option linter.unusedSimpArgs false
namespace Go.Zig
open Go.RowKit Go.Proofs

theorem wd_co (xs : List Int) (i : Nat) : wd xs i = co xs i := rfl
theorem info_u64 : (Tryz.prog.info? 26).map (fun i => (i.zero, i.size, i.bytes)) = some (some (.int .u64 0), 1, 8) := by kernel_rfl
/-- make([]uint64, n), make(api.Nat, n). -/
theorem make_u64 (n : Nat) (hn : n ≤ 16777216) (w : World) : (Instr.makeSlice 25 (.int .i64 (n : Int)) (.int .i64 (n : Int))).run Tryz.prog w = .ok (.slice (some ⟨w.heap.size, 0, none⟩) n n) (w.alloc (.cells (madeCells #[.int .u64 0] n) 26)) :=
  run_make_row' (P := Tryz.prog) 25 26 (.int .u64 0) 8 Tryz.underlying25 info_u64 rfl .i64 .i64 n (by omega) (by omega) w
theorem make_nat (n : Nat) (hn : n ≤ 16777216) (w : World) : (Instr.makeSlice 64 (.int .i64 (n : Int)) (.int .i64 (n : Int))).run Tryz.prog w = .ok (.slice (some ⟨w.heap.size, 0, none⟩) n n) (w.alloc (.cells (madeCells #[.int .u64 0] n) 26)) :=
  run_make_row' (P := Tryz.prog) 64 26 (.int .u64 0) 8 Tryz.underlying64 info_u64 rfl .i64 .i64 n (by omega) (by omega) w

theorem make_u64z (n : Nat) (z : Int) (hz : z = n) (hn : n ≤ 16777216) (w : World) : (Instr.makeSlice 25 (.int .i64 z) (.int .i64 z)).run Tryz.prog w = .ok (.slice (some ⟨w.heap.size, 0, none⟩) n n) (w.alloc (.cells (madeCells #[.int .u64 0] n) 26)) := by rw [hz]; exact make_u64 n hn w

def Row (w : World) (g : Nat) (ys : List Int) : Prop := Blk w g 26 (wvals ys).toArray
section
variable {w w' : World} {g : Nat} {ys : List Int}
theorem Row.lt (h : Row w g ys) : g < w.heap.size := Blk.lt h
theorem Row.cell (h : Row w g ys) (i : Nat) (hi : i < ys.length) : w.cell? ⟨g, i, none⟩ = some (.int .u64 (wd ys i)) := by
  rw [Blk.cell h]; simpa using wvals_get ys i hi
theorem Row.frozen (h : Row w g ys) (i : Nat) : w.frozen? ⟨g, i, none⟩ = false := Blk.frozen h i
theorem Row.drewN (h : Row w g ys) (n : Nat) : Row (w.drewN n) g ys := h
theorem Row.alloc (h : Row w g ys) (o : Obj) : Row (w.alloc o) g ys := Blk.alloc h o
theorem Row.set (h : Row w g ys) (i : Nat) (v : Int) : Row (w.setCell ⟨g, i, none⟩ (.int .u64 v)) g (ys.set i v) := by
  have h1 := Blk.set_ h i (.int .u64 v)
  have e : (wvals ys).toArray.setIfInBounds i (.int .u64 v) = (wvals (ys.set i v)).toArray := by
    rw [List.setIfInBounds_toArray]; unfold wvals; rw [List.map_set]
  rw [e] at h1; exact h1
theorem Row.far (h : Row w g ys) {p : Addr} (hp : g ≠ p.block) (u : Value) : Row (w.setCell p u) g ys := Blk.far h hp u
theorem Row.grown {row : Option Nat} (h : Row w g ys) (hb : w.grownBy w' row) (hg : some g ≠ row) : Row w' g ys := Blk.grown h hb hg
theorem Row.made (w : World) (n : Nat) : Row (w.alloc (.cells (madeCells #[.int .u64 0] n) 26)) w.heap.size (List.replicate n 0) := by
  have h := Blk.new w 26 (madeCells #[.int .u64 0] n)
  have e : madeCells #[Value.int .u64 0] n = (wvals (List.replicate n 0)).toArray := by
    apply Array.toList_inj.1
    rw [toList_madeCells_one]; simp [wvals]
  rw [e] at h ⊢; exact h
theorem Row.own (h : Row w g ys) {base : Nat} (hg : base ≤ g) (k : Nat) (hk : k ≤ ys.length) (hb : ys.length ≤ 16777216) : w.ownsRow base 26 1 (.slice (some ⟨g, 0, none⟩) k ys.length) k (wvals (ys.take k)) := by
  refine ⟨by simp [wvals, hk], .inr ⟨g, ys.length, (wvals ys).toArray, rfl, hg, h, hk, by simp only [maxLen]; omega, by simp [wvals], ?_⟩⟩
  simp [wvals, List.map_take]
theorem Row.rd (h : Row w g ys) (hs : Wds ys) (hb : ys.length ≤ 16777216) : Rd w (some ⟨g, 0, none⟩) ys.length ys.length ys :=
  ⟨rfl, Nat.le_refl _, hb, hs, fun _ => ⟨g, 0, rfl, fun j hj => by rw [Nat.zero_add]; exact h.cell j hj⟩⟩
end
/-- A slice of the call's own. -/
structure Own (w w' : World) (v : Value) (ys : List Int) : Prop where
  own : w'.ownsRow w.heap.size 26 1 v ys.length (wvals ys)
  wds : Wds ys
  big : ys.length ≤ 16777216
theorem Own.rd {w w' : World} {v : Value} {ys : List Int} (h : Own w w' v ys) : ∃ A c, v = .slice A ys.length c ∧ Rd w' A ys.length c ys := Rd.own h.own h.big h.wds
theorem Own.keep {w w' w2 : World} {v : Value} {ys : List Int} (h : Own w w' v ys) (hg : w'.grownBy w2 none) : Own w w2 v ys := ⟨h.own.kept hg (by cases v.ownBlock <;> simp), h.wds, h.big⟩
theorem Own.base {w0 w w' : World} {v : Value} {ys : List Int} (h : Own w w' v ys) (hb : w0.heap.size ≤ w.heap.size) : Own w0 w' v ys :=
  ⟨⟨h.own.1, by rcases h.own.2 with h1 | ⟨g, cap, cur, h1, h2, h3⟩
                · exact .inl h1
                · exact .inr ⟨g, cap, cur, h1, Nat.le_trans hb h2, h3⟩⟩, h.wds, h.big⟩
theorem Own.nil (w w' : World) : Own w w' (.slice none 0 0) [] := ⟨⟨by simp [wvals], .inl ⟨rfl, rfl⟩⟩, by simp [Wds], by simp⟩
theorem Wds.take {ys : List Int} (h : Wds ys) (k : Nat) : Wds (ys.take k) := fun x hx => h x (List.mem_of_mem_take hx)
theorem Wds.drop {ys : List Int} (h : Wds ys) (k : Nat) : Wds (ys.drop k) := fun x hx => h x (List.mem_of_mem_drop hx)
theorem Wds.set {ys : List Int} (h : Wds ys) (i : Nat) (v : Int) (h0 : 0 ≤ v) (h1 : v ≤ 18446744073709551615) : Wds (ys.set i v) := fun x hx => by
  rcases List.mem_or_eq_of_mem_set hx with e | e
  · exact h x e
  · subst e; exact ⟨h0, h1⟩
theorem Wds.zeros (n : Nat) : Wds (List.replicate n 0) := fun x hx => by rw [List.eq_of_mem_replicate hx]; omega
theorem Row.ownAll {w w' : World} {g : Nat} {ys : List Int} (h : Row w' g ys) (hg : w.heap.size ≤ g) (hs : Wds ys) (hb : ys.length ≤ 16777216) (k : Nat) (hk : k ≤ ys.length) : Own w w' (.slice (some ⟨g, 0, none⟩) k ys.length) (ys.take k) :=
  ⟨by have := h.own hg k hk hb; rwa [List.length_take, Nat.min_eq_left hk], hs.take k, by rw [List.length_take]; omega⟩
theorem wd_set (ys : List Int) (i j : Nat) (v : Int) (hi : i < ys.length) : wd (ys.set i v) j = if i = j then v else wd ys j := by
  unfold wd
  rw [List.getD_eq_getElem?_getD, List.getD_eq_getElem?_getD, List.getElem?_set]
  split
  · subst_vars; simp [hi]
  · rfl
theorem wd_zeros (n j : Nat) : wd (List.replicate n 0) j = 0 := by
  unfold wd
  rw [List.getD_eq_getElem?_getD, List.getElem?_replicate]
  split <;> rfl
theorem list_ext {a b : List Int} (hl : a.length = b.length) (h : ∀ j, j < a.length → wd a j = wd b j) : a = b := by
  apply List.ext_getElem hl
  intro i h1 h2
  have := h i h1
  unfold wd at this
  rwa [List.getD_eq_getElem?_getD, List.getD_eq_getElem?_getD, List.getElem?_eq_getElem h1, List.getElem?_eq_getElem h2] at this
theorem wd_ge (a : List Int) (j : Nat) (h : a.length ≤ j) : wd a j = 0 := by unfold wd; rw [List.getD_eq_getElem?_getD, List.getElem?_eq_none h]; rfl
theorem wd_take (a : List Int) (k j : Nat) (h : j < k) : wd (a.take k) j = wd a j := by unfold wd; simp [List.getD_eq_getElem?_getD, List.getElem?_take, h]
theorem wd_drop (a : List Int) (k j : Nat) : wd (a.drop k) j = wd a (k + j) := by unfold wd; simp [List.getD_eq_getElem?_getD, List.getElem?_drop]
theorem wd_map_mod (a : List Int) (p : Int) (j : Nat) : wd (a.map (· % p)) j = wd a j % p := co_map_mod a p j
end Go.Zig
