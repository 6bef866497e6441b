/- Words in memory: how a slice of words reads, what a call leaves as it was. -/
import Derived.Below
import Derived.WalkKit
import Derived.KernelRfl
import Derived.RowKit3
import Derived.Deep.LoopGhost
import Derived.Deep.QuietTactic
import Derived.BigQuiet
import Derived.Lib.Hide
import Derived.Deep.RegionHeld3
import Derived.Deep.DeepCutAuto
import Derived.Laws.MakeOwn
import Derived.Laws.OwnMore
import Derived.Laws.Slices
import Derived.OwnWalk
import Derived.Maps.AppendAt
set_option linter.unusedVariables false
set_option linter.unusedSimpArgs false
namespace Go.Zig
open Go.RowKit

theorem ret_int {k : IntKind} {a b : Int} (h : a = b) : Ending.returned (.int k a) = .returned (.int k b) := by rw [h]
theorem ret_int2 {k l : IntKind} {a b c d : Int} (h : a = b) (h' : c = d) : Ending.returned (.tuple #[.int k a, .int l c]) = .returned (.tuple #[.int k b, .int l d]) := by rw [h, h']
/-- The word at a place. -/
def wd (xs : List Int) (i : Nat) : Int := xs.getD i 0
/-- Words as the machine's values. -/
def wvals (xs : List Int) : List Value := xs.map fun x => Value.int .u64 x
theorem wvals_length (xs : List Int) : (wvals xs).length = xs.length := by simp [wvals]
theorem wvals_get (xs : List Int) (j : Nat) (h : j < xs.length) : (wvals xs)[j]? = some (.int .u64 (wd xs j)) := by
  simp [wvals, wd, h, List.getD_eq_getElem?_getD]
theorem wvals_oneCell (xs : List Int) : ∀ u ∈ wvals xs, u.oneCell' = true := by
  intro u hu; obtain ⟨x, _, rfl⟩ := List.mem_map.1 hu; rfl
/-- All are words. -/
def Wds (xs : List Int) : Prop := ∀ x ∈ xs, 0 ≤ x ∧ x ≤ 18446744073709551615
theorem Wds.wd {xs : List Int} (h : Wds xs) (i : Nat) : 0 ≤ wd xs i ∧ wd xs i ≤ 18446744073709551615 := by
  unfold Zig.wd
  rw [List.getD_eq_getElem?_getD]
  by_cases hi : i < xs.length
  · rw [List.getElem?_eq_getElem hi]
    exact h _ (List.getElem_mem hi)
  · rw [List.getElem?_eq_none (by omega)]; simp

/-- A slice (its address A, its length n, its capacity c) reads as these words. -/
structure Rd (w : World) (A : Option Addr) (n c : Nat) (xs : List Int) : Prop where
  len : xs.length = n
  cap : n ≤ c
  big : n ≤ 16777216
  small : Wds xs
  cells : 0 < n → ∃ b o, A = some ⟨b, o, none⟩ ∧ ∀ j, j < n → w.cell? ⟨b, o + j, none⟩ = some (.int .u64 (wd xs j))

theorem Rd.nil (w : World) (A : Option Addr) (c : Nat) : Rd w A 0 c [] := ⟨rfl, Nat.zero_le _, by omega, by simp [Wds], fun h => absurd h (by omega)⟩
theorem Rd.keep {w w' : World} {A : Option Addr} {n c : Nat} {xs : List Int} (h : Rd w A n c xs) {row : Option Nat} (hg : w.grownBy w' row)
    (hne : ∀ b o v, some b = row → w.cell? ⟨b, o, none⟩ ≠ some (.int .u64 v)) : Rd w' A n c xs :=
  ⟨h.len, h.cap, h.big, h.small, fun hn => by
    obtain ⟨b, o, e, hc⟩ := h.cells hn
    refine ⟨b, o, e, fun j hj => hg.cell (hc j hj) (fun e' => hne b (o + j) _ e' (hc j hj))⟩⟩
theorem Rd.grown {w w' : World} {A : Option Addr} {n c : Nat} {xs : List Int} (h : Rd w A n c xs) (hg : w.grownBy w' none) : Rd w' A n c xs :=
  h.keep hg (fun b o v e => by simp at e)
theorem Rd.below {w w' : World} {A : Option Addr} {n c : Nat} {xs : List Int} (h : Rd w A n c xs) (hg : Below w.heap.size w w') : Rd w' A n c xs :=
  h.grown ⟨hg.os, hg.tape, hg.output, hg.size, fun k hk _ => hg.block k hk⟩
/-- The slice's front part. -/
theorem Rd.take {w : World} {A : Option Addr} {n c : Nat} {xs : List Int} (h : Rd w A n c xs) (k : Nat) (hk : k ≤ n) : Rd w A k c (xs.take k) :=
  ⟨by rw [List.length_take, h.len]; omega, by have := h.cap; omega, by have := h.big; omega, fun x hx => h.small x (List.mem_of_mem_take hx), fun hn => by
    obtain ⟨b, o, e, hc⟩ := h.cells (by omega)
    refine ⟨b, o, e, fun j hj => ?_⟩
    rw [hc j (by omega)]
    simp [wd, List.getD_eq_getElem?_getD, hj]⟩
/-- The slice's end. -/
theorem Rd.drop {w : World} {A : Option Addr} {n c : Nat} {xs : List Int} (h : Rd w A n c xs) (k : Nat) (hk : k ≤ n) :
    Rd w (if c = k then A else A.map (·.add (k * 1))) (n - k) (c - k) (xs.drop k) :=
  ⟨by rw [List.length_drop, h.len], by have := h.cap; omega, by have := h.big; omega, fun x hx => h.small x (List.mem_of_mem_drop hx), fun hn => by
    obtain ⟨b, o, e, hc⟩ := h.cells (by omega)
    have := h.cap
    rw [if_neg (by omega), e]
    refine ⟨b, o + k, ?_, fun j hj => ?_⟩
    · simp [Addr.add]
    · rw [show o + k + j = o + (k + j) by omega, hc (k + j) (by omega)]
      simp [wd, List.getD_eq_getElem?_getD, List.getElem?_drop]⟩
/-- A row of the call's own reads as its words. -/
theorem Rd.own {w : World} {base e : Nat} {v : Value} {xs : List Int} (h : w.ownsRow base e 1 v xs.length (wvals xs)) (hb : xs.length ≤ 16777216) (hs : Wds xs) :
    ∃ A c, v = .slice A xs.length c ∧ Rd w A xs.length c xs := by
  rcases h.2 with ⟨rfl, h0⟩ | ⟨g, cap, cur, rfl, hg, hh, h1, h2, h3, h4⟩
  · have : xs = [] := List.eq_nil_of_length_eq_zero h0
    subst this
    exact ⟨none, 0, rfl, Rd.nil _ _ _⟩
  · refine ⟨_, _, rfl, rfl, h1, hb, hs, fun hn => ⟨g, 0, rfl, fun j hj => ?_⟩⟩
    rw [Nat.zero_add, h.cellAt (g := g) j (by omega), wvals_get xs j hj]

/-! ### A block that is known whole -/
def Blk (w : World) (g : Nat) (t : TypeId) (cs : Array Value) : Prop := w.heap[g]? = some (.cells cs t (0, 0))
section
variable {w w' : World} {g : Nat} {t : TypeId} {cs : Array Value}
theorem Blk.lt (h : Blk w g t cs) : g < w.heap.size := by
  rcases Nat.lt_or_ge g w.heap.size with hlt | hge
  · exact hlt
  · unfold Blk at h; rw [Array.getElem?_eq_none hge] at h; cases h
theorem Blk.cell (h : Blk w g t cs) (i : Nat) : w.cell? ⟨g, i, none⟩ = cs[i]? := by unfold Blk at h; simp [World.cell?, h]
theorem Blk.frozen (h : Blk w g t cs) (i : Nat) : w.frozen? ⟨g, i, none⟩ = false := by unfold Blk at h; simp [World.frozen?, h]
theorem Blk.new (w : World) (t : TypeId) (cs : Array Value) : Blk (w.alloc (.cells cs t)) w.heap.size t cs := heap_alloc_new w _
theorem Blk.drewN (h : Blk w g t cs) (n : Nat) : Blk (w.drewN n) g t cs := h
theorem Blk.alloc (h : Blk w g t cs) (o : Obj) : Blk (w.alloc o) g t cs := (Below.heap_alloc w o g h.lt).trans h
theorem Blk.set_ (h : Blk w g t cs) (i : Nat) (u : Value) : Blk (w.setCell ⟨g, i, none⟩ u) g t (cs.setIfInBounds i u) := by
  unfold Blk at h ⊢
  simp [World.setCell, Array.getElem?_modify, h]
theorem Blk.far (h : Blk w g t cs) {p : Addr} (hp : g ≠ p.block) (u : Value) : Blk (w.setCell p u) g t cs := (Below.heap_setCell w p u g hp).trans h
theorem Blk.grown {row : Option Nat} (h : Blk w g t cs) (hb : w.grownBy w' row) (hg : some g ≠ row) : Blk w' g t cs := (hb.block g h.lt hg).trans h
end
/-! ### Growth -/
theorem gr_alloc {w W : World} {row : Option Nat} (h : w.grownBy W row) (o : Obj) : w.grownBy (W.alloc o) row :=
  ⟨h.os, h.tape, h.output, by have := h.size; simp; omega, fun k hk hr => by rw [Below.heap_alloc _ _ _ (by have := h.size; omega)]; exact h.block k hk hr⟩
theorem gr_drewN {w W : World} {row : Option Nat} (h : w.grownBy W row) (n : Nat) : w.grownBy (W.drewN n) row := ⟨h.os, h.tape, h.output, h.size, h.block⟩
theorem gr_drew {w W : World} {row : Option Nat} (h : w.grownBy W row) : w.grownBy W.drew row := ⟨h.os, h.tape, h.output, h.size, h.block⟩
/-- A store into a block of the call's own. -/
theorem gr_set {w W : World} {row : Option Nat} (h : w.grownBy W row) {p : Addr} (hp : w.heap.size ≤ p.block) (u : Value) : w.grownBy (W.setCell p u) row :=
  ⟨h.os, h.tape, h.output, by have := h.size; simp [World.setCell]; omega, fun k hk hr => by rw [Below.heap_setCell _ _ _ _ (by omega)]; exact h.block k hk hr⟩
/-- A store into the row that may be written. -/
theorem gr_set_row {w W : World} {g : Nat} (h : w.grownBy W (some g)) {p : Addr} (hp : p.block = g) (u : Value) : w.grownBy (W.setCell p u) (some g) :=
  ⟨h.os, h.tape, h.output, by have := h.size; simp [World.setCell]; omega, fun k hk hr => by
    rw [Below.heap_setCell _ _ _ _ (by intro e; subst e; exact hr (by rw [hp]))]; exact h.block k hk hr⟩
theorem gr_refl (w : World) (row : Option Nat) : w.grownBy w row := World.grownBy.refl w row
/-- Two stretches; what the second may write is the first's row, or a block that was made since. -/
theorem gr_trans {w w1 w2 : World} {row r2 : Option Nat} (h : w.grownBy w1 row) (k : w1.grownBy w2 r2) (hr : ∀ g, r2 = some g → some g = row ∨ w.heap.size ≤ g) : w.grownBy w2 row :=
  ⟨k.os.trans h.os, k.tape.trans h.tape, k.output.trans h.output, Nat.le_trans h.size k.size, fun i hi hne => by
    rw [k.block i (Nat.lt_of_lt_of_le hi h.size) (fun e => by
      rcases hr i e.symm with h1 | h1
      · exact hne h1
      · omega)]
    exact h.block i hi hne⟩
theorem gr_more {w w1 : World} (h : w.grownBy w1 none) (row : Option Nat) : w.grownBy w1 row := ⟨h.os, h.tape, h.output, h.size, fun k hk _ => h.block k hk (by simp)⟩
theorem gr_trans0 {w w1 w2 : World} {row : Option Nat} (h : w.grownBy w1 row) (k : w1.grownBy w2 none) : w.grownBy w2 row := gr_trans h k (by simp)
theorem gr_trans1 {w w1 w2 : World} {row : Option Nat} (h : w.grownBy w1 row) (k : w1.grownBy w2 row) : w.grownBy w2 row := gr_trans h k (fun g e => .inl e.symm)
end Go.Zig
