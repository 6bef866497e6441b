/- Engines: what every New makes. -/
import Derived.Test.YtmknijpjkikoeaaGreatDoorTable
set_option linter.unusedVariables false
set_option linter.unusedSimpArgs false
namespace Go.Zig
open Go.RowKit Go.Proofs

/-- A Tune's cells: what was spent, the level now, the greatest one; the table. -/
def tune (mu no de : Int) (t : Tb) : Array Value := #[.int .i64 mu, .int .i64 no, .int .i64 de, .int .i64 t.base, .int .i64 t.toom, .int .i64 t.ntt, .int .i64 t.div, .int .i64 t.recip, .int .i64 t.lehmer, .int .i64 t.radix, .int .i64 t.poly, .int .i64 t.kron, .int .i64 t.series, .int .i64 t.tree]
/-- Pointers from block to block. -/
def Path (w : World) : List Nat → Prop
  | b :: c :: l => w.cell? ⟨b, 0, none⟩ = some (.pointer (some ⟨c, 0, none⟩)) ∧ Path w (c :: l)
  | _ => True
theorem Path.keep {w w' : World} {row : Option Nat} (hg : w.grownBy w' row) : ∀ {l : List Nat}, Path w l → (∀ b ∈ l.dropLast, some b ≠ row) → Path w' l
  | [], _, _ => trivial
  | [_], _, _ => trivial
  | b :: c :: l, h, hr => ⟨hg.cell h.1 (hr b (by simp [List.dropLast])), Path.keep hg h.2 (fun x hx => hr x (by simp [List.dropLast]; exact .inr hx))⟩
/-- What New leaves: n pointers, then a Tune. -/
def NewPost (n : Nat) (t : Tb) (w : World) (e : Ending) (w' : World) : Prop :=
  ∃ b l tb, l.length = n ∧ e = .returned (.pointer (some ⟨b, 0, none⟩)) ∧ (∀ x ∈ b :: l, w.heap.size ≤ x) ∧ Path w' (b :: l) ∧ (b :: l).getLast? = some tb ∧ Blk w' tb 87 (tune 0 0 0 t.clamp) ∧ w.grownBy w' none

set_option maxHeartbeats 4000000 in
theorem table_New (t : Tb) (w : World) : Calls Tryz.prog 155 #[.agg t.cells] w (NewPost 0 t w) := by
  unfold Tb.cells
  have e : t.clamp.cells = #[.int .i64 t.clamp.base, .int .i64 t.clamp.toom, .int .i64 t.clamp.ntt, .int .i64 t.clamp.div, .int .i64 t.clamp.recip, .int .i64 t.clamp.lehmer, .int .i64 t.clamp.radix, .int .i64 t.clamp.poly, .int .i64 t.clamp.kron, .int .i64 t.clamp.series, .int .i64 t.clamp.tree] := rfl
  have E := Lib.hid e; clear e
  go_enter Tryz.func155, Tryz.ntmps155
  go_wp2_with (go_at_call 158; refine (clamp_any t _).mono ?_; rw [E.out]; obtain ⟨u, hu⟩ : ∃ u, u = t.clamp := ⟨_, rfl⟩; rw [← hu]; have HU := Lib.hid hu; clear hu; rintro e w1 ⟨rfl, hg⟩; have HG := Lib.hid hg; clear hg)
  go_ret
  refine ⟨w1.heap.size, [], w1.heap.size, rfl, rfl, ?_, trivial, rfl, ?_, gr_alloc (gr_trans0 (gr_alloc (gr_refl _ _) _) HG.out) _⟩
  · intro x hx
    have h1 := HG.out.size
    simp at hx h1
    omega
  · rw [← HU.out]
    exact Blk.new _ _ _

set_option maxHeartbeats 4000000 in
theorem school_New (t : Tb) (w : World) : Calls Tryz.prog 122 #[.agg t.cells] w (NewPost 1 t w) := by
  have C := Lib.hid (show ∀ W, Calls Tryz.prog 155 #[.agg t.cells] W (NewPost 0 t W) from fun W => table_New t W)
  unfold Tb.cells at *
  go_enter Tryz.func122, Tryz.ntmps122
  go_wp2_with (go_at_call 155; refine (C.out _).mono ?_; rintro e w1 ⟨b, l, tb, hl, rfl, hx, hp, ht, hk, hg⟩; have HL := Lib.hid hl; have HX := Lib.hid hx; have HP := Lib.hid hp; have HT := Lib.hid ht; have HK := Lib.hid hk; have HG := Lib.hid hg; clear hl hx hp ht hk hg)
  go_ret
  have hs := HG.out.size
  simp at hs
  refine ⟨w1.heap.size, b :: l, tb, by simp [HL.out], rfl, ?_, ⟨?_, ?_⟩, ?_, HK.out.alloc _, gr_alloc (gr_trans0 (gr_alloc (gr_refl _ _) _) HG.out) _⟩
  · intro x hx
    rcases List.mem_cons.1 hx with e | e
    · omega
    · have := HX.out x e; simp at this; omega
  · exact (Blk.new w1 _ _).cell 0
  · exact Path.keep (gr_alloc (gr_refl _ none) _) HP.out (fun _ _ => by simp)
  · rw [List.getLast?_cons_cons]; exact HT.out

set_option maxHeartbeats 4000000 in
theorem kara_New (t : Tb) (w : World) : Calls Tryz.prog 94 #[.agg t.cells] w (NewPost 2 t w) := by
  have C := Lib.hid (show ∀ W, Calls Tryz.prog 122 #[.agg t.cells] W (NewPost 1 t W) from fun W => school_New t W)
  unfold Tb.cells at *
  go_enter Tryz.func94, Tryz.ntmps94
  go_wp2_with (go_at_call 122; refine (C.out _).mono ?_; rintro e w1 ⟨b, l, tb, hl, rfl, hx, hp, ht, hk, hg⟩; have HL := Lib.hid hl; have HX := Lib.hid hx; have HP := Lib.hid hp; have HT := Lib.hid ht; have HK := Lib.hid hk; have HG := Lib.hid hg; clear hl hx hp ht hk hg)
  go_ret
  have hs := HG.out.size
  simp at hs
  refine ⟨w1.heap.size, b :: l, tb, by simp [HL.out], rfl, ?_, ⟨?_, ?_⟩, ?_, HK.out.alloc _, gr_alloc (gr_trans0 (gr_alloc (gr_refl _ _) _) HG.out) _⟩
  · intro x hx
    rcases List.mem_cons.1 hx with e | e
    · omega
    · have := HX.out x e; simp at this; omega
  · exact (Blk.new w1 _ _).cell 0
  · exact Path.keep (gr_alloc (gr_refl _ none) _) HP.out (fun _ _ => by simp)
  · rw [List.getLast?_cons_cons]; exact HT.out

set_option maxHeartbeats 4000000 in
theorem toom_New (t : Tb) (w : World) : Calls Tryz.prog 64 #[.agg t.cells] w (NewPost 3 t w) := by
  have C := Lib.hid (show ∀ W, Calls Tryz.prog 94 #[.agg t.cells] W (NewPost 2 t W) from fun W => kara_New t W)
  unfold Tb.cells at *
  go_enter Tryz.func64, Tryz.ntmps64
  go_wp2_with (go_at_call 94; refine (C.out _).mono ?_; rintro e w1 ⟨b, l, tb, hl, rfl, hx, hp, ht, hk, hg⟩; have HL := Lib.hid hl; have HX := Lib.hid hx; have HP := Lib.hid hp; have HT := Lib.hid ht; have HK := Lib.hid hk; have HG := Lib.hid hg; clear hl hx hp ht hk hg)
  go_ret
  have hs := HG.out.size
  simp at hs
  refine ⟨w1.heap.size, b :: l, tb, by simp [HL.out], rfl, ?_, ⟨?_, ?_⟩, ?_, HK.out.alloc _, gr_alloc (gr_trans0 (gr_alloc (gr_refl _ _) _) HG.out) _⟩
  · intro x hx
    rcases List.mem_cons.1 hx with e | e
    · omega
    · have := HX.out x e; simp at this; omega
  · exact (Blk.new w1 _ _).cell 0
  · exact Path.keep (gr_alloc (gr_refl _ none) _) HP.out (fun _ _ => by simp)
  · rw [List.getLast?_cons_cons]; exact HT.out

set_option maxHeartbeats 4000000 in
theorem mul_New (t : Tb) (w : World) : Calls Tryz.prog 35 #[.agg t.cells] w (NewPost 4 t w) := by
  have C := Lib.hid (show ∀ W, Calls Tryz.prog 64 #[.agg t.cells] W (NewPost 3 t W) from fun W => toom_New t W)
  unfold Tb.cells at *
  go_enter Tryz.func35, Tryz.ntmps35
  go_wp2_with (go_at_call 64; refine (C.out _).mono ?_; rintro e w1 ⟨b, l, tb, hl, rfl, hx, hp, ht, hk, hg⟩; have HL := Lib.hid hl; have HX := Lib.hid hx; have HP := Lib.hid hp; have HT := Lib.hid ht; have HK := Lib.hid hk; have HG := Lib.hid hg; clear hl hx hp ht hk hg)
  go_ret
  have hs := HG.out.size
  simp at hs
  refine ⟨w1.heap.size, b :: l, tb, by simp [HL.out], rfl, ?_, ⟨?_, ?_⟩, ?_, HK.out.alloc _, gr_alloc (gr_trans0 (gr_alloc (gr_refl _ _) _) HG.out) _⟩
  · intro x hx
    rcases List.mem_cons.1 hx with e | e
    · omega
    · have := HX.out x e; simp at this; omega
  · exact (Blk.new w1 _ _).cell 0
  · exact Path.keep (gr_alloc (gr_refl _ none) _) HP.out (fun _ _ => by simp)
  · rw [List.getLast?_cons_cons]; exact HT.out

set_option maxHeartbeats 4000000 in
theorem divs_New (t : Tb) (w : World) : Calls Tryz.prog 189 #[.agg t.cells] w (NewPost 5 t w) := by
  have C := Lib.hid (show ∀ W, Calls Tryz.prog 35 #[.agg t.cells] W (NewPost 4 t W) from fun W => mul_New t W)
  unfold Tb.cells at *
  go_enter Tryz.func189, Tryz.ntmps189
  go_wp2_with (go_at_call 35; refine (C.out _).mono ?_; rintro e w1 ⟨b, l, tb, hl, rfl, hx, hp, ht, hk, hg⟩; have HL := Lib.hid hl; have HX := Lib.hid hx; have HP := Lib.hid hp; have HT := Lib.hid ht; have HK := Lib.hid hk; have HG := Lib.hid hg; clear hl hx hp ht hk hg)
  go_ret
  have hs := HG.out.size
  simp at hs
  refine ⟨w1.heap.size, b :: l, tb, by simp [HL.out], rfl, ?_, ⟨?_, ?_⟩, ?_, HK.out.alloc _, gr_alloc (gr_trans0 (gr_alloc (gr_refl _ _) _) HG.out) _⟩
  · intro x hx
    rcases List.mem_cons.1 hx with e | e
    · omega
    · have := HX.out x e; simp at this; omega
  · exact (Blk.new w1 _ _).cell 0
  · exact Path.keep (gr_alloc (gr_refl _ none) _) HP.out (fun _ _ => by simp)
  · rw [List.getLast?_cons_cons]; exact HT.out

set_option maxHeartbeats 4000000 in
theorem recip_New (t : Tb) (w : World) : Calls Tryz.prog 188 #[.agg t.cells] w (NewPost 6 t w) := by
  have C := Lib.hid (show ∀ W, Calls Tryz.prog 189 #[.agg t.cells] W (NewPost 5 t W) from fun W => divs_New t W)
  unfold Tb.cells at *
  go_enter Tryz.func188, Tryz.ntmps188
  go_wp2_with (go_at_call 189; refine (C.out _).mono ?_; rintro e w1 ⟨b, l, tb, hl, rfl, hx, hp, ht, hk, hg⟩; have HL := Lib.hid hl; have HX := Lib.hid hx; have HP := Lib.hid hp; have HT := Lib.hid ht; have HK := Lib.hid hk; have HG := Lib.hid hg; clear hl hx hp ht hk hg)
  go_ret
  have hs := HG.out.size
  simp at hs
  refine ⟨w1.heap.size, b :: l, tb, by simp [HL.out], rfl, ?_, ⟨?_, ?_⟩, ?_, HK.out.alloc _, gr_alloc (gr_trans0 (gr_alloc (gr_refl _ _) _) HG.out) _⟩
  · intro x hx
    rcases List.mem_cons.1 hx with e | e
    · omega
    · have := HX.out x e; simp at this; omega
  · exact (Blk.new w1 _ _).cell 0
  · exact Path.keep (gr_alloc (gr_refl _ none) _) HP.out (fun _ _ => by simp)
  · rw [List.getLast?_cons_cons]; exact HT.out

set_option maxHeartbeats 4000000 in
theorem div_New (t : Tb) (w : World) : Calls Tryz.prog 187 #[.agg t.cells] w (NewPost 7 t w) := by
  have C := Lib.hid (show ∀ W, Calls Tryz.prog 188 #[.agg t.cells] W (NewPost 6 t W) from fun W => recip_New t W)
  unfold Tb.cells at *
  go_enter Tryz.func187, Tryz.ntmps187
  go_wp2_with (go_at_call 188; refine (C.out _).mono ?_; rintro e w1 ⟨b, l, tb, hl, rfl, hx, hp, ht, hk, hg⟩; have HL := Lib.hid hl; have HX := Lib.hid hx; have HP := Lib.hid hp; have HT := Lib.hid ht; have HK := Lib.hid hk; have HG := Lib.hid hg; clear hl hx hp ht hk hg)
  go_ret
  have hs := HG.out.size
  simp at hs
  refine ⟨w1.heap.size, b :: l, tb, by simp [HL.out], rfl, ?_, ⟨?_, ?_⟩, ?_, HK.out.alloc _, gr_alloc (gr_trans0 (gr_alloc (gr_refl _ _) _) HG.out) _⟩
  · intro x hx
    rcases List.mem_cons.1 hx with e | e
    · omega
    · have := HX.out x e; simp at this; omega
  · exact (Blk.new w1 _ _).cell 0
  · exact Path.keep (gr_alloc (gr_refl _ none) _) HP.out (fun _ _ => by simp)
  · rw [List.getLast?_cons_cons]; exact HT.out

set_option maxHeartbeats 4000000 in
theorem root_New (t : Tb) (w : World) : Calls Tryz.prog 185 #[.agg t.cells] w (NewPost 8 t w) := by
  have C := Lib.hid (show ∀ W, Calls Tryz.prog 187 #[.agg t.cells] W (NewPost 7 t W) from fun W => div_New t W)
  unfold Tb.cells at *
  go_enter Tryz.func185, Tryz.ntmps185
  go_wp2_with (go_at_call 187; refine (C.out _).mono ?_; rintro e w1 ⟨b, l, tb, hl, rfl, hx, hp, ht, hk, hg⟩; have HL := Lib.hid hl; have HX := Lib.hid hx; have HP := Lib.hid hp; have HT := Lib.hid ht; have HK := Lib.hid hk; have HG := Lib.hid hg; clear hl hx hp ht hk hg)
  go_ret
  have hs := HG.out.size
  simp at hs
  refine ⟨w1.heap.size, b :: l, tb, by simp [HL.out], rfl, ?_, ⟨?_, ?_⟩, ?_, HK.out.alloc _, gr_alloc (gr_trans0 (gr_alloc (gr_refl _ _) _) HG.out) _⟩
  · intro x hx
    rcases List.mem_cons.1 hx with e | e
    · omega
    · have := HX.out x e; simp at this; omega
  · exact (Blk.new w1 _ _).cell 0
  · exact Path.keep (gr_alloc (gr_refl _ none) _) HP.out (fun _ _ => by simp)
  · rw [List.getLast?_cons_cons]; exact HT.out

set_option maxHeartbeats 4000000 in
theorem radix_New (t : Tb) (w : World) : Calls Tryz.prog 180 #[.agg t.cells] w (NewPost 9 t w) := by
  have C := Lib.hid (show ∀ W, Calls Tryz.prog 185 #[.agg t.cells] W (NewPost 8 t W) from fun W => root_New t W)
  unfold Tb.cells at *
  go_enter Tryz.func180, Tryz.ntmps180
  go_wp2_with (go_at_call 185; refine (C.out _).mono ?_; rintro e w1 ⟨b, l, tb, hl, rfl, hx, hp, ht, hk, hg⟩; have HL := Lib.hid hl; have HX := Lib.hid hx; have HP := Lib.hid hp; have HT := Lib.hid ht; have HK := Lib.hid hk; have HG := Lib.hid hg; clear hl hx hp ht hk hg)
  go_ret
  have hs := HG.out.size
  simp at hs
  refine ⟨w1.heap.size, b :: l, tb, by simp [HL.out], rfl, ?_, ⟨?_, ?_⟩, ?_, HK.out.alloc _, gr_alloc (gr_trans0 (gr_alloc (gr_refl _ _) _) HG.out) _⟩
  · intro x hx
    rcases List.mem_cons.1 hx with e | e
    · omega
    · have := HX.out x e; simp at this; omega
  · exact (Blk.new w1 _ _).cell 0
  · exact Path.keep (gr_alloc (gr_refl _ none) _) HP.out (fun _ _ => by simp)
  · rw [List.getLast?_cons_cons]; exact HT.out

set_option maxHeartbeats 4000000 in
theorem num_New (t : Tb) (w : World) : Calls Tryz.prog 174 #[.agg t.cells] w (NewPost 10 t w) := by
  have C := Lib.hid (show ∀ W, Calls Tryz.prog 180 #[.agg t.cells] W (NewPost 9 t W) from fun W => radix_New t W)
  unfold Tb.cells at *
  go_enter Tryz.func174, Tryz.ntmps174
  go_wp2_with (go_at_call 180; refine (C.out _).mono ?_; rintro e w1 ⟨b, l, tb, hl, rfl, hx, hp, ht, hk, hg⟩; have HL := Lib.hid hl; have HX := Lib.hid hx; have HP := Lib.hid hp; have HT := Lib.hid ht; have HK := Lib.hid hk; have HG := Lib.hid hg; clear hl hx hp ht hk hg)
  go_ret
  have hs := HG.out.size
  simp at hs
  refine ⟨w1.heap.size, b :: l, tb, by simp [HL.out], rfl, ?_, ⟨?_, ?_⟩, ?_, HK.out.alloc _, gr_alloc (gr_trans0 (gr_alloc (gr_refl _ _) _) HG.out) _⟩
  · intro x hx
    rcases List.mem_cons.1 hx with e | e
    · omega
    · have := HX.out x e; simp at this; omega
  · exact (Blk.new w1 _ _).cell 0
  · exact Path.keep (gr_alloc (gr_refl _ none) _) HP.out (fun _ _ => by simp)
  · rw [List.getLast?_cons_cons]; exact HT.out

set_option maxHeartbeats 4000000 in
theorem power_New (t : Tb) (w : World) : Calls Tryz.prog 146 #[.agg t.cells] w (NewPost 11 t w) := by
  have C := Lib.hid (show ∀ W, Calls Tryz.prog 174 #[.agg t.cells] W (NewPost 10 t W) from fun W => num_New t W)
  unfold Tb.cells at *
  go_enter Tryz.func146, Tryz.ntmps146
  go_wp2_with (go_at_call 174; refine (C.out _).mono ?_; rintro e w1 ⟨b, l, tb, hl, rfl, hx, hp, ht, hk, hg⟩; have HL := Lib.hid hl; have HX := Lib.hid hx; have HP := Lib.hid hp; have HT := Lib.hid ht; have HK := Lib.hid hk; have HG := Lib.hid hg; clear hl hx hp ht hk hg)
  go_ret
  have hs := HG.out.size
  simp at hs
  refine ⟨w1.heap.size, b :: l, tb, by simp [HL.out], rfl, ?_, ⟨?_, ?_⟩, ?_, HK.out.alloc _, gr_alloc (gr_trans0 (gr_alloc (gr_refl _ _) _) HG.out) _⟩
  · intro x hx
    rcases List.mem_cons.1 hx with e | e
    · omega
    · have := HX.out x e; simp at this; omega
  · exact (Blk.new w1 _ _).cell 0
  · exact Path.keep (gr_alloc (gr_refl _ none) _) HP.out (fun _ _ => by simp)
  · rw [List.getLast?_cons_cons]; exact HT.out

set_option maxHeartbeats 4000000 in
theorem gcd_New (t : Tb) (w : World) : Calls Tryz.prog 107 #[.agg t.cells] w (NewPost 12 t w) := by
  have C := Lib.hid (show ∀ W, Calls Tryz.prog 146 #[.agg t.cells] W (NewPost 11 t W) from fun W => power_New t W)
  unfold Tb.cells at *
  go_enter Tryz.func107, Tryz.ntmps107
  go_wp2_with (go_at_call 146; refine (C.out _).mono ?_; rintro e w1 ⟨b, l, tb, hl, rfl, hx, hp, ht, hk, hg⟩; have HL := Lib.hid hl; have HX := Lib.hid hx; have HP := Lib.hid hp; have HT := Lib.hid ht; have HK := Lib.hid hk; have HG := Lib.hid hg; clear hl hx hp ht hk hg)
  go_ret
  have hs := HG.out.size
  simp at hs
  refine ⟨w1.heap.size, b :: l, tb, by simp [HL.out], rfl, ?_, ⟨?_, ?_⟩, ?_, HK.out.alloc _, gr_alloc (gr_trans0 (gr_alloc (gr_refl _ _) _) HG.out) _⟩
  · intro x hx
    rcases List.mem_cons.1 hx with e | e
    · omega
    · have := HX.out x e; simp at this; omega
  · exact (Blk.new w1 _ _).cell 0
  · exact Path.keep (gr_alloc (gr_refl _ none) _) HP.out (fun _ _ => by simp)
  · rw [List.getLast?_cons_cons]; exact HT.out

set_option maxHeartbeats 4000000 in
theorem hgcd_New (t : Tb) (w : World) : Calls Tryz.prog 77 #[.agg t.cells] w (NewPost 13 t w) := by
  have C := Lib.hid (show ∀ W, Calls Tryz.prog 107 #[.agg t.cells] W (NewPost 12 t W) from fun W => gcd_New t W)
  unfold Tb.cells at *
  go_enter Tryz.func77, Tryz.ntmps77
  go_wp2_with (go_at_call 107; refine (C.out _).mono ?_; rintro e w1 ⟨b, l, tb, hl, rfl, hx, hp, ht, hk, hg⟩; have HL := Lib.hid hl; have HX := Lib.hid hx; have HP := Lib.hid hp; have HT := Lib.hid ht; have HK := Lib.hid hk; have HG := Lib.hid hg; clear hl hx hp ht hk hg)
  go_ret
  have hs := HG.out.size
  simp at hs
  refine ⟨w1.heap.size, b :: l, tb, by simp [HL.out], rfl, ?_, ⟨?_, ?_⟩, ?_, HK.out.alloc _, gr_alloc (gr_trans0 (gr_alloc (gr_refl _ _) _) HG.out) _⟩
  · intro x hx
    rcases List.mem_cons.1 hx with e | e
    · omega
    · have := HX.out x e; simp at this; omega
  · exact (Blk.new w1 _ _).cell 0
  · exact Path.keep (gr_alloc (gr_refl _ none) _) HP.out (fun _ _ => by simp)
  · rw [List.getLast?_cons_cons]; exact HT.out

set_option maxHeartbeats 4000000 in
theorem modn_New (t : Tb) (w : World) : Calls Tryz.prog 50 #[.agg t.cells] w (NewPost 14 t w) := by
  have C := Lib.hid (show ∀ W, Calls Tryz.prog 77 #[.agg t.cells] W (NewPost 13 t W) from fun W => hgcd_New t W)
  unfold Tb.cells at *
  go_enter Tryz.func50, Tryz.ntmps50
  go_wp2_with (go_at_call 77; refine (C.out _).mono ?_; rintro e w1 ⟨b, l, tb, hl, rfl, hx, hp, ht, hk, hg⟩; have HL := Lib.hid hl; have HX := Lib.hid hx; have HP := Lib.hid hp; have HT := Lib.hid ht; have HK := Lib.hid hk; have HG := Lib.hid hg; clear hl hx hp ht hk hg)
  go_ret
  have hs := HG.out.size
  simp at hs
  refine ⟨w1.heap.size, b :: l, tb, by simp [HL.out], rfl, ?_, ⟨?_, ?_⟩, ?_, HK.out.alloc _, gr_alloc (gr_trans0 (gr_alloc (gr_refl _ _) _) HG.out) _⟩
  · intro x hx
    rcases List.mem_cons.1 hx with e | e
    · omega
    · have := HX.out x e; simp at this; omega
  · exact (Blk.new w1 _ _).cell 0
  · exact Path.keep (gr_alloc (gr_refl _ none) _) HP.out (fun _ _ => by simp)
  · rw [List.getLast?_cons_cons]; exact HT.out
end Go.Zig
