/- Tables of thresholds, and engines that bear them. -/
import Derived.Test.YtmknijpjkikoeaaGreatDoorPrimeIs
set_option linter.unusedVariables false
set_option linter.unusedSimpArgs false
namespace Go.Zig
open Go.RowKit Go.Proofs

/-- A table. -/
structure Tb where
  base : Int
  toom : Int
  ntt : Int
  div : Int
  recip : Int
  lehmer : Int
  radix : Int
  poly : Int
  kron : Int
  series : Int
  tree : Int
def cl (n lo hi : Int) : Int := max lo (min n hi)
theorem cl_range (n lo hi : Int) (h : lo ≤ hi) : lo ≤ cl n lo hi ∧ cl n lo hi ≤ hi := by unfold cl; omega
def Tb.clamp (t : Tb) : Tb :=
  { base := cl t.base 4 64, toom := cl t.toom 12 8192, ntt := cl t.ntt 64 16384, div := cl t.div 4 1024, recip := cl t.recip 4 4096, lehmer := cl t.lehmer 2 1024,
    radix := cl t.radix 2 1024, poly := cl t.poly 4 256, kron := cl t.kron 4 1024, series := cl t.series 2 1024, tree := cl t.tree 2 256 }
def Tb.cells (t : Tb) : Array Value := #[.int .i64 t.base, .int .i64 t.toom, .int .i64 t.ntt, .int .i64 t.div, .int .i64 t.recip, .int .i64 t.lehmer, .int .i64 t.radix, .int .i64 t.poly, .int .i64 t.kron, .int .i64 t.series, .int .i64 t.tree]

set_option maxHeartbeats 400000 in
theorem within_any (n lo hi : Int) (w : World) : Calls Tryz.prog 179 #[.int .i64 n, .int .i64 lo, .int .i64 hi] w fun e w' => e = .returned (.int .i64 (cl n lo hi)) ∧ w' = w := by
  go_enter Tryz.func179, Tryz.ntmps179
  go_wp2_with fail
  go_ret
  exact ⟨rfl, rfl⟩
set_option maxHeartbeats 4000000 in
theorem clamp_any (t : Tb) (w : World) : Calls Tryz.prog 158 #[.agg t.cells] w fun e w' => e = .returned (.agg t.clamp.cells) ∧ w.grownBy w' none := by
  unfold Tb.cells
  go_enter Tryz.func158, Tryz.ntmps158
  go_wp2_with fail
  have b1 := (Blk.new w 23 t.cells).alloc (.cells #[.int .i64 0, .int .i64 0, .int .i64 0, .int .i64 0, .int .i64 0, .int .i64 0, .int .i64 0, .int .i64 0, .int .i64 0, .int .i64 0, .int .i64 0] 23)
  have b2 := Blk.new (w.alloc (.cells t.cells 23)) 23 #[.int .i64 0, .int .i64 0, .int .i64 0, .int .i64 0, .int .i64 0, .int .i64 0, .int .i64 0, .int .i64 0, .int .i64 0, .int .i64 0, .int .i64 0]
  have hg := gr_alloc (gr_alloc (gr_refl w none) (.cells t.cells 23)) (.cells #[.int .i64 0, .int .i64 0, .int .i64 0, .int .i64 0, .int .i64 0, .int .i64 0, .int .i64 0, .int .i64 0, .int .i64 0, .int .i64 0, .int .i64 0] 23)
  have hs : (w.alloc (.cells t.cells 23)).heap.size = w.heap.size + 1 := by simp
  rw [hs] at b2
  unfold Tb.cells at b1 b2 hg
  generalize (w.alloc (Obj.cells #[.int .i64 t.base, .int .i64 t.toom, .int .i64 t.ntt, .int .i64 t.div, .int .i64 t.recip, .int .i64 t.lehmer, .int .i64 t.radix, .int .i64 t.poly, .int .i64 t.kron, .int .i64 t.series, .int .i64 t.tree] 23)).alloc (.cells #[.int .i64 0, .int .i64 0, .int .i64 0, .int .i64 0, .int .i64 0, .int .i64 0, .int .i64 0, .int .i64 0, .int .i64 0, .int .i64 0, .int .i64 0] 23) = W at *
  have c0 := b1.cell 0
  have c1 := b1.cell 1
  have c2 := b1.cell 2
  have c3 := b1.cell 3
  have c4 := b1.cell 4
  have c5 := b1.cell 5
  have c6 := b1.cell 6
  have c7 := b1.cell 7
  have c8 := b1.cell 8
  have c9 := b1.cell 9
  have c10 := b1.cell 10
  have z0 := b2.cell 0
  have z1 := b2.cell 1
  have z2 := b2.cell 2
  have z3 := b2.cell 3
  have z4 := b2.cell 4
  have z5 := b2.cell 5
  have z6 := b2.cell 6
  have z7 := b2.cell 7
  have z8 := b2.cell 8
  have z9 := b2.cell 9
  have z10 := b2.cell 10
  have f0 := b2.frozen 0
  have f1 := b2.frozen 1
  have f2 := b2.frozen 2
  have f3 := b2.frozen 3
  have f4 := b2.frozen 4
  have f5 := b2.frozen 5
  have f6 := b2.frozen 6
  have f7 := b2.frozen 7
  have f8 := b2.frozen 8
  have f9 := b2.frozen 9
  have f10 := b2.frozen 10
  simp at c0 c1 c2 c3 c4 c5 c6 c7 c8 c9 c10 z0 z1 z2 z3 z4 z5 z6 z7 z8 z9 z10
  have HG := Lib.hid hg; clear hg hs
  have B1 := Lib.hid b1; clear b1
  have B2 := Lib.hid b2; clear b2
  generalize hB : w.heap.size = B at *
  have HB := Lib.hid hB; clear hB
  go_region_held3 (fun V => V.cell? ⟨B, 0, none⟩ = some (.int .i64 t.base) ∧ V.cell? ⟨B, 1, none⟩ = some (.int .i64 t.toom) ∧ V.cell? ⟨B, 2, none⟩ = some (.int .i64 t.ntt) ∧ V.cell? ⟨B, 3, none⟩ = some (.int .i64 t.div) ∧ V.cell? ⟨B, 4, none⟩ = some (.int .i64 t.recip) ∧ V.cell? ⟨B, 5, none⟩ = some (.int .i64 t.lehmer) ∧ V.cell? ⟨B, 6, none⟩ = some (.int .i64 t.radix) ∧ V.cell? ⟨B, 7, none⟩ = some (.int .i64 t.poly) ∧ V.cell? ⟨B, 8, none⟩ = some (.int .i64 t.kron) ∧ V.cell? ⟨B, 9, none⟩ = some (.int .i64 t.series) ∧ V.cell? ⟨B, 10, none⟩ = some (.int .i64 t.tree) ∧ V.frozen? ⟨B + 1, 0, none⟩ = false ∧ V.frozen? ⟨B + 1, 1, none⟩ = false ∧ V.frozen? ⟨B + 1, 2, none⟩ = false ∧ V.frozen? ⟨B + 1, 3, none⟩ = false ∧ V.frozen? ⟨B + 1, 4, none⟩ = false ∧ V.frozen? ⟨B + 1, 5, none⟩ = false ∧ V.frozen? ⟨B + 1, 6, none⟩ = false ∧ V.frozen? ⟨B + 1, 7, none⟩ = false ∧ V.frozen? ⟨B + 1, 8, none⟩ = false ∧ V.frozen? ⟨B + 1, 9, none⟩ = false ∧ V.frozen? ⟨B + 1, 10, none⟩ = false) (simp [go_sem, c0, c1, c2, c3, c4, c5, c6, c7, c8, c9, c10, f0, f1, f2, f3, f4, f5, f6, f7, f8, f9, f10])
    ((go_at_call 179; refine (within_any _ _ _ _).mono ?_; rintro e w' ⟨rfl, rfl⟩))
  go_wp2
  have hb1 : w.heap.size ≤ B + 1 := by have := HB.out; omega
  refine bodyPost_ret (v := .agg t.clamp.cells) ?_ rfl ⟨rfl, ?_⟩
  · unfold Tb.cells Tb.clamp
    simp [results, Tryz.results158, go_sem, z0, z1, z2, z3, z4, z5, z6, z7, z8, z9, z10]
  · refine gr_drew ?_
    repeat (refine gr_set ?_ hb1 _)
    exact HG.out
end Go.Zig
