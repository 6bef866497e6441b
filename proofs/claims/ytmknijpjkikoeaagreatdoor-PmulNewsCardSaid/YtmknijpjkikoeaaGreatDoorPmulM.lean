/- Package pmul: Mul, where the shorter one is short. -/
import Derived.Test.YtmknijpjkikoeaaGreatDoorPolyT
set_option linter.unusedVariables false
set_option linter.unusedSimpArgs false
namespace Go.Zig
open Go.RowKit Go.Proofs
section
variable {w : World} {eb r b tb : Nat} {l : List Nat} {p neg one two mu no de : Int} {t : Tb}
theorem PEng.keep {w w' : World} (h : PEng w eb r b l tb p neg one two mu no de t) (hg : w.grownBy w' none) : PEng w' eb r b l tb p neg one two mu no de t :=
  ⟨by obtain ⟨n0, l', e, hc⟩ := h.c1; exact ⟨n0, l', e, hg.cell hc (by simp)⟩, hg.cell h.c0 (by simp), hg.cell h.cr (by simp), h.m.keep hg (by simp), h.k, h.len, h.path.keep hg (fun _ _ => by simp), h.last, h.tune.grown hg (by simp)⟩
theorem PEng.chain (h : PEng w eb r b l tb p neg one two mu no de t) : ∃ n0 n1 n2 n3 n4 n5 n6 n7 n8 n9 n10 n11 n12 n13, l = [n0, n1, n2, n3, n4, n5, n6, n7, n8, n9, n10, n11, n12, n13, tb] ∧ w.cell? ⟨eb, 1, none⟩ = some (.pointer (some ⟨n0, 0, none⟩)) ∧ w.cell? ⟨n0, 0, none⟩ = some (.pointer (some ⟨n1, 0, none⟩)) ∧ w.cell? ⟨n1, 0, none⟩ = some (.pointer (some ⟨n2, 0, none⟩)) ∧ w.cell? ⟨n2, 0, none⟩ = some (.pointer (some ⟨n3, 0, none⟩)) ∧ w.cell? ⟨n3, 0, none⟩ = some (.pointer (some ⟨n4, 0, none⟩)) ∧ w.cell? ⟨n4, 0, none⟩ = some (.pointer (some ⟨n5, 0, none⟩)) ∧ w.cell? ⟨n5, 0, none⟩ = some (.pointer (some ⟨n6, 0, none⟩)) ∧ w.cell? ⟨n6, 0, none⟩ = some (.pointer (some ⟨n7, 0, none⟩)) ∧ w.cell? ⟨n7, 0, none⟩ = some (.pointer (some ⟨n8, 0, none⟩)) ∧ w.cell? ⟨n8, 0, none⟩ = some (.pointer (some ⟨n9, 0, none⟩)) ∧ w.cell? ⟨n9, 0, none⟩ = some (.pointer (some ⟨n10, 0, none⟩)) ∧ w.cell? ⟨n10, 0, none⟩ = some (.pointer (some ⟨n11, 0, none⟩)) ∧ w.cell? ⟨n11, 0, none⟩ = some (.pointer (some ⟨n12, 0, none⟩)) ∧ w.cell? ⟨n12, 0, none⟩ = some (.pointer (some ⟨n13, 0, none⟩)) ∧ w.cell? ⟨n13, 0, none⟩ = some (.pointer (some ⟨tb, 0, none⟩)) := by
  obtain ⟨n0, l, rfl, hc⟩ := h.c1
  have hl := h.len; have hp := h.path; have ht := h.last
  rcases l with _ | ⟨n1, l⟩
  · simp at hl
  rcases l with _ | ⟨n2, l⟩
  · simp at hl
  rcases l with _ | ⟨n3, l⟩
  · simp at hl
  rcases l with _ | ⟨n4, l⟩
  · simp at hl
  rcases l with _ | ⟨n5, l⟩
  · simp at hl
  rcases l with _ | ⟨n6, l⟩
  · simp at hl
  rcases l with _ | ⟨n7, l⟩
  · simp at hl
  rcases l with _ | ⟨n8, l⟩
  · simp at hl
  rcases l with _ | ⟨n9, l⟩
  · simp at hl
  rcases l with _ | ⟨n10, l⟩
  · simp at hl
  rcases l with _ | ⟨n11, l⟩
  · simp at hl
  rcases l with _ | ⟨n12, l⟩
  · simp at hl
  rcases l with _ | ⟨n13, l⟩
  · simp at hl
  rcases l with _ | ⟨n14, l⟩
  · simp at hl
  rcases l with _ | ⟨n15, l⟩
  · simp [Path] at hp ht
    subst ht
    exact ⟨n0, n1, n2, n3, n4, n5, n6, n7, n8, n9, n10, n11, n12, n13, rfl, hc, hp⟩
  · simp at hl
theorem PEng.ring (h : PEng w eb r b l tb p neg one two mu no de t) : RingAt w r b p neg one two := ⟨h.cr, h.m, h.k⟩

set_option maxHeartbeats 8000000 in
theorem pmul_Mul_small (A A' : Option Addr) (n c n' c' : Nat) (xs ys : List Int) (w : World) (h : Rd w A n c xs) (h' : Rd w A' n' c' ys) (hb : n + n' ≤ 16777216)
    (hp : PEng w eb r b l tb p neg one two mu no de t) (hs : (n : Int) < t.poly) :
    Calls Tryz.prog 20 #[.pointer (some ⟨eb, 0, none⟩), .slice A n c, .slice A' n' c'] w (NormPost p (pmul xs ys) w) := by
  have p1 := hp.k.lo; have p2 := hp.k.hi
  have c0 := hp.c0
  have HA := Lib.hid h; have HB := Lib.hid h'; have PE := Lib.hid hp
  clear h h' hp
  obtain ⟨X, hX⟩ : ∃ X, nrm p xs = X := ⟨_, rfl⟩
  obtain ⟨Y, hY⟩ : ∃ Y, nrm p ys = Y := ⟨_, rfl⟩
  have L1 : Hid (X.length ≤ n) := by have := nrm_length p xs; rw [HA.out.len, hX] at this; exact this
  have L2 : Hid (Y.length ≤ n') := by have := nrm_length p ys; rw [HB.out.len, hY] at this; exact this
  have EM : Hid (nrm p (pmul X Y) = nrm p (pmul xs ys)) := by rw [← hX, ← hY]; exact nrm_mul_nrm (by omega) xs ys
  obtain ⟨nx, hnx⟩ : ∃ nx, X.length = nx := ⟨_, rfl⟩
  obtain ⟨ny, hny⟩ : ∃ ny, Y.length = ny := ⟨_, rfl⟩
  have L1' := L1.out; have L2' := L2.out
  rw [hnx] at L1'; rw [hny] at L2'
  have HNX := Lib.hid hnx; have HNY := Lib.hid hny
  clear hnx hny L1 L2
  have HX := Lib.hid hX; have HY := Lib.hid hY; clear hX hY
  go_enter Tryz.func20, Tryz.ntmps20
  go_upto_region 1 with fail
  go_region_held3 (fun V => V.cell? ⟨eb, 0, none⟩ = some (.pointer (some ⟨r, 0, none⟩))) ((first | assumption | (exact G2.out.cell (by assumption) (by simp)) | (exact G1.out.cell (by assumption) (by simp)))) ((go_at_call 54; first
    | (have h0 := G1; clear h0; refine (poly_Norm _ _ _ ys _ (HB.out.grown (gr_trans0 (gr_drew (gr_refl _ _)) G1.out)) (PE.out.ring.grown (gr_trans0 (gr_drew (gr_refl _ _)) G1.out))).mono ?_; rintro e w2 ⟨v2, rfl, hO2, hg2⟩; rw [HY.out] at hO2; obtain ⟨A2, c2, rfl, R2⟩ := hO2.rdn HNY.out; have G2 := Lib.hid hg2; have HO2 := Lib.hid hO2; have HR2 := Lib.hid R2; clear hg2 hO2 R2)
    | (refine (poly_Norm _ _ _ xs _ (HA.out.grown (gr_drew (gr_refl _ _))) (PE.out.ring.grown (gr_drew (gr_refl _ _)))).mono ?_; rintro e w1 ⟨v1, rfl, hO1, hg1⟩; rw [HX.out] at hO1; obtain ⟨A1, c1, rfl, R1⟩ := hO1.rdn HNX.out; have G1 := Lib.hid hg1; have HO1 := Lib.hid hO1; have HR1 := Lib.hid R1; clear hg1 hO1 R1)))
  have PE2 := Lib.hid (PE.out.keep (gr_trans0 (gr_trans0 (gr_drew (gr_refl _ _)) G1.out) G2.out))
  obtain ⟨n0, n1, n2, n3, n4, n5, n6, n7, n8, n9, n10, n11, n12, n13, hl, k0, d0, d1, d2, d3, d4, d5, d6, d7, d8, d9, d10, d11, d12, d13⟩ := PE2.out.chain
  have bt := PE2.out.tune
  unfold tune at bt
  have t0 := bt.cell 3
  have t1 := bt.cell 4
  have t2 := bt.cell 5
  have t3 := bt.cell 6
  have t4 := bt.cell 7
  have t5 := bt.cell 8
  have t6 := bt.cell 9
  have t7 := bt.cell 10
  have t8 := bt.cell 11
  have t9 := bt.cell 12
  have t10 := bt.cell 13
  simp at t0 t1 t2 t3 t4 t5 t6 t7 t8 t9 t10
  clear bt hl
  go_upto_region 3 with fail
  have bt3 := Blk.new w2 23 t.cells
  unfold Tb.cells at bt3
  have u2 : (w2.alloc (.cells #[.int .i64 t.base, .int .i64 t.toom, .int .i64 t.ntt, .int .i64 t.div, .int .i64 t.recip, .int .i64 t.lehmer, .int .i64 t.radix, .int .i64 t.poly, .int .i64 t.kron, .int .i64 t.series, .int .i64 t.tree] 23)).cell? ⟨w2.heap.size, 2, none⟩ = some (.int .i64 t.ntt) := bt3.cell 2
  have u7 : (w2.alloc (.cells #[.int .i64 t.base, .int .i64 t.toom, .int .i64 t.ntt, .int .i64 t.div, .int .i64 t.recip, .int .i64 t.lehmer, .int .i64 t.radix, .int .i64 t.poly, .int .i64 t.kron, .int .i64 t.series, .int .i64 t.tree] 23)).cell? ⟨w2.heap.size, 7, none⟩ = some (.int .i64 t.poly) := bt3.cell 7
  have u8 : (w2.alloc (.cells #[.int .i64 t.base, .int .i64 t.toom, .int .i64 t.ntt, .int .i64 t.div, .int .i64 t.recip, .int .i64 t.lehmer, .int .i64 t.radix, .int .i64 t.poly, .int .i64 t.kron, .int .i64 t.series, .int .i64 t.tree] 23)).cell? ⟨w2.heap.size, 8, none⟩ = some (.int .i64 t.kron) := bt3.cell 8
  have hg3 := Lib.hid (gr_alloc (gr_refl w2 none) (.cells #[.int .i64 t.base, .int .i64 t.toom, .int .i64 t.ntt, .int .i64 t.div, .int .i64 t.recip, .int .i64 t.lehmer, .int .i64 t.radix, .int .i64 t.poly, .int .i64 t.kron, .int .i64 t.series, .int .i64 t.tree] 23))
  clear bt3
  generalize w2.alloc (.cells #[.int .i64 t.base, .int .i64 t.toom, .int .i64 t.ntt, .int .i64 t.div, .int .i64 t.recip, .int .i64 t.lehmer, .int .i64 t.radix, .int .i64 t.poly, .int .i64 t.kron, .int .i64 t.series, .int .i64 t.tree] 23) = W3 at *
  generalize w2.heap.size = g3 at *
  clear t0 t1 t2 t3 t4 t5 t6 t7 t8 t9 t10 d0 d1 d2 d3 d4 d5 d6 d7 d8 d9 d10 d11 d12 d13 k0
  have c3 := hg3.out.cell PE2.out.c0 (by simp)
  go_wp2_with (go_at_call 55; refine (poly_Times _ _ _ _ _ _ X Y _ ((HR1.out.grown G2.out).grown hg3.out) (HR2.out.grown hg3.out) (by omega) (PE2.out.ring.grown hg3.out)).mono ?_; rintro e w4 ⟨v4, rfl, hO4, hg4⟩; have HO4 := Lib.hid hO4; have G4 := Lib.hid hg4; clear hO4 hg4)
  go_ret
  have hgr := gr_trans0 (gr_trans0 (gr_trans0 (gr_trans0 (gr_drew (gr_refl w none)) G1.out) G2.out) hg3.out) G4.out
  refine ⟨_, rfl, ?_, hgr⟩
  rw [← EM.out]
  exact HO4.out.base (gr_trans0 (gr_trans0 (gr_trans0 (gr_drew (gr_refl w none)) G1.out) G2.out) hg3.out).size
end
end Go.Zig
