/- Package polyp: the product by hand. -/
import Derived.Test.YtmknijpjkikoeaaGreatDoorPolyp
set_option linter.unusedVariables false
set_option linter.unusedSimpArgs false
namespace Go.Zig
open Go.RowKit Go.Proofs
section
variable {r b : Nat} {p neg one two : Int}
theorem nrm_mul_nil {p : Int} (hp : 0 < p) (xs ys : List Int) (h : nrm p xs = [] ∨ nrm p ys = []) : nrm p (pmul xs ys) = [] := by
  have e : Cg p (pmul xs ys) [] := by
    rcases h with h | h
    · have := (Cg_nrm p xs).symm
      rw [h] at this
      exact (this.mul (Cg.refl ys)).trans (Cg.of_ev fun x => by rw [ev_pmul]; simp)
    · have := (Cg_nrm p ys).symm
      rw [h] at this
      exact ((Cg.refl xs).mul this).trans (Cg.of_ev fun x => by rw [ev_pmul]; simp)
  rw [nrm_congr hp e]; rfl
theorem nrm_mul_nrm {p : Int} (hp : 0 < p) (xs ys : List Int) : nrm p (pmul (nrm p xs) (nrm p ys)) = nrm p (pmul xs ys) := nrm_congr hp ((Cg_nrm p xs).mul (Cg_nrm p ys))
theorem Own.rdn {w w' : World} {v : Value} {ys : List Int} (h : Own w w' v ys) {n : Nat} (hn : ys.length = n) : ∃ A c, v = .slice A n c ∧ Rd w' A n c ys := by subst hn; exact h.rd
theorem tm_alg1 (a b c q : Int) : a * b + q * (c * b) = (a + q * c) * b := by grind
theorem tm_alg2 (s q c d r e : Int) : s + q * (c * d) + q * r * (c * e) = s + q * (c * (d + r * e)) := by grind
theorem tm_dvd (p y a b : Int) : p ∣ addm y (mulm a b p) p - (y + a * b) := by
  unfold addm mulm
  have h1 := dvd_emod_sub p (y + a * b % p)
  have h2 := dvd_emod_sub p (a * b)
  have := Int.dvd_add h1 h2
  rwa [show (y + a * b % p) % p - (y + a * b % p) + (a * b % p - a * b) = (y + a * b % p) % p - (y + a * b) by omega] at this

set_option maxHeartbeats 8000000 in
theorem poly_Times (A A' : Option Addr) (n c n' c' : Nat) (xs ys : List Int) (w : World) (h : Rd w A n c xs) (h' : Rd w A' n' c' ys) (hb : n + n' ≤ 16777216) (rg : RingAt w r b p neg one two) :
    Calls Tryz.prog 55 #[.pointer (some ⟨r, 0, none⟩), .slice A n c, .slice A' n' c'] w (NormPost p (pmul xs ys) w) := by
  have p1 := rg.k.lo; have p2 := rg.k.hi
  have HA := Lib.hid h; have HB := Lib.hid h'; have RG := Lib.hid rg
  clear h h' rg
  obtain ⟨X, hX⟩ : ∃ X, nrm p xs = X := ⟨_, rfl⟩
  obtain ⟨Y, hY⟩ : ∃ Y, nrm p ys = Y := ⟨_, rfl⟩
  have L1 : Hid (X.length ≤ n) := by have := nrm_length p xs; rw [HA.out.len, hX] at this; exact this
  have L2 : Hid (Y.length ≤ n') := by have := nrm_length p ys; rw [HB.out.len, hY] at this; exact this
  have X1 : Hid (Nrm p X) := hX ▸ Nrm_nrm (by omega) xs
  have X2 : Hid (Nrm p Y) := hY ▸ Nrm_nrm (by omega) ys
  have EM : Hid (nrm p (pmul X Y) = nrm p (pmul xs ys)) := by rw [← hX, ← hY]; exact nrm_mul_nrm (by omega) xs ys
  have EN : Hid (X.length = 0 ∨ Y.length = 0 → nrm p (pmul xs ys) = []) := fun h => nrm_mul_nil (show 0 < p by omega) xs ys (by rw [hX, hY]; exact h.imp List.eq_nil_of_length_eq_zero List.eq_nil_of_length_eq_zero)
  obtain ⟨nx, hnx⟩ : ∃ nx, X.length = nx := ⟨_, rfl⟩
  obtain ⟨ny, hny⟩ : ∃ ny, Y.length = ny := ⟨_, rfl⟩
  have L1' := L1.out; have L2' := L2.out
  rw [hnx] at L1'; rw [hny] at L2'
  have HNX := Lib.hid hnx; have HNY := Lib.hid hny
  clear hnx hny L1 L2
  have HX := Lib.hid hX; have HY := Lib.hid hY; clear hX hY
  go_enter Tryz.func55, Tryz.ntmps55
  go_upto_region 2 with (go_at_call 54; first
    | (have h0 := G1; clear h0; refine (poly_Norm _ _ _ ys _ (HB.out.grown G1.out) (RG.out.grown G1.out)).mono ?_; rintro e w2 ⟨v2, rfl, hO2, hg2⟩; rw [HY.out] at hO2; obtain ⟨A2, c2, rfl, R2⟩ := hO2.rdn HNY.out; have G2 := Lib.hid hg2; have HO2 := Lib.hid hO2; have HR2 := Lib.hid R2; clear hg2 hO2 R2)
    | (refine (poly_Norm _ _ _ xs _ HA.out RG.out).mono ?_; rintro e w1 ⟨v1, rfl, hO1, hg1⟩; rw [HX.out] at hO1; obtain ⟨A1, c1, rfl, R1⟩ := hO1.rdn HNX.out; have G1 := Lib.hid hg1; have HO1 := Lib.hid hO1; have HR1 := Lib.hid R1; clear hg1 hO1 R1))
  have GA := Lib.hid (gr_trans0 G1.out G2.out)
  have RR1 := Lib.hid (HR1.out.grown G2.out)
  by_cases hz : nx = 0 ∨ ny = 0
  · have E0 := Lib.hid (EN.out (by rw [HNX.out, HNY.out]; exact hz))
    by_cases hx0 : nx = 0
    · go_wp2_with fail
      go_ret
      refine ⟨_, rfl, ?_, GA.out⟩
      rw [E0.out]; exact Own.nil _ _
    · obtain rfl : ny = 0 := by omega
      go_wp2_with fail
      go_ret
      refine ⟨_, rfl, ?_, GA.out⟩
      rw [E0.out]; exact Own.nil _ _
  have hx0 : 1 ≤ nx := by omega
  have hy0 : 1 ≤ ny := by omega
  clear hz EN
  have b1 : ((nx : Int) == 0) = false := by simp; omega
  have b2 : ((ny : Int) == 0) = false := by simp; omega
  have hmk := make_u64z (nx + ny - 1) ((nx : Int) + ny - 1) (by omega) (by omega)
  go_wp2_with fail
  clear hmk
  have hbase := Lib.hid (Nat.le_trans G1.out.size G2.out.size)
  have row0 := Lib.hid (Row.made w2 (nx + ny - 1))
  have hg0 := Lib.hid (gr_alloc GA.out (.cells (madeCells #[.int .u64 0] (nx + ny - 1)) 26))
  have hg2 := Lib.hid (gr_alloc (gr_refl w2 none) (.cells (madeCells #[.int .u64 0] (nx + ny - 1)) 26))
  generalize w2.alloc (.cells (madeCells #[.int .u64 0] (nx + ny - 1)) 26) = W0 at *
  obtain ⟨g0, hg0e⟩ : ∃ g0, w2.heap.size = g0 := ⟨_, rfl⟩
  rw [hg0e] at hbase row0
  have hbase2 : Hid (w2.heap.size ≤ g0) := Nat.le_of_eq hg0e
  simp only [hg0e]
  clear hg0e
  go_loopg [35] nx (fun g s35 wr => ∃ (k : Nat) (Z : List Int), k ≤ nx ∧ g = nx - k ∧ s35 = .int .i64 k ∧ Hid (Z.length = nx + ny - 1 ∧ Row wr g0 Z ∧ Res p Z ∧ CgE p Z (fun x => ev (X.take k) x * ev Y x) ∧ w2.grownBy wr none))
  case atStart => exact ⟨0, _, Nat.zero_le _, rfl, rfl, by simp, row0.out, Res.zeros (by omega) _, (CgE.zeros p _).congr (fun x => by simp), hg2.out⟩
  case round =>
    obtain ⟨k, Z, hk, rfl, rfl, hI⟩ := hrel
    obtain ⟨q1, q2, q3, q4, q5⟩ := hI.out
    clear hI
    have HQ1 := Lib.hid q1; have HQ2 := Lib.hid q2; have HQ3 := Lib.hid q3; have HQ4 := Lib.hid q4; have HQ5 := Lib.hid q5
    clear q1 q2 q3 q4 q5
    have RX := RR1.out.grown HQ5.out
    by_cases hkn : k < nx
    · obtain ⟨bx, ox, ex, hcx⟩ := RX.cells (by omega)
      subst ex
      have hc1 := hcx k hkn
      obtain ⟨x0, x1⟩ := X1.out.1.wd (by omega) k
      clear hcx RX
      have hkz : (k : Int) < nx := by omega
      go_wp2_with fail
      go_loopg [42] ny (fun g s42 wr2 => ∃ (j : Nat) (Z : List Int), j ≤ ny ∧ g = ny - j ∧ s42 = .int .i64 j ∧ Hid (Z.length = nx + ny - 1 ∧ Row wr2 g0 Z ∧ Res p Z ∧ CgE p Z (fun x => ev (X.take k) x * ev Y x + x ^ k * (wd X k * ev (Y.take j) x)) ∧ w2.grownBy wr2 none))
      case atStart => exact ⟨0, Z, Nat.zero_le _, rfl, rfl, HQ1.out, HQ2.out, HQ3.out, HQ4.out.congr (fun x => by simp), HQ5.out⟩
      case round =>
        obtain ⟨j, Z2, hj, rfl, rfl, hI⟩ := hrel
        obtain ⟨q1, q2, q3, q4, q5⟩ := hI.out
        clear hI
        have IQ1 := Lib.hid q1; have IQ2 := Lib.hid q2; have IQ3 := Lib.hid q3; have IQ4 := Lib.hid q4; have IQ5 := Lib.hid q5
        clear q1 q2 q3 q4 q5
        have RY := HR2.out.grown IQ5.out
        by_cases hjn : j < ny
        · obtain ⟨by_, oy, ey, hcy⟩ := RY.cells (by omega)
          subst ey
          have hc2 := hcy j hjn
          obtain ⟨y0, y1⟩ := X2.out.1.wd (by omega) j
          clear hcy RY
          have hjz : (j : Int) < ny := by omega
          have rg := RG.out.grown (gr_trans0 GA.out IQ5.out)
          have hm := Lib.hid rg.m
          have cr := rg.cr
          clear rg
          have hZ := IQ2.out.cell (k + j) (by rw [IQ1.out]; omega)
          have hf := IQ2.out.frozen (k + j)
          obtain ⟨z0, z1⟩ := IQ3.out.wd (by omega) (k + j)
          obtain ⟨m0, m1⟩ := mulm_lt (wd X k) (wd Y j) p (by omega)
          go_upto_region 11 with fail
          refine wp_quiet_tail 22 (by kernel_rfl) (by kernel_rfl) ?_
          simp only [List.take_succ_cons, List.take_zero, List.drop_succ_cons, List.drop_zero]
          repeat (first
            | go_big_quiet_step ((first
               | (go_at_call 82; exact Calls.quiet_of (mod_Mul (hm.out.drewN _) (by omega) (by omega) (wd X k) (wd Y j) x0 (by omega) y0 (by omega)))
               | (go_at_call 81; exact Calls.quiet_of (mod_Add (hm.out.drewN _) (by omega) (by omega) (wd Z2 (k + j)) (mulm (wd X k) (wd Y j) p) z0 (by omega) m0 (by omega)))))
            | quiet_step (fail))
          refine wpQuiet_nil ?_
          intro _ hw'
          obtain ⟨nq, hw''⟩ := hw'
          subst hw''
          go_wp2_with fail
          go_roundg (ny - (j + 1))
          case measure => go_light; omega
          case rel =>
            go_light
            refine ⟨j + 1, Z2.set (k + j) (addm (wd Z2 (k + j)) (mulm (wd X k) (wd Y j) p) p), by omega, rfl, by go_num, ?_⟩
            obtain ⟨a0, a1⟩ := addm_lt (wd Z2 (k + j)) (mulm (wd X k) (wd Y j) p) p (by omega)
            refine ⟨by rw [List.length_set, IQ1.out], IQ2.out.set (k + j) _, IQ3.out.set _ _ a0 a1, ?_, gr_set (gr_drewN IQ5.out nq) (p := ⟨g0, k + j, none⟩) hbase2.out _⟩
            refine (IQ4.out.set (k + j) (by rw [IQ1.out]; omega) _ (wd X k * wd Y j) (tm_dvd p _ _ _)).congr (fun x => ?_)
            rw [ev_take_succ, Int.pow_add]; exact tm_alg2 _ _ _ _ _ _
        · obtain rfl : j = ny := by omega
          go_wp2_with fail
          go_roundg (nx - (k + 1))
          case measure => go_light; omega
          case rel =>
            go_light
            refine ⟨k + 1, Z2, by omega, rfl, by go_num, ?_⟩
            refine ⟨IQ1.out, IQ2.out, IQ3.out, IQ4.out.congr (fun x => ?_), IQ5.out⟩
            rw [ev_take_succ, List.take_of_length_le (l := Y) (by rw [HNY.out]; exact Nat.le_refl _)]; exact tm_alg1 _ _ _ _
    · obtain rfl : k = nx := by omega
      have hrd := HQ2.out.rd (HQ3.out.wds (by omega)) (by rw [HQ1.out]; omega)
      rw [HQ1.out] at hrd
      have HRD := Lib.hid hrd; clear hrd
      go_wp2_with (go_at_call 80; refine (poly_trim _ _ _ Z _ HRD.out).mono ?_; rintro e w' ⟨rfl, rfl⟩)
      go_ret
      refine ⟨_, rfl, ?_, gr_trans0 GA.out HQ5.out⟩
      have h1 := HQ2.out.ownAll (w := w) hbase.out (HQ3.out.wds (by omega)) (by rw [HQ1.out]; omega) (lenz Z) (lenz_le Z)
      rw [← trimz_take, HQ1.out] at h1
      have e2 := trimz_nrm (show 0 < p by omega) HQ3.out (b := pmul X Y) (HQ4.out.congr (fun x => by rw [List.take_of_length_le (by rw [HNX.out]; exact Nat.le_refl _), ev_pmul]))
      rw [← EM.out, ← e2]; exact h1
end
end Go.Zig
