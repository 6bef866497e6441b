/- Residues of a word, more: Shoup, Montgomery, powers. -/
import Derived.Test.YtmknijpjkikoeaaGreatDoorModw
set_option linter.unusedVariables false
set_option linter.unusedSimpArgs false
namespace Go.Zig
open Go.RowKit Go.Proofs
section
variable {w : World} {b : Nat} {p neg one two : Int}

set_option maxHeartbeats 1000000 in
theorem mod_Shoup (m : ModAt w b p neg one two) (hp : 1 ≤ p) (hp' : p ≤ 4611686018427387904) (x : Int) (hx : 0 ≤ x) (hx' : x ≤ 18446744073709551615) :
    Calls Tryz.prog 176 #[.pointer (some ⟨b, 0, none⟩), .int .u64 x] w fun e w' => e = .returned (.int .u64 (shoup x p)) ∧ ∃ n, w' = w.drewN n := by
  have c0 := m.c0
  have hx1 := Int.emod_nonneg x (show p ≠ 0 by omega)
  have hx2 := Int.emod_lt_of_pos x (show 0 < p by omega)
  go_enter Tryz.func176, Tryz.ntmps176
  go_wp2_with fail
  go_quiet ((go_at_call 121; exact Calls.quiet_of (div64 (x % p) 0 p hx1 hx2 (by omega) (by omega) (by omega) _)))
  go_wp2
  go_ret
  exact ⟨rfl, _, rfl⟩

set_option maxHeartbeats 2000000 in
theorem mod_ShoupMul (m : ModAt w b p neg one two) (hp : 1 ≤ p) (hp' : p ≤ 4611686018427387904) (a x s : Int) (ha : 0 ≤ a) (ha' : a ≤ 18446744073709551615) (hx : 0 ≤ x) (hx' : x < p) (hs : s = shoup x p) (hs0 : 0 ≤ s) (hs1 : s ≤ 18446744073709551615) :
    Calls Tryz.prog 184 #[.pointer (some ⟨b, 0, none⟩), .int .u64 a, .int .u64 x, .int .u64 s] w fun e w' => e = .returned (.int .u64 (mulm a x p)) ∧ ∃ n, w' = w.drewN n := by
  have c0 := m.c0
  have e1 : x % p = x := Int.emod_eq_of_lt hx hx'
  have a1 := Int.emod_nonneg a (show p ≠ 0 by omega)
  have a2 := Int.emod_lt_of_pos a (show 0 < p by omega)
  have k := shoup_mul (a % p) x p a1 a2 hx hx' hp'
  rw [← hs] at k
  have hm : mulm a x p = a % p * x % p := by unfold mulm; rw [Int.mul_emod, e1]
  obtain ⟨r, hr⟩ : ∃ r, r = a % p * x - mulHi (a % p) s * p := ⟨_, rfl⟩
  have hw : IntKind.u64.wrap (IntKind.u64.wrap (a % p * x) - IntKind.u64.wrap (mulHi (a % p) s * p)) = r := by
    simp only [IntKind.wrap_u64]; omega
  rw [← hr] at k
  have k1 := k.1; have k2 := k.2
  have E1 := Lib.hid e1; clear e1
  have hm2 : r % p = mulm a x p := by rw [hm, hr, Int.sub_mul_emod_self_right]
  have hm3 : p ≤ r → r - p = mulm a x p := fun h => by rw [← hm2, ← Int.sub_emod_right, Int.emod_eq_of_lt (by omega) (by omega)]
  have hm4 : r < p → r = mulm a x p := fun h => by rw [← hm2, Int.emod_eq_of_lt (by omega) (by omega)]
  have M := Lib.hid (And.intro hm3 hm4)
  have HW := Lib.hid hw
  clear hm hm2 hm3 hm4 hr k hw hs
  go_enter Tryz.func184, Tryz.ntmps184
  go_wp2_with fail
  go_quiet (fail)
  rw [E1.out]
  go_upto_region 4 with (go_at_call 120; refine (mul64 _ _ a1 (by omega) hs0 hs1 _).mono ?_; rintro e w' ⟨rfl, rfl⟩)
  rw [HW.out]
  clear hs0 hs1 a1 a2 ha ha'
  by_cases hr : p ≤ r
  · have k3 : (r - p) % p = r - p := Int.emod_eq_of_lt (by omega) (by omega)
    have K := Lib.hid k3; clear k3
    go_wp2
    go_ret
    exact ⟨ret_int (K.out.trans (M.out.1 hr)), _, rfl⟩
  · have k3 : r % p = r := Int.emod_eq_of_lt (by omega) (by omega)
    have K := Lib.hid k3; clear k3
    go_wp2
    go_ret
    exact ⟨ret_int (K.out.trans (M.out.2 (by omega))), _, rfl⟩

set_option maxHeartbeats 2000000 in
theorem mod_redc (m : ModAt w b p neg one two) (k : ModOk p neg one two) (hi lo : Int) (h0 : 0 ≤ hi) (h1 : hi < p) (h2 : 0 ≤ lo) (h3 : lo ≤ 18446744073709551615) :
    Calls Tryz.prog 182 #[.pointer (some ⟨b, 0, none⟩), .int .u64 hi, .int .u64 lo] w fun e w' => e = .returned (.int .u64 (redv hi lo p neg)) ∧ ∃ n, w' = w.drewN n := by
  have c0 := m.c0
  have c1 := m.c1
  have p1 := k.lo; have p2 := k.hi; have n0 := k.n0; have n1 := k.n1
  obtain ⟨s1, s2, s3⟩ := red_sum k h0 h1 h2 h3
  have q1 := mulLo_word lo neg
  obtain ⟨q2, q3⟩ := mulHi_word (mulLo lo neg) p q1.1 q1.2 (by omega) (by omega)
  obtain ⟨q4, q5⟩ := mulLo_word (mulLo lo neg) p
  obtain ⟨q6, q7⟩ := addHi_01 lo (mulLo (mulLo lo neg) p) 0 h2 h3 q4 q5 (by omega) (by omega)
  obtain ⟨qa, qb⟩ := q1
  have hq : IntKind.u64.wrap (lo * neg) = mulLo lo neg := by rw [IntKind.wrap_u64]; rfl
  have HQ := Lib.hid hq
  have R : Hid (redv hi lo p neg = if p ≤ addLo hi (mulHi (mulLo lo neg) p) (addHi lo (mulLo (mulLo lo neg) p) 0) then addLo hi (mulHi (mulLo lo neg) p) (addHi lo (mulLo (mulLo lo neg) p) 0) - p
    else addLo hi (mulHi (mulLo lo neg) p) (addHi lo (mulLo (mulLo lo neg) p) 0)) := rfl
  clear s3 hq
  go_enter Tryz.func182, Tryz.ntmps182
  go_upto_region 2 with fail
  rw [HQ.out]
  generalize mulLo lo neg = q at *
  generalize hc : addHi lo (mulLo q p) 0 = c at *
  generalize hs : addLo hi (mulHi q p) c = s at *
  have HC := Lib.hid hc; clear hc
  have HS := Lib.hid hs; clear hs
  go_upto_region 5 with (first
    | (go_at_call 120; refine (mul64 _ _ qa (by omega) (by omega) (by omega) _).mono ?_; rintro e w' ⟨rfl, rfl⟩)
    | (simp (disch := omega) only [add64]; rw [HC.out])
    | (simp (disch := omega) only [add64]; rw [HS.out]))
  by_cases h : p ≤ s
  · rw [if_pos h] at R
    go_wp2
    go_ret
    exact ⟨ret_int R.out.symm, 0, rfl⟩
  · rw [if_neg h] at R
    go_wp2
    go_ret
    exact ⟨ret_int R.out.symm, 0, rfl⟩

set_option maxHeartbeats 2000000 in
theorem mod_mont (m : ModAt w b p neg one two) (k : ModOk p neg one two) (x : Int) (hx : 0 ≤ x) (hx' : x < p) :
    Calls Tryz.prog 181 #[.pointer (some ⟨b, 0, none⟩), .int .u64 x] w fun e w' => e = .returned (.int .u64 (redv (mulHi x two) (mulLo x two) p neg)) ∧ ∃ n, w' = w.drewN n := by
  have c0 := m.c0
  have c3 := m.c3
  have p1 := k.lo; have p2 := k.hi
  have t0 : 0 ≤ two ∧ two < p := by rw [k.two_]; exact ⟨Int.emod_nonneg _ (by omega), Int.emod_lt_of_pos _ (by omega)⟩
  obtain ⟨t1, t2⟩ := t0
  obtain ⟨g1, g2⟩ := mulHi_lt x two p hx hx' t1 t2 (by omega)
  obtain ⟨g3, g4⟩ := mulLo_word x two
  go_enter Tryz.func181, Tryz.ntmps181
  go_wp2_with (first | (go_at_call 120; refine (mul64 _ _ hx (by omega) t1 (by omega) _).mono ?_; rintro e w' ⟨rfl, rfl⟩) | (go_at_call 182; refine (mod_redc m k _ _ g1 g2 g3 g4).mono ?_; rintro e w' ⟨rfl, nq, rfl⟩))
  go_ret
  exact ⟨ret_int rfl, _, rfl⟩
end

/-! ### Powers -/
structure PowInv (p : Int) (a0 : Int) (n0 : Nat) (out x : Int) (n : Nat) : Prop where
  o0 : 0 ≤ out
  o1 : out < p
  x0 : 0 ≤ x
  x1 : x < p
  eq : ∃ O X : Int, p ∣ out - O * 18446744073709551616 ∧ p ∣ x - X * 18446744073709551616 ∧ p ∣ O * X ^ n - a0 ^ n0
theorem redv_step {p neg one two a b A B : Int} (k : ModOk p neg one two) (ha : 0 ≤ a) (ha' : a < p) (hb : 0 ≤ b) (hb' : b < p) (hA : p ∣ a - A * 18446744073709551616) (hB : p ∣ b - B * 18446744073709551616) :
    0 ≤ redv (mulHi a b) (mulLo a b) p neg ∧ redv (mulHi a b) (mulLo a b) p neg < p ∧ p ∣ redv (mulHi a b) (mulLo a b) p neg - (A * B) * 18446744073709551616 := by
  have p1 := k.lo; have p2 := k.hi
  obtain ⟨g1, g2⟩ := mulHi_lt a b p ha ha' hb hb' (by omega)
  obtain ⟨g3, g4⟩ := mulLo_word a b
  obtain ⟨h1, h2, h3⟩ := redv_spec k g1 g2 g3 g4
  refine ⟨h1, h2, k.unB ?_⟩
  have e := mul_eq a b
  obtain ⟨i, hi⟩ := h3
  obtain ⟨j, hj⟩ := hA
  obtain ⟨l, hl⟩ := hB
  exact ⟨i + j * B * 18446744073709551616 + a * l, by grind⟩
theorem PowInv.odd {p neg one two a0 out x : Int} {n0 n : Nat} (k : ModOk p neg one two) (h : PowInv p a0 n0 out x n) (hn : n % 2 = 1) :
    PowInv p a0 n0 (redv (mulHi out x) (mulLo out x) p neg) (redv (mulHi x x) (mulLo x x) p neg) (n / 2) := by
  obtain ⟨O, X, h1, h2, h3⟩ := h.eq
  obtain ⟨a1, a2, a3⟩ := redv_step k h.o0 h.o1 h.x0 h.x1 h1 h2
  obtain ⟨b1, b2, b3⟩ := redv_step k h.x0 h.x1 h.x0 h.x1 h2 h2
  refine ⟨a1, a2, b1, b2, O * X, X * X, a3, b3, ?_⟩
  have e : X ^ n = X * (X * X) ^ (n / 2) := by
    have e2 : (X * X) ^ (n / 2) = X ^ (2 * (n / 2)) := by rw [show X * X = X ^ 2 by grind, ← Int.pow_mul]
    rw [e2, ← Int.pow_succ', show 2 * (n / 2) + 1 = n by omega]
  rw [e] at h3
  rw [show O * X * (X * X) ^ (n / 2) = O * (X * (X * X) ^ (n / 2)) by grind]; exact h3
theorem PowInv.even {p neg one two a0 out x : Int} {n0 n : Nat} (k : ModOk p neg one two) (h : PowInv p a0 n0 out x n) (hn : n % 2 = 0) :
    PowInv p a0 n0 out (redv (mulHi x x) (mulLo x x) p neg) (n / 2) := by
  obtain ⟨O, X, h1, h2, h3⟩ := h.eq
  obtain ⟨b1, b2, b3⟩ := redv_step k h.x0 h.x1 h.x0 h.x1 h2 h2
  refine ⟨h.o0, h.o1, b1, b2, O, X * X, h1, b3, ?_⟩
  have e2 : (X * X) ^ (n / 2) = X ^ n := by rw [show X * X = X ^ 2 by grind, ← Int.pow_mul, show 2 * (n / 2) = n by omega]
  rw [e2]; exact h3
theorem PowInv.last {p neg one two a0 out x : Int} {n0 : Nat} (k : ModOk p neg one two) (h : PowInv p a0 n0 out x 0) : redv 0 out p neg = powm a0 n0 p := by
  obtain ⟨O, X, h1, h2, h3⟩ := h.eq
  have p1 := k.lo; have p2 := k.hi
  obtain ⟨a1, a2, a3⟩ := redv_spec k (hi := 0) (lo := out) (by omega) (by omega) h.o0 (by have := h.o1; omega)
  have h4 : p ∣ redv 0 out p neg - O := by
    refine k.unB ?_
    obtain ⟨i, hi⟩ := a3; obtain ⟨j, hj⟩ := h1
    exact ⟨i + j, by grind⟩
  have h5 : p ∣ redv 0 out p neg - a0 ^ n0 := by
    obtain ⟨i, hi⟩ := h4; obtain ⟨j, hj⟩ := h3
    simp only [Int.pow_zero, Int.mul_one] at hj
    exact ⟨i + j, by grind⟩
  have h6 := emod_of_dvd h5
  rw [Int.emod_eq_of_lt a1 a2] at h6
  exact h6
theorem PowInv.first {p neg one two a : Int} (k : ModOk p neg one two) (n : Nat) : PowInv p a n one (redv (mulHi (a % p) two) (mulLo (a % p) two) p neg) n := by
  have p1 := k.lo; have p2 := k.hi
  have o0 : 0 ≤ one ∧ one < p := by rw [k.one_]; exact ⟨Int.emod_nonneg _ (by omega), Int.emod_lt_of_pos _ (by omega)⟩
  have t0 : 0 ≤ two ∧ two < p := by rw [k.two_]; exact ⟨Int.emod_nonneg _ (by omega), Int.emod_lt_of_pos _ (by omega)⟩
  have h1 : p ∣ one - 1 * 18446744073709551616 := by
    rw [k.one_]; exact dvd_of_emod (by rw [Int.emod_emod_of_dvd _ (Int.dvd_refl _), Int.one_mul])
  have h2 : p ∣ two - 18446744073709551616 * 18446744073709551616 := by
    have : p ∣ two - one * one := by rw [k.two_]; exact dvd_of_emod (by rw [Int.emod_emod_of_dvd _ (Int.dvd_refl _)])
    obtain ⟨i, hi⟩ := this; obtain ⟨j, hj⟩ := h1
    exact ⟨i + j * one + j * 18446744073709551616, by grind⟩
  have a0 := Int.emod_nonneg a (show p ≠ 0 by omega)
  have a1 := Int.emod_lt_of_pos a (show 0 < p by omega)
  obtain ⟨g1, g2⟩ := mulHi_lt (a % p) two p a0 a1 t0.1 t0.2 (by omega)
  obtain ⟨g3, g4⟩ := mulLo_word (a % p) two
  obtain ⟨r1, r2, r3⟩ := redv_spec k g1 g2 g3 g4
  refine ⟨o0.1, o0.2, r1, r2, 1, a, h1, k.unB ?_, by rw [Int.one_mul, Int.sub_self]; exact Int.dvd_zero p⟩
  have e := mul_eq (a % p) two
  have e3 := Int.mul_ediv_add_emod a p
  obtain ⟨i, hi⟩ := r3; obtain ⟨j, hj⟩ := h2
  exact ⟨i + (a % p) * j - (a / p) * 18446744073709551616 * 18446744073709551616, by grind⟩

section
variable {w : World} {b : Nat} {p neg one two : Int}
set_option maxHeartbeats 4000000 in
theorem mod_Pow (m : ModAt w b p neg one two) (k : ModOk p neg one two) (a : Int) (n : Nat) (ha : 0 ≤ a) (ha' : a ≤ 18446744073709551615) (hn : n ≤ 18446744073709551615) :
    Calls Tryz.prog 175 #[.pointer (some ⟨b, 0, none⟩), .int .u64 a, .int .u64 n] w fun e w' => e = .returned (.int .u64 (powm a n p)) ∧ ∃ n, w' = w.drewN n := by
  have c0 := m.c0
  have c2 := m.c2
  have p1 := k.lo; have p2 := k.hi
  have a0 := Int.emod_nonneg a (show p ≠ 0 by omega)
  have a1 := Int.emod_lt_of_pos a (show 0 < p by omega)
  have I0 := Lib.hid (PowInv.first k (a := a) n)
  go_enter Tryz.func175, Tryz.ntmps175
  go_wp2_with fail
  go_quiet ((go_at_call 181; exact Calls.quiet_of (mod_mont (m.drewN _) k _ a0 a1)))
  generalize redv (mulHi (a % p) two) (mulLo (a % p) two) p neg = x0 at *
  go_wp2_with fail
  go_loopw [2, 7, 8] (fun a1 a2 a3 wr => ∃ (k : Nat) (x o : Int), k ≤ 18446744073709551615 ∧ a1 = .int .u64 k ∧ a2 = .int .u64 x ∧ a3 = .int .u64 o ∧ Hid (PowInv p a n o x k) ∧ ∃ d, wr = w.drewN d) (fun a1 _ _ _ => (intOf a1).toNat)
  case atStart => exact ⟨n, _, _, hn, rfl, rfl, rfl, I0.out, _, rfl⟩
  case round =>
    obtain ⟨j, x, o, hj, rfl, rfl, rfl, hI, d, rfl⟩ := hrel
    have o0 := hI.out.o0; have o1 := hI.out.o1; have x0 := hI.out.x0; have x1 := hI.out.x1
    have md := m.drewN d
    have c0 := md.c0
    by_cases hj0 : 0 < j
    · obtain ⟨g1, g2⟩ := mulHi_lt x x p x0 x1 x0 x1 (by omega)
      obtain ⟨g3, g4⟩ := mulLo_word x x
      by_cases hodd : j % 2 = 1
      · have hoddb : ((j : Int) % 2 == 1) = true := by simp; omega
        have HJ := Lib.hid hodd; clear hodd
        obtain ⟨f1, f2⟩ := mulHi_lt o x p o0 o1 x0 x1 (by omega)
        obtain ⟨f3, f4⟩ := mulLo_word o x
        have hI' := Lib.hid (hI.out.odd k HJ.out)
        go_wp2_with (first
          | (go_at_call 120; refine (mul64 _ _ (by assumption) (by omega) (by assumption) (by omega) _).mono ?_; rintro e w' ⟨rfl, rfl⟩)
          | (go_at_call 182; refine (mod_redc (m.drewN _) k _ _ (by assumption) (by assumption) (by assumption) (by assumption)).mono ?_; rintro e w' ⟨rfl, nq, rfl⟩))
        go_roundw
        case rel => exact ⟨j / 2, _, _, by omega, by go_num, rfl, rfl, hI'.out, _, by first | rfl | (simp only [World.drewN_drewN]; rfl)⟩
        case measure => simp [intOf]; omega
      · have hoddb : ((j : Int) % 2 == 1) = false := by simp; omega
        have HJ : Hid (j % 2 = 0) := by show j % 2 = 0; omega
        clear hodd
        have hI' := Lib.hid (hI.out.even k HJ.out)
        go_wp2_with (first
          | (go_at_call 120; refine (mul64 _ _ (by assumption) (by omega) (by assumption) (by omega) _).mono ?_; rintro e w' ⟨rfl, rfl⟩)
          | (go_at_call 182; refine (mod_redc (m.drewN _) k _ _ (by assumption) (by assumption) (by assumption) (by assumption)).mono ?_; rintro e w' ⟨rfl, nq, rfl⟩))
        go_roundw
        case rel => exact ⟨j / 2, _, _, by omega, by go_num, rfl, rfl, hI'.out, _, by first | rfl | (simp only [World.drewN_drewN]; rfl)⟩
        case measure => simp [intOf]; omega
    · obtain rfl : j = 0 := by omega
      have hz : (0 : Int) ≤ 0 := by omega
      have hlast := Lib.hid (hI.out.last k)
      go_wp2_with (first
          | (go_at_call 182; refine (mod_redc (m.drewN _) k _ _ hz (by omega) (by assumption) (by omega)).mono ?_; rintro e w' ⟨rfl, nq, rfl⟩))
      go_ret
      exact ⟨ret_int hlast.out, _, by first | rfl | (simp only [World.drewN_drewN]; rfl)⟩
end
end Go.Zig
