/- The reference's residues: products, powers. -/
import Derived.Test.YtmknijpjkikoeaaGreatDoorPmulNew
set_option linter.unusedVariables false
set_option linter.unusedSimpArgs false
namespace Go.Zig
open Go.RowKit Go.Proofs
section
variable {w : World}

set_option maxHeartbeats 4000000 in
theorem r06_Mul (a b p : Int) (hp : 1 ≤ p) (hp' : p ≤ 18446744073709551615) (ha : 0 ≤ a) (ha' : a ≤ 18446744073709551615) (hb : 0 ≤ b) (hb' : b ≤ 18446744073709551615) :
    Calls Tryz.prog 93 #[.int .u64 a, .int .u64 b, .int .u64 p] w fun e w' => e = .returned (.int .u64 (mulm a b p)) ∧ ∃ n, w' = w.drewN n := by
  have a0 := Int.emod_nonneg a (show p ≠ 0 by omega)
  have a1 := Int.emod_lt_of_pos a (show 0 < p by omega)
  have b0 := Int.emod_nonneg b (show p ≠ 0 by omega)
  have b1 := Int.emod_lt_of_pos b (show 0 < p by omega)
  obtain ⟨g1, g2⟩ := mulHi_lt (a % p) (b % p) p a0 a1 b0 b1 (by omega)
  obtain ⟨g3, g4⟩ := mulLo_word (a % p) (b % p)
  have E : Hid (divR (mulHi (a % p) (b % p)) (mulLo (a % p) (b % p)) p = mulm a b p) := by
    show divR _ _ _ = _
    rw [divR_mul]; unfold mulm; rw [← Int.mul_emod]
  go_enter Tryz.func93, Tryz.ntmps93
  go_wp2_with fail
  go_quiet ((go_at_call 120; exact Calls.quiet_of ((mul64 (a % p) (b % p) a0 (by omega) b0 (by omega) _).mono fun _ _ h => ⟨h.1, 0, h.2.symm⟩)))
  go_wp2_with (go_at_call 121; refine (div64 _ _ _ g1 g2 hp' g3 g4 _).mono ?_; rintro e w' ⟨rfl, nq, rfl⟩)
  go_ret
  exact ⟨ret_int E.out, _, by first | rfl | (simp only [World.drewN_drewN]; rfl)⟩

theorem powm_sq (a p : Int) (n : Nat) : mulm (powm a n p) (powm a n p) p = powm a (2 * n) p := by
  unfold mulm powm; rw [← Int.mul_emod, ← Int.pow_add, show n + n = 2 * n by omega]
theorem powm_mul (a p : Int) (n : Nat) : mulm (powm a n p) a p = powm a (n + 1) p := by
  unfold mulm powm; rw [Int.pow_succ, Int.mul_emod, Int.emod_emod_of_dvd _ (Int.dvd_refl _), ← Int.mul_emod]
theorem and_one (x : Nat) (hx : x < 18446744073709551616) : bits .and .u64 (x : Int) 1 = ((x % 2 : Nat) : Int) := by
  have h := bits_and_u64_nat x 1 hx (by omega)
  have e : x &&& 1 = x % 2 := Nat.and_two_pow_sub_one_eq_mod x 1
  rw [e] at h
  exact h

set_option maxHeartbeats 4000000 in
theorem r06_Pow (a p : Int) (n : Nat) (hp : 1 ≤ p) (hp' : p ≤ 18446744073709551615) (ha : 0 ≤ a) (ha' : a ≤ 18446744073709551615) (hn : n < 18446744073709551616) :
    Calls Tryz.prog 108 #[.int .u64 a, .int .u64 n, .int .u64 p] w fun e w' => e = .returned (.int .u64 (powm a n p)) ∧ ∃ n, w' = w.drewN n := by
  have E0 : Hid (1 % p = powm a (n / 2 ^ 64) p) := by
    show _ = _
    rw [Nat.div_eq_of_lt (by simpa using hn)]; unfold powm; simp
  go_enter Tryz.func108, Tryz.ntmps108
  go_wp2_with fail
  go_loopw [7, 8] (fun a1 a2 wr => ∃ (i : Int) (k : Nat) (o : Int), -1 ≤ i ∧ i ≤ 63 ∧ Hid (k = (i + 1).toNat) ∧ a2 = .int .i64 i ∧ a1 = .int .u64 o ∧ 0 ≤ o ∧ o < p ∧ Hid (o = powm a (n / 2 ^ k) p) ∧ ∃ d, wr = w.drewN d) (fun _ a2 _ => (intOf a2 + 1).toNat)
  case atStart => exact ⟨63, 64, _, by omega, by omega, rfl, rfl, rfl, Int.emod_nonneg _ (by omega), Int.emod_lt_of_pos _ (by omega), E0.out, 0, rfl⟩
  case round =>
    obtain ⟨i, k, o, i0, i1, hk, rfl, rfl, o0, o1, ho, d, rfl⟩ := hrel
    by_cases hi : 0 ≤ i
    · obtain ⟨j, rfl⟩ := Int.eq_ofNat_of_zero_le hi
      have hk2 : k = j + 1 := by have := hk.out; omega
      have HK := Lib.hid hk2; clear hk2 hk
      have hsh : (n : Int) / 2 ^ j = ((n / 2 ^ j : Nat) : Int) := by rw [Int.natCast_ediv, Int.natCast_pow]; rfl
      have hlt : n / 2 ^ j < 18446744073709551616 := Nat.lt_of_le_of_lt (Nat.div_le_self _ _) hn
      have hb := and_one (n / 2 ^ j) hlt
      have hdiv : n / 2 ^ k = n / 2 ^ j / 2 := by rw [HK.out, Nat.pow_succ, Nat.div_div_eq_div_mul]
      have hsq : mulm o o p = powm a (2 * (n / 2 ^ j / 2)) p := by rw [ho.out, hdiv, powm_sq]
      obtain ⟨q0, q1⟩ := mulm_lt o o p (by omega)
      obtain ⟨r0, r1⟩ := mulm_lt (mulm o o p) a p (by omega)
      by_cases hbit : n / 2 ^ j % 2 = 1
      · have hr : mulm (mulm o o p) a p = powm a (n / 2 ^ j) p := by rw [hsq, powm_mul]; congr 1; omega
        rw [hbit] at hb
        have HR := Lib.hid hr; have HS := Lib.hid hsh; have HB := Lib.hid hb
        clear hr hsh hb hsq hdiv hbit ho
        go_upto_region 6 with (go_at_call 93; refine (r06_Mul _ _ _ hp hp' o0 (by omega) o0 (by omega)).mono ?_; rintro e w' ⟨rfl, nq, rfl⟩)
        have hz : bits .and .u64 ((n : Int) / 2 ^ j) 1 = 1 := by rw [HS.out, HB.out]; rfl
        go_wp2_with (first | rw [hz] | (go_at_call 93; refine (r06_Mul _ _ _ hp hp' q0 (by omega) ha ha').mono ?_; rintro e w' ⟨rfl, nq2, rfl⟩))
        go_roundw
        case rel => exact ⟨(j : Int) - 1, j, _, by omega, by omega, (by show j = ((j : Int) - 1 + 1).toNat; omega), rfl, rfl, r0, r1, HR.out, _, rfl⟩
        case measure => simp [intOf] <;> omega
      · have hbit0 : n / 2 ^ j % 2 = 0 := by omega
        have hr : mulm o o p = powm a (n / 2 ^ j) p := by rw [hsq]; congr 1; omega
        rw [hbit0] at hb
        have HR := Lib.hid hr; have HS := Lib.hid hsh; have HB := Lib.hid hb
        clear hr hsh hb hsq hdiv hbit hbit0 ho
        go_upto_region 6 with (go_at_call 93; refine (r06_Mul _ _ _ hp hp' o0 (by omega) o0 (by omega)).mono ?_; rintro e w' ⟨rfl, nq, rfl⟩)
        have hz : bits .and .u64 ((n : Int) / 2 ^ j) 1 = 0 := by rw [HS.out, HB.out]; rfl
        go_wp2_with (first | rw [hz])
        go_roundw
        case rel => exact ⟨(j : Int) - 1, j, _, by omega, by omega, (by show j = ((j : Int) - 1 + 1).toNat; omega), rfl, rfl, q0, q1, HR.out, _, rfl⟩
        case measure => simp [intOf] <;> omega
    · have hk0 : k = 0 := by have := hk.out; omega
      have hlast : o = powm a n p := by rw [ho.out, hk0]; simp
      have HL := Lib.hid hlast
      clear hlast hk0 ho hk
      go_wp2_with fail
      go_ret
      exact ⟨ret_int HL.out, _, rfl⟩

/-! ### Witnesses and primes, the other way round -/
def rwLoop (n : Int) : Nat → Int → Bool
  | 0, _ => false
  | k + 1, x => if mulm x x n = n - 1 then true else rwLoop n k (mulm x x n)
def rwit (a n : Int) (d s : Nat) : Bool :=
  if powm a d n = 1 ∨ powm a d n = n - 1 then true else rwLoop n (s - 1) (powm a d n)

set_option maxHeartbeats 4000000 in
theorem r06_witness (a n : Int) (d s : Nat) (hn0 : 3 ≤ n) (hn : n ≤ 18446744073709551615) (ha : 0 ≤ a) (ha' : a ≤ 18446744073709551615) (hd : d ≤ 18446744073709551615) (hs0 : 1 ≤ s) (hs : s ≤ 64) :
    Calls Tryz.prog 78 #[.int .u64 a, .int .u64 d, .int .i64 s, .int .u64 n] w fun e w' => e = .returned (.bool (rwit a n d s)) ∧ ∃ k, w' = w.drewN k := by
  obtain ⟨p0, p1⟩ := powm_lt a d n (by omega)
  by_cases c : powm a d n = 1 ∨ powm a d n = n - 1
  · have W : Hid (rwit a n d s = true) := by show rwit a n d s = true; unfold rwit; rw [if_pos c]
    go_enter Tryz.func78, Tryz.ntmps78
    go_upto_region 2 with (go_at_call 108; refine (r06_Pow _ _ d (by omega) hn ha ha' (by omega)).mono ?_; rintro e w' ⟨rfl, nq, rfl⟩)
    generalize powm a d n = x at *
    rcases c with c | c
    · have b2 : (x == 1) = true := by simp [c]
      have C := Lib.hid c; clear c
      go_wp2_with fail
      go_ret
      exact ⟨by rw [W.out]; rfl, _, rfl⟩
    · have b2 : (x == 1) = false := by simp; omega
      have b3 : (x == n - 1) = true := by simp [c]
      have C := Lib.hid c; clear c
      go_wp2_with fail
      go_ret
      exact ⟨by rw [W.out]; rfl, _, rfl⟩
  · have W : Hid (rwit a n d s = rwLoop n (s - 1) (powm a d n)) := by show rwit a n d s = _; unfold rwit; rw [if_neg c]
    go_enter Tryz.func78, Tryz.ntmps78
    go_upto_region 2 with (go_at_call 108; refine (r06_Pow _ _ d (by omega) hn ha ha' (by omega)).mono ?_; rintro e w' ⟨rfl, nq, rfl⟩)
    generalize powm a d n = x at *
    have b2 : (x == 1) = false := by simp; omega
    have b3 : (x == n - 1) = false := by simp; omega
    clear c
    go_wp2_with fail
    go_loopw [9, 10] (fun a1 a2 wr => ∃ (j : Nat) (y : Int), 1 ≤ j ∧ j ≤ s ∧ a2 = .int .i64 j ∧ a1 = .int .u64 y ∧ 0 ≤ y ∧ y < n ∧ Hid (rwLoop n (s - j) y = rwit a n d s) ∧ ∃ d, wr = w.drewN d) (fun _ a2 _ => s - (intOf a2).toNat)
    case atStart => exact ⟨1, x, by omega, by omega, rfl, rfl, p0, p1, W.out.symm, _, rfl⟩
    case round =>
      obtain ⟨j, y, hj1, hj, rfl, rfl, y0, y1, hW, dd, rfl⟩ := hrel
      obtain ⟨q0, q1⟩ := mulm_lt y y n (by omega)
      by_cases hjs : j < s
      · have hW2 := hW.out
        rw [show s - j = (s - (j + 1)) + 1 by omega, rwLoop] at hW2
        by_cases hm : mulm y y n = n - 1
        · have b4 : (mulm y y n == n - 1) = true := by simp [hm]
          rw [if_pos hm] at hW2
          have HW := Lib.hid hW2; clear hW2
          have HM := Lib.hid hm; clear hm
          go_wp2_with (first
            | (go_at_call 93; refine (r06_Mul _ _ _ (by omega) hn y0 (by omega) y0 (by omega)).mono ?_; rintro e w' ⟨rfl, nq2, rfl⟩))
          go_ret
          exact ⟨by rw [← HW.out]; rfl, _, by first | rfl | (simp only [World.drewN_drewN]; rfl)⟩
        · have b4 : (mulm y y n == n - 1) = false := by simpa using hm
          rw [if_neg hm] at hW2
          have HW := Lib.hid hW2; clear hW2
          have HM := Lib.hid hm; clear hm
          go_wp2_with (first
            | (go_at_call 93; refine (r06_Mul _ _ _ (by omega) hn y0 (by omega) y0 (by omega)).mono ?_; rintro e w' ⟨rfl, nq2, rfl⟩))
          go_roundw
          case rel => exact ⟨j + 1, _, by omega, by omega, by go_num, rfl, q0, q1, HW.out, _, by first | rfl | (simp only [World.drewN_drewN]; rfl)⟩
          case measure => simp [intOf]; omega
      · have hW2 := hW.out
        rw [show s - j = 0 by omega, rwLoop] at hW2
        have HW := Lib.hid hW2; clear hW2
        go_wp2_with fail
        go_ret
        exact ⟨by rw [← HW.out]; rfl, _, by first | rfl | (simp only [World.drewN_drewN]; rfl)⟩
end

/-- A power of what has no factor in common with n is not 0 modulo n. -/
theorem powm_ne (a n : Int) (d : Nat) (ha : 0 < a) (hn : 1 < n) (h : Nat.Coprime a.toNat n.toNat) : powm a d n ≠ 0 := by
  intro h0
  have h1 : n ∣ a ^ d := Int.dvd_of_emod_eq_zero h0
  obtain ⟨a, rfl⟩ := Int.eq_ofNat_of_zero_le (show 0 ≤ a by omega)
  obtain ⟨n, rfl⟩ := Int.eq_ofNat_of_zero_le (show 0 ≤ n by omega)
  simp only [Int.toNat_natCast] at h
  have h2 : ((n : Nat) : Int) ∣ ((a ^ d : Nat) : Int) := by rw [Int.natCast_pow]; exact h1
  have h3 : n ∣ a ^ d := Int.natCast_dvd_natCast.1 h2
  have h4 : Nat.Coprime (a ^ d) n := Nat.Coprime.pow_left d h
  have h5 := Nat.Coprime.eq_one_of_dvd h4.symm h3
  omega
theorem wit_rw (n : Int) : ∀ (k : Nat) (x : Int), witLoop n k x = !rwLoop n k x := by
  intro k
  induction k with
  | zero => intro x; rfl
  | succ k ih =>
    intro x
    unfold witLoop rwLoop
    split
    · rfl
    · exact ih _
theorem wit_rwit (a n : Int) (d s : Nat) (h : powm a d n ≠ 0) : wit a n d s = !rwit a n d s := by
  have e : powm (a % n) d n = powm a d n := by unfold powm; rw [ipow_emod]
  unfold wit rwit
  rw [e]
  by_cases c : powm a d n = 1 ∨ powm a d n = n - 1
  · rw [if_pos c, if_pos (.inr c)]; rfl
  · rw [if_neg c, if_neg (by
      intro h'
      rcases h' with h' | h'
      · exact h h'
      · exact c h'), wit_rw]
end Go.Zig
