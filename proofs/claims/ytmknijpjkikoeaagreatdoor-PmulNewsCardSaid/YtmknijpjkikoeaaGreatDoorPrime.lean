/- Package prime: powers, witnesses, the test of primes. -/
import Derived.Test.YtmknijpjkikoeaaGreatDoorModInv
set_option linter.unusedVariables false
set_option linter.unusedSimpArgs false
namespace Go.Zig
open Go.RowKit Go.Proofs

/-- The table that math/bits.TrailingZeros64 looks into. -/
def Tab (w : World) : Prop := TabAt 2 Lib.deBruijn64tab w
theorem Tab.keep {w w' : World} (h : Tab w) {row : Option Nat} (hg : w.grownBy w' row) (hr : row ≠ some 2) : Tab w' := fun j hj => hg.cell (h j hj) (fun e => hr e.symm)
theorem Tab.grown {w w' : World} (h : Tab w) (hg : w.grownBy w' none) : Tab w' := h.keep hg (by simp)
theorem Tab.drewN {w : World} (h : Tab w) (n : Nat) : Tab (w.drewN n) := h

theorem tz64 (x : Int) (hx : 0 ≤ x) (hx' : x ≤ 18446744073709551615) (w : World) (ht : Tab w) :
    Calls Tryz.prog 144 #[.int .u64 x] w fun e w' => e = .returned (.int .i64 (Lib.ctz 64 x.toNat)) ∧ w = w' := by
  obtain ⟨x, rfl⟩ := Int.eq_ofNat_of_zero_le hx
  refine (Any7.bits_TrailingZeros64 Tryz.lays29 x (by omega) w (fun _ => ht)).mono ?_
  rintro e w' ⟨rfl, rfl⟩
  exact ⟨rfl, rfl⟩

theorem powm_lt (a : Int) (n : Nat) (p : Int) (hp : 0 < p) : 0 ≤ powm a n p ∧ powm a n p < p := ⟨Int.emod_nonneg _ (by omega), Int.emod_lt_of_pos _ hp⟩
section
variable {w : World}

set_option maxHeartbeats 1000000 in
theorem prime_mul (x y n : Int) (hn : n ≤ 18446744073709551615) (hx : 0 ≤ x) (hx' : x < n) (hy : 0 ≤ y) (hy' : y < n) :
    Calls Tryz.prog 173 #[.int .u64 x, .int .u64 y, .int .u64 n] w fun e w' => e = .returned (.int .u64 (mulm x y n)) ∧ ∃ k, w' = w.drewN k := by
  obtain ⟨g1, g2⟩ := mulHi_lt x y n hx hx' hy hy' hn
  obtain ⟨g3, g4⟩ := mulLo_word x y
  have E := Lib.hid (divR_mul x y n)
  go_enter Tryz.func173, Tryz.ntmps173
  go_wp2_with (first | (go_at_call 120; refine (mul64 _ _ hx (by omega) hy (by omega) _).mono ?_; rintro e w' ⟨rfl, rfl⟩) | (go_at_call 121; refine (div64 _ _ _ g1 g2 hn g3 g4 _).mono ?_; rintro e w' ⟨rfl, nq, rfl⟩))
  go_ret
  exact ⟨ret_int E.out, _, rfl⟩

structure PwInv (n a0 : Int) (k0 : Nat) (o a : Int) (k : Nat) : Prop where
  o0 : 0 ≤ o
  o1 : o < n
  a0' : 0 ≤ a
  a1 : a < n
  eq : n ∣ o * a ^ k - a0 ^ k0
theorem PwInv.odd {n a0 o a : Int} {k0 k : Nat} (h : PwInv n a0 k0 o a k) (hk : k % 2 = 1) : PwInv n a0 k0 (mulm o a n) (mulm a a n) (k / 2) := by
  have hn : 0 < n := by have := h.o0; have := h.o1; omega
  obtain ⟨m1, m2⟩ := mulm_lt o a n hn
  obtain ⟨m3, m4⟩ := mulm_lt a a n hn
  refine ⟨m1, m2, m3, m4, ?_⟩
  have e : a ^ k = a * (a * a) ^ (k / 2) := by
    have e2 : (a * a) ^ (k / 2) = a ^ (2 * (k / 2)) := by rw [show a * a = a ^ 2 by grind, ← Int.pow_mul]
    rw [e2, ← Int.pow_succ', show 2 * (k / 2) + 1 = k by omega]
  have h1 := h.eq
  rw [e] at h1
  have h2 : (mulm o a n * mulm a a n ^ (k / 2)) % n = (o * (a * (a * a) ^ (k / 2))) % n := by
    unfold mulm
    rw [Int.mul_emod, Int.emod_emod_of_dvd _ (Int.dvd_refl _), ipow_emod, ← Int.mul_emod, Int.mul_assoc]
  obtain ⟨i, hi⟩ := h1
  obtain ⟨j, hj⟩ := dvd_of_emod h2
  exact ⟨i + j, by grind⟩
theorem PwInv.even {n a0 o a : Int} {k0 k : Nat} (h : PwInv n a0 k0 o a k) (hk : k % 2 = 0) : PwInv n a0 k0 o (mulm a a n) (k / 2) := by
  have hn : 0 < n := by have := h.o0; have := h.o1; omega
  obtain ⟨m3, m4⟩ := mulm_lt a a n hn
  refine ⟨h.o0, h.o1, m3, m4, ?_⟩
  have e2 : (a * a) ^ (k / 2) = a ^ k := by rw [show a * a = a ^ 2 by grind, ← Int.pow_mul, show 2 * (k / 2) = k by omega]
  have h1 := h.eq
  rw [← e2] at h1
  have h2 : (o * mulm a a n ^ (k / 2)) % n = (o * (a * a) ^ (k / 2)) % n := by
    unfold mulm
    rw [Int.mul_emod, ipow_emod, ← Int.mul_emod]
  obtain ⟨i, hi⟩ := h1
  obtain ⟨j, hj⟩ := dvd_of_emod h2
  exact ⟨i + j, by grind⟩
theorem PwInv.last {n a0 o a : Int} {k0 : Nat} (h : PwInv n a0 k0 o a 0) : o = powm a0 k0 n := by
  have h1 := h.eq
  simp only [Int.pow_zero, Int.mul_one] at h1
  have h2 := emod_of_dvd h1
  rw [Int.emod_eq_of_lt h.o0 h.o1] at h2
  exact h2

set_option maxHeartbeats 4000000 in
theorem prime_pow (a n : Int) (k : Nat) (hn0 : 1 ≤ n) (hn : n ≤ 18446744073709551615) (ha : 0 ≤ a) (ha' : a < n) (hk : k ≤ 18446744073709551615) :
    Calls Tryz.prog 172 #[.int .u64 a, .int .u64 k, .int .u64 n] w fun e w' => e = .returned (.int .u64 (powm a k n)) ∧ ∃ k, w' = w.drewN k := by
  have o0 := Int.emod_nonneg 1 (show n ≠ 0 by omega)
  have o1 := Int.emod_lt_of_pos 1 (show 0 < n by omega)
  have I0 : Hid (PwInv n a k (1 % n) a k) := ⟨o0, o1, ha, ha', ⟨- (1 / n) * a ^ k, by have := Int.mul_ediv_add_emod 1 n; grind⟩⟩
  go_enter Tryz.func172, Tryz.ntmps172
  go_wp2_with fail
  go_loopw [0, 1, 7] (fun a1 a2 a3 wr => ∃ (j : Nat) (x o : Int), j ≤ 18446744073709551615 ∧ a2 = .int .u64 j ∧ a1 = .int .u64 x ∧ a3 = .int .u64 o ∧ Hid (PwInv n a k o x j) ∧ ∃ d, wr = w.drewN d) (fun _ a2 _ _ => (intOf a2).toNat)
  case atStart => exact ⟨k, _, _, hk, rfl, rfl, rfl, I0.out, 0, rfl⟩
  case round =>
    obtain ⟨j, x, o, hj, rfl, rfl, rfl, hI, d, rfl⟩ := hrel
    clear o0 o1
    have o0 := hI.out.o0; have o1 := hI.out.o1; have x0 := hI.out.a0'; have x1 := hI.out.a1
    by_cases hj0 : 0 < j
    · by_cases hodd : j % 2 = 1
      · have hoddb : ((j : Int) % 2 == 1) = true := by simp; omega
        have HJ := Lib.hid hodd; clear hodd
        have hI' := Lib.hid (hI.out.odd HJ.out)
        go_wp2_with (first
          | (go_at_call 173; refine (prime_mul _ _ _ hn (by assumption) (by assumption) (by assumption) (by assumption)).mono ?_; rintro e w' ⟨rfl, nq, rfl⟩))
        go_roundw
        case rel => exact ⟨j / 2, _, _, by omega, by go_num, rfl, rfl, hI'.out, _, by first | rfl | (simp only [World.drewN_drewN]; rfl)⟩
        case measure => simp [intOf]; omega
      · have hoddb : ((j : Int) % 2 == 1) = false := by simp; omega
        have HJ : Hid (j % 2 = 0) := by show j % 2 = 0; omega
        clear hodd
        have hI' := Lib.hid (hI.out.even HJ.out)
        go_wp2_with (first
          | (go_at_call 173; refine (prime_mul _ _ _ hn (by assumption) (by assumption) (by assumption) (by assumption)).mono ?_; rintro e w' ⟨rfl, nq, rfl⟩))
        go_roundw
        case rel => exact ⟨j / 2, _, _, by omega, by go_num, rfl, rfl, hI'.out, _, by first | rfl | (simp only [World.drewN_drewN]; rfl)⟩
        case measure => simp [intOf]; omega
    · obtain rfl : j = 0 := by omega
      have hlast := Lib.hid hI.out.last
      go_wp2_with fail
      go_ret
      exact ⟨ret_int hlast.out, _, rfl⟩

/-! ### Witnesses -/
def witLoop (n : Int) : Nat → Int → Bool
  | 0, _ => true
  | k + 1, x => if mulm x x n = n - 1 then false else witLoop n k (mulm x x n)
def wit (a n : Int) (d s : Nat) : Bool :=
  if powm (a % n) d n = 0 ∨ powm (a % n) d n = 1 ∨ powm (a % n) d n = n - 1 then false else witLoop n (s - 1) (powm (a % n) d n)

set_option maxHeartbeats 4000000 in
theorem prime_witness (a n : Int) (d s : Nat) (hn0 : 3 ≤ n) (hn : n ≤ 18446744073709551615) (ha : 0 ≤ a) (ha' : a ≤ 18446744073709551615) (hd : d ≤ 18446744073709551615) (hs : s ≤ 64) :
    Calls Tryz.prog 145 #[.int .u64 a, .int .u64 n, .int .u64 d, .int .i64 s] w fun e w' => e = .returned (.bool (wit a n d s)) ∧ ∃ k, w' = w.drewN k := by
  have a0 := Int.emod_nonneg a (show n ≠ 0 by omega)
  have a1 := Int.emod_lt_of_pos a (show 0 < n by omega)
  obtain ⟨p0, p1⟩ := powm_lt (a % n) d n (by omega)
  by_cases c : powm (a % n) d n = 0 ∨ powm (a % n) d n = 1 ∨ powm (a % n) d n = n - 1
  · have W : Hid (wit a n d s = false) := by show wit a n d s = false; unfold wit; rw [if_pos c]
    go_enter Tryz.func145, Tryz.ntmps145
    go_upto_region 2 with (go_at_call 172; refine (prime_pow _ _ d (by omega) hn a0 a1 hd).mono ?_; rintro e w' ⟨rfl, nq, rfl⟩)
    generalize powm (a % n) d n = x at *
    rcases c with c | c | c
    · have b1 : (x == 0) = true := by simp [c]
      have C := Lib.hid c; clear c
      go_wp2_with fail
      go_ret
      exact ⟨by rw [W.out]; rfl, _, rfl⟩
    · have b1 : (x == 0) = false := by rw [c]; rfl
      have b2 : (x == 1) = true := by simp [c]
      have C := Lib.hid c; clear c
      go_wp2_with fail
      go_ret
      exact ⟨by rw [W.out]; rfl, _, rfl⟩
    · have b1 : (x == 0) = false := by simp; omega
      have b2 : (x == 1) = false := by simp; omega
      have b3 : (x == n - 1) = true := by simp [c]
      have C := Lib.hid c; clear c
      go_wp2_with fail
      go_ret
      exact ⟨by rw [W.out]; rfl, _, rfl⟩
  · have W : Hid (wit a n d s = witLoop n (s - 1) (powm (a % n) d n)) := by show wit a n d s = _; unfold wit; rw [if_neg c]
    go_enter Tryz.func145, Tryz.ntmps145
    go_upto_region 2 with (go_at_call 172; refine (prime_pow _ _ d (by omega) hn a0 a1 hd).mono ?_; rintro e w' ⟨rfl, nq, rfl⟩)
    generalize powm (a % n) d n = x at *
    have b1 : (x == 0) = false := by simp; omega
    have b2 : (x == 1) = false := by simp; omega
    have b3 : (x == n - 1) = false := by simp; omega
    clear c
    go_wp2_with fail
    go_loopw [9, 30] (fun a1 a2 wr => ∃ (j : Nat) (y : Int), j ≤ s - 1 ∧ a2 = .int .i64 j ∧ a1 = .int .u64 y ∧ 0 ≤ y ∧ y < n ∧ Hid (witLoop n (s - 1 - j) y = wit a n d s) ∧ ∃ d, wr = w.drewN d) (fun _ a2 _ => s - (intOf a2).toNat)
    case atStart => exact ⟨0, x, by omega, rfl, rfl, p0, p1, W.out.symm, _, rfl⟩
    case round =>
      obtain ⟨j, y, hj, rfl, rfl, y0, y1, hW, dd, rfl⟩ := hrel
      obtain ⟨q0, q1⟩ := mulm_lt y y n (by omega)
      by_cases hjs : j < s - 1
      · have hW2 := hW.out
        rw [show s - 1 - j = (s - 1 - (j + 1)) + 1 by omega, witLoop] at hW2
        by_cases hm : mulm y y n = n - 1
        · have b4 : (mulm y y n == n - 1) = true := by simp [hm]
          rw [if_pos hm] at hW2
          have HW := Lib.hid hW2; clear hW2
          have HM := Lib.hid hm; clear hm
          go_wp2_with (first
            | (go_at_call 173; refine (prime_mul _ _ _ hn (by assumption) (by assumption) (by assumption) (by assumption)).mono ?_; rintro e w' ⟨rfl, nq2, rfl⟩))
          go_ret
          exact ⟨by rw [← HW.out]; rfl, _, by first | rfl | (simp only [World.drewN_drewN]; rfl)⟩
        · have b4 : (mulm y y n == n - 1) = false := by simpa using hm
          rw [if_neg hm] at hW2
          have HW := Lib.hid hW2; clear hW2
          have HM := Lib.hid hm; clear hm
          go_wp2_with (first
            | (go_at_call 173; refine (prime_mul _ _ _ hn (by assumption) (by assumption) (by assumption) (by assumption)).mono ?_; rintro e w' ⟨rfl, nq2, rfl⟩))
          go_roundw
          case rel => exact ⟨j + 1, _, by omega, by go_num, rfl, q0, q1, HW.out, _, by first | rfl | (simp only [World.drewN_drewN]; rfl)⟩
          case measure => simp [intOf]; omega
      · have hW2 := hW.out
        rw [show s - 1 - j = 0 by omega, witLoop] at hW2
        have HW := Lib.hid hW2; clear hW2
        go_wp2_with fail
        go_ret
        exact ⟨by rw [← HW.out]; rfl, _, by first | rfl | (simp only [World.drewN_drewN]; rfl)⟩
end
end Go.Zig
