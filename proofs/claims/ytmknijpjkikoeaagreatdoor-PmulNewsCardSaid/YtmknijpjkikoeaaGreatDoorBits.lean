/- Go's words: the contracts of math/bits. -/
import Derived.Test.YtmknijpjkikoeaaGreatDoorShelf
import Derived.Test.YtmknijpjkikoeaaGreatDoorArith
import Derived.Test.YtmknijpjkikoeaaGreatDoorMem
import Derived.Deep.CutBlock
import Derived.Laws.Bits64b
import Derived.Outline
import Derived.Lib.BitFns
set_option linter.unusedVariables false
set_option linter.unusedSimpArgs false
namespace Go.Zig
open Go.RowKit Go.Proofs

theorem add64 (x y c : Int) (hx : 0 ≤ x) (hy : 0 ≤ y) (hc0 : 0 ≤ c) (hc : c ≤ 1) (w : World) : (callFunc 129 #[.int .u64 x, .int .u64 y, .int .u64 c]).run Tryz.prog w =
    .ok (.value (.tuple #[.int .u64 (addLo x y c), .int .u64 (addHi x y c)])) w := by
  obtain ⟨x, rfl⟩ := Int.eq_ofNat_of_zero_le hx
  obtain ⟨y, rfl⟩ := Int.eq_ofNat_of_zero_le hy
  obtain ⟨c, rfl⟩ := Int.eq_ofNat_of_zero_le hc0
  refine (Any7.bits_Add64 Tryz.lays25 x y c (by omega) w).trans ?_
  unfold addLo addHi
  congr 5 <;> omega
theorem sub64 (x y b : Int) (hx : 0 ≤ x) (hy : 0 ≤ y) (hy' : y ≤ 18446744073709551615) (hb0 : 0 ≤ b) (hb : b ≤ 1) (w : World) : (callFunc 160 #[.int .u64 x, .int .u64 y, .int .u64 b]).run Tryz.prog w =
    .ok (.value (.tuple #[.int .u64 (subLo x y b), .int .u64 (subHi x y b)])) w := by
  obtain ⟨x, rfl⟩ := Int.eq_ofNat_of_zero_le hx
  obtain ⟨y, rfl⟩ := Int.eq_ofNat_of_zero_le hy
  obtain ⟨b, rfl⟩ := Int.eq_ofNat_of_zero_le hb0
  have e1 : (((x + 18446744073709551616 - y - b) % 18446744073709551616 : Nat) : Int) = subLo x y b := by unfold subLo; omega
  have e2 : ((if x < y + b then 1 else 0 : Nat) : Int) = subHi x y b := by unfold subHi; split <;> split <;> omega
  rw [← e1, ← e2]
  exact Any7.bits_Sub64 Tryz.lays26 x y b (by omega) w

theorem addHi_01 (x y c : Int) (hx : 0 ≤ x) (hx' : x ≤ 18446744073709551615) (hy : 0 ≤ y) (hy' : y ≤ 18446744073709551615) (hc0 : 0 ≤ c) (hc : c ≤ 1) : 0 ≤ addHi x y c ∧ addHi x y c ≤ 1 := by unfold addHi; omega
theorem addLo_word (x y c : Int) : 0 ≤ addLo x y c ∧ addLo x y c ≤ 18446744073709551615 := by unfold addLo; omega
theorem add_eq (x y c : Int) : addLo x y c + 18446744073709551616 * addHi x y c = x + y + c := by unfold addLo addHi; omega
theorem subHi_01 (x y b : Int) : 0 ≤ subHi x y b ∧ subHi x y b ≤ 1 := by unfold subHi; split <;> omega
theorem subLo_word (x y c : Int) : 0 ≤ subLo x y c ∧ subLo x y c ≤ 18446744073709551615 := by unfold subLo; omega
theorem sub_eq (x y b : Int) (hx : 0 ≤ x) (hx' : x ≤ 18446744073709551615) (hy : 0 ≤ y) (hy' : y ≤ 18446744073709551615) (hb : 0 ≤ b) (hb' : b ≤ 1) : subLo x y b - 18446744073709551616 * subHi x y b = x - y - b := by
  unfold subLo subHi; split <;> omega
theorem mulLo_word (x y : Int) : 0 ≤ mulLo x y ∧ mulLo x y ≤ 18446744073709551615 := by unfold mulLo; omega
theorem mul_eq (x y : Int) : mulLo x y + 18446744073709551616 * mulHi x y = x * y := by unfold mulLo mulHi; omega
theorem mulHi_word (x y : Int) (hx : 0 ≤ x) (hx' : x ≤ 18446744073709551615) (hy : 0 ≤ y) (hy' : y ≤ 18446744073709551615) : 0 ≤ mulHi x y ∧ mulHi x y ≤ 18446744073709551614 := by
  have h1 : 0 ≤ x * y := Int.mul_nonneg hx hy
  have h2 : x * y ≤ 18446744073709551615 * y := Int.mul_le_mul_of_nonneg_right hx' hy
  unfold mulHi; omega

theorem mul64 (x y : Int) (hx : 0 ≤ x) (hx' : x ≤ 18446744073709551615) (hy : 0 ≤ y) (hy' : y ≤ 18446744073709551615) (w : World) :
    Calls Tryz.prog 120 #[.int .u64 x, .int .u64 y] w fun e w' => e = .returned (.tuple #[.int .u64 (mulHi x y), .int .u64 (mulLo x y)]) ∧ w = w' := by
  obtain ⟨x, rfl⟩ := Int.eq_ofNat_of_zero_le hx
  obtain ⟨y, rfl⟩ := Int.eq_ofNat_of_zero_le hy
  refine (Tryz.bits_Mul64 x y (by omega) (by omega) w).mono ?_
  rintro e w' ⟨rfl, rfl⟩
  refine ⟨?_, rfl⟩
  unfold mulHi mulLo
  rw [Int.natCast_ediv, Int.natCast_emod, Int.natCast_mul]
  rfl

/-! ### Div64 -/
theorem bitLen_range : ∀ (k x : Nat), x ≠ 0 → x < 2 ^ k → k ≤ 64 → 2 ^ (Lib.bitLen x - 1) ≤ x ∧ x < 2 ^ Lib.bitLen x ∧ 1 ≤ Lib.bitLen x := by
  intro k
  induction k with
  | zero => intro x h0 h; simp at h; omega
  | succ k ih =>
    intro x h0 h hk
    have h64 : x < 2 ^ 64 := Nat.lt_of_lt_of_le h (Nat.pow_le_pow_right (by omega) hk)
    have e := Lib.bitLen_half x h0 h64
    by_cases h1 : x / 2 = 0
    · have hx : x = 1 := by omega
      subst hx
      decide
    · obtain ⟨a, b, c⟩ := ih (x / 2) h1 (by rw [Nat.pow_succ] at h; omega) (by omega)
      rw [e]
      obtain ⟨m, hm⟩ : ∃ m, Lib.bitLen (x / 2) = m + 1 := ⟨Lib.bitLen (x / 2) - 1, by omega⟩
      rw [hm] at a b ⊢
      rw [show 1 + (m + 1) - 1 = m + 1 by omega, show 1 + (m + 1) = m + 1 + 1 by omega, Nat.pow_succ 2 (m + 1)]
      rw [Nat.pow_succ] at b ⊢
      simp only [Nat.add_sub_cancel] at a
      omega
theorem wrap_fit (x : Int) (h0 : 0 ≤ x) (h1 : x ≤ 18446744073709551615) : IntKind.u64.wrap x = x := by rw [IntKind.wrap_u64]; omega
theorem or_word (a b : Int) (s : Nat) (ha : 0 ≤ a) (hb : 0 ≤ b) (h : a * 2 ^ s ≤ 18446744073709551615) (hb' : b < 2 ^ s) (hs : s ≤ 63) : bits .or .u64 (a * 2 ^ s) b = a * 2 ^ s + b := by
  obtain ⟨a, rfl⟩ := Int.eq_ofNat_of_zero_le ha
  obtain ⟨b, rfl⟩ := Int.eq_ofNat_of_zero_le hb
  have h2 : ((a : Int) * 2 ^ s) = ((a * 2 ^ s : Nat) : Int) := by push_cast; rfl
  have h3 : b < 2 ^ s := by have : ((b : Nat) : Int) < ((2 ^ s : Nat) : Int) := by push_cast; exact hb'
                            omega
  have h4 : (2 : Nat) ^ s ≤ 2 ^ 63 := Nat.pow_le_pow_right (by omega) hs
  rw [h2] at h ⊢
  rw [bits_or_u64_nat _ _ (by omega) (by omega), Nat.mul_comm, ← Nat.two_pow_add_eq_or_of_lt h3]
  push_cast
  rfl
theorem and_low (a : Int) (h0 : 0 ≤ a) (h1 : a ≤ 18446744073709551615) : bits .and .u64 a 4294967295 = a % 4294967296 := by
  obtain ⟨a, rfl⟩ := Int.eq_ofNat_of_zero_le h0
  have h := bits_and_u64_nat a 4294967295 (by omega) (by omega)
  have e : a &&& 4294967295 = a % 4294967296 := Nat.and_two_pow_sub_one_eq_mod a 32
  rw [e] at h
  rw [show (4294967295 : Int) = ((4294967295 : Nat) : Int) from rfl, h]
  omega
end Go.Zig
