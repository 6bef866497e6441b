/- Plain arithmetic of Montgomery's and Shoup's reductions, and of inverses. -/
import Derived.Test.YtmknijpjkikoeaaGreatDoorArith
set_option linter.unusedVariables false
namespace Go.Zig

/-- What a modulus's other words are. -/
structure ModOk (p neg one two : Int) : Prop where
  lo : 3 ≤ p
  hi : p ≤ 4611686018427387903
  n0 : 0 ≤ neg
  n1 : neg ≤ 18446744073709551615
  inv : (p * neg + 1) % 18446744073709551616 = 0
  one_ : one = 18446744073709551616 % p
  two_ : two = one * one % p

theorem dvd_of_emod {p a b : Int} (h : a % p = b % p) : p ∣ a - b := Int.dvd_of_emod_eq_zero (by rw [← Int.emod_emod_of_dvd (a - b) (Int.dvd_refl p)]; rw [Int.sub_emod, h, ← Int.sub_emod]; simp)
theorem emod_of_dvd {p a b : Int} (h : p ∣ a - b) : a % p = b % p := Int.emod_eq_emod_iff_emod_sub_eq_zero.2 (Int.emod_eq_zero_of_dvd h)
theorem eq_of_dvd {p a b : Int} (ha : 0 ≤ a) (ha' : a < p) (hb : 0 ≤ b) (hb' : b < p) (h : p ∣ a - b) : a = b := by
  have := emod_of_dvd h
  rwa [Int.emod_eq_of_lt ha ha', Int.emod_eq_of_lt hb hb'] at this

theorem ipow_emod (a n : Int) (k : Nat) : (a % n) ^ k % n = a ^ k % n := by
  induction k with
  | zero => simp
  | succ k ih => rw [Int.pow_succ, Int.pow_succ, Int.mul_emod, ih, ← Int.mul_emod, Int.mul_emod, Int.emod_emod_of_dvd _ (Int.dvd_refl _), ← Int.mul_emod]
/-! ### Shoup -/
def shoup (w p : Int) : Int := divQ (w % p) 0 p
theorem shoup_mul (a w p : Int) (ha : 0 ≤ a) (ha' : a < p) (hw : 0 ≤ w) (hw' : w < p) (hp : p ≤ 4611686018427387904) :
    0 ≤ a * w - mulHi a (shoup w p) * p ∧ a * w - mulHi a (shoup w p) * p < 2 * p := by
  have hp0 : 0 < p := by omega
  have hs : shoup w p = w * 18446744073709551616 / p := by unfold shoup divQ; rw [Int.emod_eq_of_lt hw hw', Int.add_zero]
  rw [hs]
  generalize hsv : w * 18446744073709551616 / p = s
  have e1 := Int.mul_ediv_add_emod (w * 18446744073709551616) p
  have e2 := Int.emod_nonneg (w * 18446744073709551616) (show p ≠ 0 by omega)
  have e3 := Int.emod_lt_of_pos (w * 18446744073709551616) hp0
  rw [hsv] at e1
  have s0 : 0 ≤ s := by rw [← hsv]; exact Int.ediv_nonneg (by omega) (by omega)
  generalize hr : w * 18446744073709551616 % p = r at *
  unfold mulHi
  have f1 := Int.mul_ediv_add_emod (a * s) 18446744073709551616
  generalize hq : a * s / 18446744073709551616 = q at *
  have f2 := Int.emod_nonneg (a * s) (show (18446744073709551616 : Int) ≠ 0 by omega)
  have f3 := Int.emod_lt_of_pos (a * s) (show (0 : Int) < 18446744073709551616 by omega)
  generalize ht : a * s % 18446744073709551616 = t at *
  -- (a w - q p) B = a r + t p
  have key : (a * w - q * p) * 18446744073709551616 = a * r + t * p := by
    have h1 : a * (p * s + r) = a * (w * 18446744073709551616) := by rw [e1]
    have h2 : p * (18446744073709551616 * q + t) = p * (a * s) := by rw [f1]
    grind
  have g1 : 0 ≤ a * r := Int.mul_nonneg ha e2
  have g2 : a * r ≤ a * p := Int.mul_le_mul_of_nonneg_left (by omega) ha
  have g3 : a * p ≤ 4611686018427387904 * p := Int.mul_le_mul_of_nonneg_right (by omega) (by omega)
  have g4 : 0 ≤ t * p := Int.mul_nonneg f2 (by omega)
  have g5 : t * p ≤ 18446744073709551615 * p := Int.mul_le_mul_of_nonneg_right (by omega) (by omega)
  constructor
  · omega
  · omega

/-! ### Montgomery -/
def redv (hi lo p neg : Int) : Int :=
  if p ≤ addLo hi (mulHi (mulLo lo neg) p) (addHi lo (mulLo (mulLo lo neg) p) 0) then addLo hi (mulHi (mulLo lo neg) p) (addHi lo (mulLo (mulLo lo neg) p) 0) - p
  else addLo hi (mulHi (mulLo lo neg) p) (addHi lo (mulLo (mulLo lo neg) p) 0)
theorem red_sum {hi lo p neg one two : Int} (m : ModOk p neg one two) (h0 : 0 ≤ hi) (h1 : hi < p) (h2 : 0 ≤ lo) (h3 : lo ≤ 18446744073709551615) :
    0 ≤ addLo hi (mulHi (mulLo lo neg) p) (addHi lo (mulLo (mulLo lo neg) p) 0) ∧
    addLo hi (mulHi (mulLo lo neg) p) (addHi lo (mulLo (mulLo lo neg) p) 0) < 2 * p ∧
    addLo hi (mulHi (mulLo lo neg) p) (addHi lo (mulLo (mulLo lo neg) p) 0) * 18446744073709551616 = hi * 18446744073709551616 + lo + mulLo lo neg * p := by
  have hp := m.hi; have hp1 := m.lo
  -- lo + (q p mod B) is a multiple of B
  have hq0 : 0 ≤ mulLo lo neg := Int.emod_nonneg _ (by omega)
  have hq1 : mulLo lo neg < 18446744073709551616 := Int.emod_lt_of_pos _ (by omega)
  have hd : (lo + mulLo lo neg * p) % 18446744073709551616 = 0 := by
    have h4 : (mulLo lo neg * p) % 18446744073709551616 = (lo * (neg * p)) % 18446744073709551616 := by
      unfold mulLo; rw [Int.mul_emod, Int.emod_emod_of_dvd _ (Int.dvd_refl _), ← Int.mul_emod, Int.mul_assoc]
    rw [Int.add_emod, h4, ← Int.add_emod]
    have h5 : lo + lo * (neg * p) = lo * (p * neg + 1) := by grind
    rw [h5, Int.mul_emod, m.inv, Int.mul_zero]; rfl
  generalize hqv : mulLo lo neg = q at *
  have h6 : mulLo q p + 18446744073709551616 * mulHi q p = q * p := by unfold mulLo mulHi; omega
  have h7 : 0 ≤ q * p := Int.mul_nonneg hq0 (by omega)
  have h8 : q * p ≤ 18446744073709551615 * p := Int.mul_le_mul_of_nonneg_right (by omega) (by omega)
  have h9 : 0 ≤ mulHi q p := by unfold mulHi; omega
  have h10 : 0 ≤ mulLo q p ∧ mulLo q p < 18446744073709551616 := by unfold mulLo; omega
  generalize mulLo q p = l at *
  generalize mulHi q p = h at *
  have h11 : addHi lo l 0 * 18446744073709551616 = lo + l := by unfold addHi; omega
  generalize addHi lo l 0 = c at *
  have h12 : addLo hi h c = hi + h + c := by unfold addLo; omega
  rw [h12]
  omega
theorem redv_spec {hi lo p neg one two : Int} (m : ModOk p neg one two) (h0 : 0 ≤ hi) (h1 : hi < p) (h2 : 0 ≤ lo) (h3 : lo ≤ 18446744073709551615) :
    0 ≤ redv hi lo p neg ∧ redv hi lo p neg < p ∧ p ∣ redv hi lo p neg * 18446744073709551616 - (hi * 18446744073709551616 + lo) := by
  obtain ⟨a, b, c⟩ := red_sum m h0 h1 h2 h3
  unfold redv
  split
  · exact ⟨by omega, by omega, ⟨mulLo lo neg - 18446744073709551616, by grind⟩⟩
  · exact ⟨by omega, by omega, ⟨mulLo lo neg, by grind⟩⟩
theorem ModOk.unB {p neg one two : Int} (m : ModOk p neg one two) {a b : Int} (h : p ∣ a * 18446744073709551616 - b * 18446744073709551616) : p ∣ a - b := by
  obtain ⟨k, hk⟩ := Int.dvd_of_emod_eq_zero m.inv
  obtain ⟨j, hj⟩ := h
  -- B k = p neg + 1
  exact ⟨j * k - (a - b) * neg, by grind⟩
def powm (a : Int) (n : Nat) (p : Int) : Int := a ^ n % p

/-- The inverse. -/
noncomputable def invm (a p : Int) : Int := by
  classical
  exact if h : ∃ x, 0 ≤ x ∧ x < p ∧ p ∣ x * a - 1 then Classical.choose h else 0
theorem invm_spec {a p x : Int} (hp : 1 < p) (h : p ∣ x * a - 1) : 0 ≤ invm a p ∧ invm a p < p ∧ p ∣ invm a p * a - 1 := by
  have hx : ∃ x, 0 ≤ x ∧ x < p ∧ p ∣ x * a - 1 := by
    refine ⟨x % p, Int.emod_nonneg _ (by omega), Int.emod_lt_of_pos _ (by omega), ?_⟩
    have e := Int.mul_ediv_add_emod x p
    obtain ⟨k, hk⟩ := h
    exact ⟨k - x / p * a, by grind⟩
  unfold invm
  rw [dif_pos hx]
  exact Classical.choose_spec hx
theorem invm_eq {a p x : Int} (hp : 1 < p) (h0 : 0 ≤ x) (h1 : x < p) (h : p ∣ x * a - 1) : invm a p = x := by
  obtain ⟨a1, a2, a3⟩ := invm_spec hp h
  refine eq_of_dvd a1 a2 h0 h1 ?_
  obtain ⟨k, hk⟩ := h
  obtain ⟨j, hj⟩ := a3
  exact ⟨j * x - invm a p * k, by grind⟩
end Go.Zig
