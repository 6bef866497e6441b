/- Plain arithmetic: words, sums with carry, a division of two words by one. -/
set_option linter.unusedVariables false
namespace Go.Zig

/-- The high and the low word of a sum, a product; quotient and remainder of two words by one. -/
def addLo (x y c : Int) : Int := (x + y + c) % 18446744073709551616
def addHi (x y c : Int) : Int := (x + y + c) / 18446744073709551616
def subLo (x y b : Int) : Int := (x - y - b) % 18446744073709551616
def subHi (x y b : Int) : Int := if x < y + b then 1 else 0
def mulHi (x y : Int) : Int := x * y / 18446744073709551616
def mulLo (x y : Int) : Int := x * y % 18446744073709551616
def divQ (h l y : Int) : Int := (h * 18446744073709551616 + l) / y
def divR (h l y : Int) : Int := (h * 18446744073709551616 + l) % y

/-- The trial quotient's true value. -/
def triQ (y1 y0 u v : Int) : Int := (u * 4294967296 + v) / (y1 * 4294967296 + y0)

structure Tri (y1 y0 u v q r : Int) : Prop where
  eq : u = q * y1 + r
  le : triQ y1 y0 u v ≤ q
/-- What is known of the divisor's halves and of the two upper thirds. -/
structure TriD (y1 y0 u v : Int) : Prop where
  a : 2147483648 ≤ y1
  b : y1 ≤ 4294967295
  c : 0 ≤ y0
  d : y0 ≤ 4294967295
  e : 0 ≤ u
  f : u < y1 * 4294967296 + y0
  g : 0 ≤ v
  h : v ≤ 4294967295

theorem TriD.pos {y1 y0 u v : Int} (h : TriD y1 y0 u v) : 0 < y1 * 4294967296 + y0 := by have := h.a; have := h.c; omega
theorem TriD.lt {y1 y0 u v : Int} (h : TriD y1 y0 u v) : triQ y1 y0 u v < 4294967296 := by
  unfold triQ
  rw [Int.ediv_lt_iff_lt_mul h.pos]
  have := h.f; have := h.h; have := h.g
  omega
theorem TriD.nonneg {y1 y0 u v : Int} (h : TriD y1 y0 u v) : 0 ≤ triQ y1 y0 u v := by
  unfold triQ
  have := h.pos; have := h.e; have := h.g
  exact Int.ediv_nonneg (by omega) (by omega)
/-- The first guess. -/
theorem TriD.start {y1 y0 u v : Int} (h : TriD y1 y0 u v) : Tri y1 y0 u v (u / y1) (u - u / y1 * y1) ∧ 0 ≤ u / y1 ∧ u / y1 ≤ 4294967297 ∧ 0 ≤ u - u / y1 * y1 ∧ u - u / y1 * y1 ≤ 4294967295 := by
  have hy : 0 < y1 := by have := h.a; omega
  have h1 := Int.mul_ediv_add_emod u y1
  have h2 := Int.emod_nonneg u (show y1 ≠ 0 by omega)
  have h3 := Int.emod_lt_of_pos u hy
  have e1 : u / y1 * y1 = y1 * (u / y1) := Int.mul_comm _ _
  have h4 : u - u / y1 * y1 = u % y1 := by omega
  have hq0 : 0 ≤ u / y1 := Int.ediv_nonneg h.e (by omega)
  refine ⟨⟨by omega, ?_⟩, hq0, ?_, by omega, by have := h.b; omega⟩
  · unfold triQ
    apply Int.le_of_lt_add_one
    rw [Int.ediv_lt_iff_lt_mul h.pos]
    -- u β + v < (q+1)(y1 β + y0)
    have h5 : u + 1 ≤ (u / y1 + 1) * y1 := by rw [Int.add_mul]; omega
    have h6 : (u + 1) * 4294967296 ≤ (u / y1 + 1) * y1 * 4294967296 := by omega
    have h7 : 0 ≤ (u / y1 + 1) * y0 := Int.mul_nonneg (by omega) h.c
    have h8 : (u / y1 + 1) * (y1 * 4294967296 + y0) = (u / y1 + 1) * y1 * 4294967296 + (u / y1 + 1) * y0 := by grind
    have := h.h
    omega
  · apply Int.le_of_lt_add_one
    rw [Int.ediv_lt_iff_lt_mul hy]
    have := h.f; have := h.d; have := h.a
    omega
/-- The guess is too great: one less. -/
theorem Tri.next {y1 y0 u v q r : Int} (h : TriD y1 y0 u v) (t : Tri y1 y0 u v q r) (hc : 4294967296 ≤ q ∨ 4294967296 * r + v < q * y0) : Tri y1 y0 u v (q - 1) (r + y1) := by
  refine ⟨by have := t.eq; grind, ?_⟩
  rcases hc with hc | hc
  · have := h.lt; omega
  · have h1 : triQ y1 y0 u v < q := by
      unfold triQ
      rw [Int.ediv_lt_iff_lt_mul h.pos]
      have e1 : q * (y1 * 4294967296 + y0) = q * y1 * 4294967296 + q * y0 := by grind
      have := t.eq
      omega
    omega
/-- The guess is right. -/
theorem Tri.done {y1 y0 u v q r : Int} (h : TriD y1 y0 u v) (t : Tri y1 y0 u v q r) (hc : q * y0 ≤ 4294967296 * r + v) : q = triQ y1 y0 u v := by
  have h1 : q ≤ triQ y1 y0 u v := by
    unfold triQ
    rw [Int.le_ediv_iff_mul_le h.pos]
    have e1 : q * (y1 * 4294967296 + y0) = q * y1 * 4294967296 + q * y0 := by grind
    have := t.eq
    omega
  have := t.le
  omega
theorem Tri.stop {y1 y0 u v q r : Int} (h : TriD y1 y0 u v) (t : Tri y1 y0 u v q r) (hq : q ≤ 4294967296) (hr : 4294967296 ≤ r) : q = triQ y1 y0 u v := by
  refine t.done h ?_
  have h1 : q * y0 ≤ 4294967296 * y0 := Int.mul_le_mul_of_nonneg_right hq h.c
  have := h.d; have := h.g
  omega
/-- What is left behind a step. -/
theorem TriD.rest {y1 y0 u v : Int} (h : TriD y1 y0 u v) :
    0 ≤ u * 4294967296 + v - triQ y1 y0 u v * (y1 * 4294967296 + y0) ∧ u * 4294967296 + v - triQ y1 y0 u v * (y1 * 4294967296 + y0) < y1 * 4294967296 + y0 ∧
    u * 4294967296 + v - triQ y1 y0 u v * (y1 * 4294967296 + y0) = (u * 4294967296 + v) % (y1 * 4294967296 + y0) := by
  have hp := h.pos
  have h1 := Int.mul_ediv_add_emod (u * 4294967296 + v) (y1 * 4294967296 + y0)
  have h2 := Int.emod_nonneg (u * 4294967296 + v) (show y1 * 4294967296 + y0 ≠ 0 by omega)
  have h3 := Int.emod_lt_of_pos (u * 4294967296 + v) hp
  have e1 : triQ y1 y0 u v * (y1 * 4294967296 + y0) = (y1 * 4294967296 + y0) * ((u * 4294967296 + v) / (y1 * 4294967296 + y0)) := by unfold triQ; exact Int.mul_comm _ _
  omega
/-- Two steps are a division of two words by one. -/
theorem two_steps (Y U L q1 r1 q0 r0 : Int) (hY : 0 < Y) (h1 : U * 4294967296 + L / 4294967296 = q1 * Y + r1) (h2 : r1 * 4294967296 + L % 4294967296 = q0 * Y + r0) (h3 : 0 ≤ r0) (h4 : r0 < Y) :
    (U * 18446744073709551616 + L) / Y = q1 * 4294967296 + q0 ∧ (U * 18446744073709551616 + L) % Y = r0 := by
  have e : U * 18446744073709551616 + L = r0 + Y * (q1 * 4294967296 + q0) := by
    have := Int.mul_ediv_add_emod L 4294967296
    grind
  constructor
  · rw [e, Int.add_mul_ediv_left _ _ (by omega), Int.ediv_eq_zero_of_lt h3 h4]; omega
  · rw [e, Int.add_mul_emod_self_left, Int.emod_eq_of_lt h3 h4]
/-- A common factor of dividend and divisor. -/
theorem scaled (X y k : Int) (hk : 0 < k) (hy : 0 < y) : (X * k) / (y * k) = X / y ∧ (X * k) % (y * k) / k = X % y := by
  refine ⟨Int.mul_ediv_mul_of_pos_left _ _ hk, ?_⟩
  rw [Int.mul_comm X k, Int.mul_comm y k, Int.mul_emod_mul_of_pos _ _ hk, Int.mul_ediv_cancel_left _ (by omega)]
end Go.Zig
