/- Residues of a word: package modw. -/
import Derived.Test.YtmknijpjkikoeaaGreatDoorDiv
import Derived.Test.YtmknijpjkikoeaaGreatDoorModMath
import Derived.Deep.DeepFit
set_option linter.unusedVariables false
set_option linter.unusedSimpArgs false
namespace Go.Zig
open Go.RowKit Go.Proofs

def mulm (a b p : Int) : Int := a * b % p
def addm (a b p : Int) : Int := (a + b) % p
def subm (a b p : Int) : Int := (a - b) % p
theorem mulm_lt (a b p : Int) (hp : 0 < p) : 0 ≤ mulm a b p ∧ mulm a b p < p := ⟨Int.emod_nonneg _ (by omega), Int.emod_lt_of_pos _ hp⟩
theorem addm_lt (a b p : Int) (hp : 0 < p) : 0 ≤ addm a b p ∧ addm a b p < p := ⟨Int.emod_nonneg _ (by omega), Int.emod_lt_of_pos _ hp⟩
theorem subm_lt (a b p : Int) (hp : 0 < p) : 0 ≤ subm a b p ∧ subm a b p < p := ⟨Int.emod_nonneg _ (by omega), Int.emod_lt_of_pos _ hp⟩
theorem divR_mul (a b p : Int) : divR (mulHi a b) (mulLo a b) p = mulm a b p := by
  unfold divR mulHi mulLo mulm; congr 1; omega
theorem mulHi_lt (a b p : Int) (ha : 0 ≤ a) (ha' : a < p) (hb : 0 ≤ b) (hb' : b < p) (hp : p ≤ 18446744073709551615) : 0 ≤ mulHi a b ∧ mulHi a b < p := by
  have h1 : 0 ≤ a * b := Int.mul_nonneg ha hb
  have h2 : a * b ≤ p * b := Int.mul_le_mul_of_nonneg_right (by omega) hb
  have h3 : p * b < p * 18446744073709551616 := by
    have := Int.mul_lt_mul_of_pos_left (show b < 18446744073709551616 by omega) (show 0 < p by omega)
    exact this
  unfold mulHi; omega

/-- A modulus in memory. -/
structure ModAt (w : World) (b : Nat) (p neg one two : Int) : Prop where
  c0 : w.cell? ⟨b, 0, none⟩ = some (.int .u64 p)
  c1 : w.cell? ⟨b, 1, none⟩ = some (.int .u64 neg)
  c2 : w.cell? ⟨b, 2, none⟩ = some (.int .u64 one)
  c3 : w.cell? ⟨b, 3, none⟩ = some (.int .u64 two)
theorem ModAt.drewN {w : World} {b : Nat} {p neg one two : Int} (h : ModAt w b p neg one two) (n : Nat) : ModAt (w.drewN n) b p neg one two := ⟨h.c0, h.c1, h.c2, h.c3⟩
theorem ModAt.keep {w w' : World} {b : Nat} {p neg one two : Int} (h : ModAt w b p neg one two) {row : Option Nat} (hg : w.grownBy w' row) (hne : some b ≠ row) : ModAt w' b p neg one two :=
  ⟨hg.cell h.c0 hne, hg.cell h.c1 hne, hg.cell h.c2 hne, hg.cell h.c3 hne⟩

section
variable {w : World} {b : Nat} {p neg one two : Int}

set_option maxHeartbeats 1000000 in
theorem mod_mul (m : ModAt w b p neg one two) (hp : 1 ≤ p) (hp' : p ≤ 18446744073709551615) (x y : Int) (hx : 0 ≤ x) (hx' : x < p) (hy : 0 ≤ y) (hy' : y < p) :
    Calls Tryz.prog 110 #[.pointer (some ⟨b, 0, none⟩), .int .u64 x, .int .u64 y] w fun e w' => e = .returned (.int .u64 (mulm x y p)) ∧ ∃ n, w' = w.drewN n := by
  have c0 := m.c0
  obtain ⟨g1, g2⟩ := mulHi_lt x y p hx hx' hy hy' hp'
  obtain ⟨g3, g4⟩ := mulLo_word x y
  have E := Lib.hid (divR_mul x y p)
  go_enter Tryz.func110, Tryz.ntmps110
  go_wp2_with (first | (go_at_call 120; refine (mul64 _ _ hx (by omega) hy (by omega) _).mono ?_; rintro e w' ⟨rfl, rfl⟩) | (go_at_call 121; refine (div64 _ _ _ g1 g2 hp' g3 g4 _).mono ?_; rintro e w' ⟨rfl, nq, rfl⟩))
  go_ret
  exact ⟨by rw [E.out]; rfl, _, rfl⟩

set_option maxHeartbeats 1000000 in
theorem mod_add (m : ModAt w b p neg one two) (hp : 1 ≤ p) (hp' : p ≤ 4611686018427387904) (x y : Int) (hx : 0 ≤ x) (hx' : x < p) (hy : 0 ≤ y) (hy' : y < p) :
    Calls Tryz.prog 109 #[.pointer (some ⟨b, 0, none⟩), .int .u64 x, .int .u64 y] w fun e w' => e = .returned (.int .u64 (addm x y p)) ∧ ∃ n, w' = w.drewN n := by
  have c0 := m.c0
  by_cases h : p ≤ x + y
  · have E : Hid (x + y - p = addm x y p) := by
      have := Int.emod_eq_of_lt (show 0 ≤ x + y - p by omega) (show x + y - p < p by omega)
      show x + y - p = (x + y) % p
      rw [← this, Int.sub_emod_right]
    go_enter Tryz.func109, Tryz.ntmps109
    go_wp2
    go_ret
    exact ⟨by rw [← E.out]; rfl, 0, rfl⟩
  · have E : Hid (x + y = addm x y p) := by
      show x + y = (x + y) % p
      rw [Int.emod_eq_of_lt (by omega) (by omega)]
    go_enter Tryz.func109, Tryz.ntmps109
    go_wp2
    go_ret
    exact ⟨by rw [← E.out]; rfl, 0, rfl⟩

set_option maxHeartbeats 1000000 in
theorem mod_sub (m : ModAt w b p neg one two) (hp : 1 ≤ p) (hp' : p ≤ 4611686018427387904) (x y : Int) (hx : 0 ≤ x) (hx' : x < p) (hy : 0 ≤ y) (hy' : y < p) :
    Calls Tryz.prog 147 #[.pointer (some ⟨b, 0, none⟩), .int .u64 x, .int .u64 y] w fun e w' => e = .returned (.int .u64 (subm x y p)) ∧ ∃ n, w' = w.drewN n := by
  have c0 := m.c0
  by_cases h : y ≤ x
  · have E : Hid (x - y = subm x y p) := by
      show x - y = (x - y) % p
      rw [Int.emod_eq_of_lt (by omega) (by omega)]
    go_enter Tryz.func147, Tryz.ntmps147
    go_wp2
    go_ret
    exact ⟨by rw [← E.out]; rfl, 0, rfl⟩
  · have E : Hid (x + p - y = subm x y p) := by
      have := Int.emod_eq_of_lt (show 0 ≤ x + p - y by omega) (show x + p - y < p by omega)
      show x + p - y = (x - y) % p
      rw [← this, show x + p - y = (x - y) + p by omega, Int.add_emod_right]
    go_enter Tryz.func147, Tryz.ntmps147
    go_wp2
    go_ret
    exact ⟨by rw [← E.out]; rfl, 0, rfl⟩

set_option maxHeartbeats 1000000 in
/-- Mul, Add, Sub of any words. -/
theorem mod_Mul (m : ModAt w b p neg one two) (hp : 1 ≤ p) (hp' : p ≤ 4611686018427387904) (x y : Int) (hx : 0 ≤ x) (hx' : x ≤ 18446744073709551615) (hy : 0 ≤ y) (hy' : y ≤ 18446744073709551615) :
    Calls Tryz.prog 82 #[.pointer (some ⟨b, 0, none⟩), .int .u64 x, .int .u64 y] w fun e w' => e = .returned (.int .u64 (mulm x y p)) ∧ ∃ n, w' = w.drewN n := by
  have c0 := m.c0
  have E : Hid (mulm (x % p) (y % p) p = mulm x y p) := by show x % p * (y % p) % p = x * y % p; rw [← Int.mul_emod]
  have hx1 := Int.emod_nonneg x (show p ≠ 0 by omega)
  have hx2 := Int.emod_lt_of_pos x (show 0 < p by omega)
  have hy1 := Int.emod_nonneg y (show p ≠ 0 by omega)
  have hy2 := Int.emod_lt_of_pos y (show 0 < p by omega)
  go_enter Tryz.func82, Tryz.ntmps82
  go_wp2_with fail
  go_quiet ((go_at_call 110; exact Calls.quiet_of (mod_mul (m.drewN _) hp (by omega) (x % p) (y % p) hx1 hx2 hy1 hy2)))
  go_wp2
  go_ret
  exact ⟨by rw [← E.out]; rfl, _, rfl⟩
end
end Go.Zig
