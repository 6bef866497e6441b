/- modw.Inv: inverses by Euclid's steps. -/
import Derived.Test.YtmknijpjkikoeaaGreatDoorModNew
set_option linter.unusedVariables false
set_option linter.unusedSimpArgs false
namespace Go.Zig
open Go.RowKit Go.Proofs

structure EuInv (p a r s x y : Int) : Prop where
  r0 : 0 ≤ r
  r1 : r ≤ p
  s0 : 0 ≤ s
  s1 : s < p
  x0 : 0 ≤ x
  x1 : x < p
  y0 : 0 ≤ y
  y1 : y < p
  cx : p ∣ x * a - r
  cy : p ∣ y * a - s
  gcd : ∀ d : Int, d ∣ r → d ∣ s → d ∣ p ∧ d ∣ a
theorem EuInv.first (p a : Int) (hp : 1 < p) : EuInv p a p (a % p) 0 1 := by
  have e := Int.mul_ediv_add_emod a p
  refine ⟨by omega, by omega, Int.emod_nonneg _ (by omega), Int.emod_lt_of_pos _ (by omega), by omega, by omega, by omega, by omega, ⟨-1, by omega⟩, ⟨a / p, by omega⟩, fun d h1 h2 => ⟨h1, ?_⟩⟩
  rw [← e]; exact Int.dvd_add (Int.dvd_trans h1 (Int.dvd_mul_right _ _)) h2
theorem EuInv.next {p a r s x y : Int} (h : EuInv p a r s x y) (hs : 0 < s) : EuInv p a s (r - r / s * s) y (subm x (mulm (r / s % p) y p) p) ∧ r - r / s * s < s ∧ 0 ≤ r - r / s * s := by
  have hp : 0 < p := by have := h.s1; omega
  have e1 := Int.mul_ediv_add_emod r s
  have e2 := Int.emod_nonneg r (show s ≠ 0 by omega)
  have e3 := Int.emod_lt_of_pos r hs
  have e4 : r / s * s = s * (r / s) := Int.mul_comm _ _
  have m := subm_lt x (mulm (r / s % p) y p) p hp
  refine ⟨⟨by omega, by have := h.s1; omega, by omega, by have := h.s1; omega, h.y0, h.y1, m.1, m.2, h.cy, ?_, ?_⟩, by omega, by omega⟩
  · obtain ⟨i, hi⟩ := h.cx
    obtain ⟨j, hj⟩ := h.cy
    have d1 : p ∣ subm x (mulm (r / s % p) y p) p - (x - mulm (r / s % p) y p) := dvd_of_emod (by unfold subm; rw [Int.emod_emod_of_dvd _ (Int.dvd_refl _)])
    have d2 : p ∣ mulm (r / s % p) y p - r / s % p * y := dvd_of_emod (by unfold mulm; rw [Int.emod_emod_of_dvd _ (Int.dvd_refl _)])
    have d3 : p ∣ r / s % p - r / s := dvd_of_emod (by rw [Int.emod_emod_of_dvd _ (Int.dvd_refl _)])
    obtain ⟨k, hk⟩ := d1; obtain ⟨l, hl⟩ := d2; obtain ⟨n, hn⟩ := d3
    exact ⟨k * a - l * a - n * y * a + i - r / s * j, by grind⟩
  · intro d h1 h2
    refine h.gcd d ?_ h1
    have : r = (r - r / s * s) + r / s * s := by omega
    rw [this]; exact Int.dvd_add h2 (Int.dvd_trans h1 (Int.dvd_mul_left _ _))
theorem EuInv.yes {p a r x y z : Int} (h : EuInv p a r 0 x y) (hz : p ∣ z * a - 1) (hp : 1 < p) : r = 1 ∧ x = invm a p := by
  obtain ⟨h1, h2⟩ := h.gcd r (Int.dvd_refl r) (Int.dvd_zero r)
  have h3 : r ∣ 1 := by
    have h4 := Int.dvd_trans h1 hz
    have h5 : r ∣ z * a := Int.dvd_trans h2 (Int.dvd_mul_left _ _)
    have := Int.dvd_sub h5 h4
    rwa [show z * a - (z * a - 1) = 1 by omega] at this
  have hr : r = 1 := by
    have h4 := Int.le_of_dvd (by omega) h3
    have h5 := h.r0
    rcases Int.lt_or_le 0 r with h6 | h6
    · omega
    · have : r = 0 := by omega
      subst this
      obtain ⟨k, hk⟩ := h3
      omega
  subst hr
  exact ⟨rfl, (invm_eq hp h.x0 h.x1 h.cx).symm⟩
theorem EuInv.no {p a r x y : Int} (h : EuInv p a r 0 x y) (hn : ∀ z, ¬ p ∣ z * a - 1) : r ≠ 1 := fun e => hn x (by have := h.cx; rwa [e] at this)

def InvPost (p a : Int) (w : World) (e : Ending) (w' : World) : Prop :=
  ∃ r x y, EuInv p a r 0 x y ∧ e = .returned (.tuple #[.int .u64 (if r = 1 then x else 0), .bool (decide (r = 1))]) ∧ ∃ n, w' = w.drewN n
section
variable {w : World} {b : Nat} {p neg one two : Int}
set_option maxHeartbeats 4000000 in
theorem mod_Inv (m : ModAt w b p neg one two) (hp : 3 ≤ p) (hp' : p ≤ 4611686018427387904) (a : Int) (ha : 0 ≤ a) (ha' : a ≤ 18446744073709551615) :
    Calls Tryz.prog 149 #[.pointer (some ⟨b, 0, none⟩), .int .u64 a] w (InvPost p a w) := by
  have c0 := m.c0
  have a0 := Int.emod_nonneg a (show p ≠ 0 by omega)
  have a1 := Int.emod_lt_of_pos a (show 0 < p by omega)
  have I0 := Lib.hid (EuInv.first p a (by omega))
  go_enter Tryz.func149, Tryz.ntmps149
  go_wp2_with fail
  go_quiet (fail)
  go_wp2_with fail
  go_loopw [6, 7, 8, 9, 10] (fun s6 s7 s8 s9 s10 wr => ∃ (r s x y : Int), s6 = .int .u64 r ∧ s7 = .int .u64 s ∧ s8 = .int .u64 x ∧ s9 = .int .u64 y ∧ Hid (EuInv p a r s x y) ∧ ∃ d, wr = w.drewN d) (fun _ s7 _ _ _ _ => (intOf s7).toNat)
  case atStart => exact ⟨_, _, _, _, rfl, rfl, rfl, rfl, I0.out, _, rfl⟩
  case round =>
    obtain ⟨r, s, x, y, rfl, rfl, rfl, rfl, hI, d, rfl⟩ := hrel
    have r0 := hI.out.r0; have r1 := hI.out.r1; have s0 := hI.out.s0; have s1 := hI.out.s1
    have x0 := hI.out.x0; have x1 := hI.out.x1; have y0 := hI.out.y0; have y1 := hI.out.y1
    have md := m.drewN d
    have c0 := md.c0
    by_cases hs : 0 < s
    · obtain ⟨h1, h2, h3⟩ := hI.out.next hs
      have q0 : 0 ≤ r / s := Int.ediv_nonneg r0 (by omega)
      have q1 : r / s * s ≤ r := by omega
      have q2 : 0 ≤ r / s * s := Int.mul_nonneg q0 (by omega)
      have q3 := Int.emod_nonneg (r / s) (show p ≠ 0 by omega)
      have q4 := Int.emod_lt_of_pos (r / s) (show 0 < p by omega)
      have q5 := mulm_lt (r / s % p) y p (by omega)
      obtain ⟨q6, q7⟩ := q5
      have H1 := Lib.hid h1; clear h1
      go_wp2_with (first
          | (go_at_call 110; refine (mod_mul (m.drewN _) (by omega) (by omega) _ _ q3 q4 y0 y1).mono ?_; rintro e w' ⟨rfl, nq1, rfl⟩)
          | (go_at_call 147; refine (mod_sub (m.drewN _) (by omega) (by omega) _ _ x0 x1 q6 q7).mono ?_; rintro e w' ⟨rfl, nq2, rfl⟩))
      go_roundw
      case rel => exact ⟨_, _, _, _, rfl, rfl, rfl, rfl, H1.out, _, by first | rfl | (simp only [World.drewN_drewN]; rfl)⟩
      case measure => simp [intOf]; omega
    · obtain rfl : s = 0 := by omega
      by_cases hr : r = 1
      · subst hr
        go_wp2_with fail
        refine bodyPost_ret (results_tmp2 rfl _ _ _) rfl ?_
        exact ⟨1, x, y, hI.out, rfl, _, rfl⟩
      · have hrb : (r != 1) = true := by rw [bne_iff_ne]; exact hr
        have HR := Lib.hid hr; clear hr
        go_wp2_with fail
        refine bodyPost_ret (results_tmp2 rfl _ _ _) rfl ?_
        refine ⟨r, x, y, hI.out, ?_, _, rfl⟩
        rw [if_neg HR.out, decide_eq_false HR.out]; rfl

theorem mod_Inv_yes (m : ModAt w b p neg one two) (hp : 3 ≤ p) (hp' : p ≤ 4611686018427387904) (a z : Int) (ha : 0 ≤ a) (ha' : a ≤ 18446744073709551615) (hz : p ∣ z * a - 1) :
    Calls Tryz.prog 149 #[.pointer (some ⟨b, 0, none⟩), .int .u64 a] w fun e w' => e = .returned (.tuple #[.int .u64 (invm a p), .bool true]) ∧ ∃ n, w' = w.drewN n := by
  refine (mod_Inv m hp hp' a ha ha').mono ?_
  rintro e w' ⟨r, x, y, h, rfl, hn⟩
  obtain ⟨rfl, rfl⟩ := h.yes hz (by omega)
  exact ⟨by simp, hn⟩
theorem mod_Inv_no (m : ModAt w b p neg one two) (hp : 3 ≤ p) (hp' : p ≤ 4611686018427387904) (a : Int) (ha : 0 ≤ a) (ha' : a ≤ 18446744073709551615) (hz : ∀ z, ¬ p ∣ z * a - 1) :
    Calls Tryz.prog 149 #[.pointer (some ⟨b, 0, none⟩), .int .u64 a] w fun e w' => e = .returned (.tuple #[.int .u64 0, .bool false]) ∧ ∃ n, w' = w.drewN n := by
  refine (mod_Inv m hp hp' a ha ha').mono ?_
  rintro e w' ⟨r, x, y, h, rfl, hn⟩
  have := h.no hz
  exact ⟨by simp [this], hn⟩
end
end Go.Zig
