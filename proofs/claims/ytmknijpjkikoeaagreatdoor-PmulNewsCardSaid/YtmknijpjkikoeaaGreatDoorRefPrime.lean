/- The reference's test of primes is the program's. -/
import Derived.Test.YtmknijpjkikoeaaGreatDoorRef06
import Derived.Test.YtmknijpjkikoeaaGreatDoorNum
set_option linter.unusedVariables false
set_option linter.unusedSimpArgs false
namespace Go.Zig
open Go.RowKit Go.Proofs

theorem pr_of (p : Nat) (h1 : 1 < p) (h : ∀ d : Fin (p + 1), d.val ∣ p → d.val = 1 ∨ d.val = p) : Pr p :=
  ⟨h1, fun d hd => h ⟨d, by have := Nat.le_of_dvd (by omega) hd; omega⟩ hd⟩
theorem sm_pr (k : Nat) (hk : k < 12) : Pr (sm k).toNat := by
  have : k = 0 ∨ k = 1 ∨ k = 2 ∨ k = 3 ∨ k = 4 ∨ k = 5 ∨ k = 6 ∨ k = 7 ∨ k = 8 ∨ k = 9 ∨ k = 10 ∨ k = 11 := by omega
  rcases this with rfl | rfl | rfl | rfl | rfl | rfl | rfl | rfl | rfl | rfl | rfl | rfl <;> exact pr_of _ (by decide) (by decide)
theorem sm_coprime (k : Nat) (hk : k < 12) (n : Int) (hn : 0 ≤ n) (h : n % sm k ≠ 0) : Nat.Coprime (sm k).toNat n.toNat := by
  refine (sm_pr k hk).coprime (fun hd => h ?_)
  obtain ⟨r1, r2⟩ := sm_range k hk
  have h2 : ((sm k).toNat : Int) ∣ (n.toNat : Int) := Int.natCast_dvd_natCast.2 hd
  rw [Int.toNat_of_nonneg (by omega), Int.toNat_of_nonneg hn] at h2
  exact Int.emod_eq_zero_of_dvd h2
/-- Halving down to the odd part. -/
theorem ctz_step (x c d : Nat) (hx : 0 < x) (hx' : x < 2 ^ 64) (h : x = d * 2 ^ c) (hodd : d % 2 = 1) : c = Lib.ctz 64 x ∧ d = x / 2 ^ Lib.ctz 64 x := by
  obtain ⟨m, hm, hlt⟩ := Lib.ctzFrom_spec 64 x hx hx'
  have he : Lib.ctz 64 x = Lib.ctzFrom 64 x := by unfold Lib.ctz; rw [if_neg (by omega)]
  rw [he]
  generalize Lib.ctzFrom 64 x = s at *
  have key : ∀ (a b i j : Nat), a % 2 = 1 → b % 2 = 1 → a * 2 ^ i = b * 2 ^ j → i ≤ j → i = j := by
    intro a b i j ha hb hab hij
    rcases Nat.lt_or_ge i j with hlt | hge
    · obtain ⟨k, rfl⟩ : ∃ k, j = i + (k + 1) := ⟨j - i - 1, by omega⟩
      rw [Nat.pow_add, Nat.mul_comm (2 ^ i), ← Nat.mul_assoc] at hab
      have := Nat.eq_of_mul_eq_mul_right (Nat.two_pow_pos i) hab
      rw [Nat.pow_succ] at this
      have h4 : a = 2 * (b * 2 ^ k) := by rw [this]; grind
      omega
    · omega
  have hcs : c = s := by
    have e : d * 2 ^ c = (2 * m + 1) * 2 ^ s := by rw [← h, hm]; exact Nat.mul_comm _ _
    rcases Nat.le_total c s with h1 | h1
    · exact key d (2 * m + 1) c s hodd (by omega) e h1
    · exact (key (2 * m + 1) d s c (by omega) hodd e.symm h1).symm
  subst hcs
  exact ⟨rfl, by rw [h]; exact (Nat.mul_div_cancel _ (Nat.two_pow_pos c)).symm⟩

set_option maxHeartbeats 8000000 in
set_option maxRecDepth 100000 in
theorem r06_Prime (n : Int) (w : World) (hn0 : 0 ≤ n) (hn : n ≤ 18446744073709551615) :
    Calls Tryz.prog 52 #[.int .u64 n] w fun e w' => e = .returned (.bool (isP n)) ∧ w.grownBy w' none := by
  have hg1 : w.grownBy (w.alloc (Obj.cells #[.int .u64 2, .int .u64 3, .int .u64 5, .int .u64 7, .int .u64 11, .int .u64 13, .int .u64 17, .int .u64 19, .int .u64 23, .int .u64 29, .int .u64 31, .int .u64 37] 26)) none := gr_alloc (gr_refl _ _) _
  by_cases c0 : n < 2
  · have W : Hid (isP n = false) := by show isP n = false; unfold isP; rw [if_pos c0]
    go_enter Tryz.func52, Tryz.ntmps52
    go_wp2_with fail
    go_ret
    exact ⟨by rw [W.out]; rfl, hg1⟩
  · have W : Hid (isP n = (match divs n (smallP.drop 0) with | some b => b | none => wits n ((n.toNat - 1) / 2 ^ Lib.ctz 64 (n.toNat - 1)) (Lib.ctz 64 (n.toNat - 1)) smallP)) := by show isP n = _; unfold isP; rw [if_neg c0]; rfl
    have hcell : ∀ k, k < 12 → (w.alloc (Obj.cells #[.int .u64 2, .int .u64 3, .int .u64 5, .int .u64 7, .int .u64 11, .int .u64 13, .int .u64 17, .int .u64 19, .int .u64 23, .int .u64 29, .int .u64 31, .int .u64 37] 26)).cell? ⟨w.heap.size, k, none⟩ = some (.int .u64 (sm k)) := by
      intro k hk
      rw [(Blk.new w _ _).cell k]
      have : k = 0 ∨ k = 1 ∨ k = 2 ∨ k = 3 ∨ k = 4 ∨ k = 5 ∨ k = 6 ∨ k = 7 ∨ k = 8 ∨ k = 9 ∨ k = 10 ∨ k = 11 := by omega
      rcases this with rfl | rfl | rfl | rfl | rfl | rfl | rfl | rfl | rfl | rfl | rfl | rfl <;> rfl
    have HC := Lib.hid hcell; clear hcell
    go_enter Tryz.func52, Tryz.ntmps52
    go_wp2_with fail
    generalize (w.alloc (Obj.cells #[.int .u64 2, .int .u64 3, .int .u64 5, .int .u64 7, .int .u64 11, .int .u64 13, .int .u64 17, .int .u64 19, .int .u64 23, .int .u64 29, .int .u64 31, .int .u64 37] 26)) = W1 at *
    go_loop [4] (fun i => ∃ k : Nat, k ≤ 12 ∧ i = .int .i64 k ∧ Hid (isP n = (match divs n (smallP.drop k) with | some b => b | none => wits n ((n.toNat - 1) / 2 ^ Lib.ctz 64 (n.toNat - 1)) (Lib.ctz 64 (n.toNat - 1)) smallP)) ∧ Hid (∀ j, j < k → n % sm j ≠ 0)) (fun i => 12 - (intOf i).toNat)
    case atStart => exact ⟨0, by omega, rfl, W.out, fun j hj => by omega⟩
    case round =>
      obtain ⟨k, hk, rfl, hW, hD⟩ := hrel
      by_cases hk2 : k < 12
      · have hidx := HC.out k hk2
        obtain ⟨r1, r2⟩ := sm_range k hk2
        have hW2 := hW.out
        rw [sm_drop k hk2, divs] at hW2
        by_cases hz : n % sm k = 0
        · rw [if_pos hz] at hW2
          have b1 : (n % sm k == 0) = true := by simp [hz]
          have HW := Lib.hid hW2; clear hW2
          have HZ := Lib.hid hz; clear hz
          by_cases he : n = sm k
          · have b2 : (n == sm k) = true := by simp [he]
            have HE := Lib.hid he; clear he
            go_wp2_with fail
            go_ret
            exact ⟨by rw [HW.out, decide_eq_true HE.out]; rfl, hg1⟩
          · have b2 : (n == sm k) = false := by simpa using he
            have HE := Lib.hid he; clear he
            go_wp2_with fail
            go_ret
            exact ⟨by rw [HW.out, decide_eq_false HE.out]; rfl, hg1⟩
        · rw [if_neg hz] at hW2
          have b1 : (n % sm k == 0) = false := by simpa using hz
          have HW := Lib.hid hW2; clear hW2
          have HZ := Lib.hid hz; clear hz
          go_wp2_with fail
          go_round
          case rel => exact ⟨k + 1, by omega, by go_num, HW.out, fun j hj => by
            by_cases e : j = k
            · rw [e]; exact HZ.out
            · exact hD.out j (by omega)⟩
          case measure => simp [intOf]; omega
      · obtain rfl : k = 12 := by omega
        have HW : Hid (isP n = wits n ((n.toNat - 1) / 2 ^ Lib.ctz 64 (n.toNat - 1)) (Lib.ctz 64 (n.toNat - 1)) smallP) := hW.out
        have hodd : n % 2 ≠ 0 := hD.out 0 (by omega)
        have hn3 : 3 ≤ n := by omega
        have HO := Lib.hid hodd; clear hodd
        clear hW
        go_wp2_with fail
        go_loop [5, 6] (fun a b => ∃ d c : Nat, a = .int .u64 d ∧ b = .int .i64 c ∧ c ≤ 63 ∧ 0 < d ∧ d ≤ 18446744073709551615 ∧ Hid (n.toNat - 1 = d * 2 ^ c)) (fun a _ => (intOf a).toNat)
        case atStart => exact ⟨n.toNat - 1, 0, by rw [show ((n.toNat - 1 : Nat) : Int) = n - 1 by omega], rfl, by omega, by omega, by omega, by show _ = _; simp⟩
        case round =>
          obtain ⟨d, c, rfl, rfl, hc, hd0, hd1, hdc⟩ := hrel
          by_cases hev : d % 2 = 0
          · have b1 : ((d : Int) % 2 == 0) = true := by simp; omega
            have hc2 : c + 1 ≤ 63 := by
              rcases Nat.lt_or_ge c 63 with h | h
              · omega
              · have h2 := hdc.out
                obtain rfl : c = 63 := by omega
                have : 2 * 2 ^ 63 ≤ d * 2 ^ 63 := Nat.mul_le_mul_right _ (by omega)
                omega
            have hdc2 : n.toNat - 1 = d / 2 * 2 ^ (c + 1) := by
              rw [hdc.out, Nat.pow_succ, show d = 2 * (d / 2) by omega]; grind
            have HD2 := Lib.hid hdc2; clear hdc2 hdc
            have hd2 : 2 ≤ d := by omega
            have HE := Lib.hid hev; clear hev
            go_wp2_with fail
            go_round
            case rel => exact ⟨d / 2, c + 1, by go_num, by go_num, by omega, by omega, by omega, HD2.out⟩
            case measure => simp [intOf]; omega
          · have b1 : ((d : Int) % 2 == 0) = false := by simp; omega
            obtain ⟨e1, e2⟩ := ctz_step (n.toNat - 1) c d (by omega) (by omega) hdc.out (by omega)
            have hc1 : 1 ≤ c := by
              rcases Nat.eq_zero_or_pos c with h | h
              · have h2 := hdc.out
                rw [h] at h2
                have := HO.out
                omega
              · exact h
            have hW2 := HW.out
            rw [← e2, ← e1] at hW2
            have HW2 := Lib.hid hW2
            clear hW2 e1 e2 hdc hev HW
            go_wp2_with fail
            go_loopw [7] (fun i wr => ∃ k : Nat, k ≤ 12 ∧ i = .int .i64 k ∧ Hid (isP n = wits n d c (smallP.drop k)) ∧ ∃ dd, wr = W1.drewN dd) (fun i _ => 12 - (intOf i).toNat)
            case atStart => exact ⟨0, by omega, rfl, HW2.out, 0, rfl⟩
            case round =>
              obtain ⟨k, hk, rfl, hW, dd, rfl⟩ := hrel
              by_cases hk2 : k < 12
              · have hidx := HC.out k hk2
                obtain ⟨r1, r2⟩ := sm_range k hk2
                have hW2 := hW.out
                rw [sm_drop k hk2, wits] at hW2
                have hne := powm_ne (sm k) n d (by omega) (by omega) (sm_coprime k hk2 n (by omega) (hD.out k hk2))
                have hwr := wit_rwit (sm k) n d c hne
                cases hw : rwit (sm k) n d c
                · rw [hwr, hw] at hW2
                  have HW3 : Hid (isP n = false) := hW2
                  have HV := Lib.hid hw; clear hw hW2 hW hwr hne
                  go_wp2_with (go_at_call 78; refine (r06_witness (sm k) n d c hn3 hn (by omega) (by omega) hd1 hc1 (by omega)).mono ?_; rw [HV.out]; rintro e w' ⟨rfl, nq, rfl⟩)
                  go_ret
                  exact ⟨by rw [HW3.out]; rfl, gr_drewN hg1 _⟩
                · rw [hwr, hw] at hW2
                  have HW3 : Hid (isP n = wits n d c (List.drop (k + 1) smallP)) := hW2
                  have HV := Lib.hid hw; clear hw hW2 hW hwr hne
                  go_wp2_with (go_at_call 78; refine (r06_witness (sm k) n d c hn3 hn (by omega) (by omega) hd1 hc1 (by omega)).mono ?_; rw [HV.out]; rintro e w' ⟨rfl, nq, rfl⟩)
                  go_roundw
                  case rel => exact ⟨k + 1, by omega, by go_num, HW3.out, _, by first | rfl | (simp only [World.drewN_drewN]; rfl)⟩
                  case measure => simp [intOf]; omega
              · obtain rfl : k = 12 := by omega
                have HW3 : Hid (isP n = true) := hW.out
                go_wp2_with fail
                go_ret
                exact ⟨by rw [HW3.out]; rfl, gr_drewN hg1 _⟩

def mayB (p : Int) : Bool := decide (p % 2 = 1 ∧ 3 ≤ p ∧ p < 4611686018427387904)
set_option maxHeartbeats 1000000 in
theorem r06_May (p : Int) (w : World) (h0 : 0 ≤ p) (h1 : p ≤ 18446744073709551615) :
    Calls Tryz.prog 51 #[.int .u64 p] w fun e w' => e = .returned (.bool (mayB p)) ∧ w = w' := by
  by_cases c1 : p % 2 = 1
  · have b1 : (p % 2 == 1) = true := by simp [c1]
    by_cases c2 : 3 ≤ p
    · by_cases c3 : p < 4611686018427387904
      · have R := Lib.hid (show mayB p = true from decide_eq_true ⟨c1, c2, c3⟩)
        clear c1
        go_enter Tryz.func51, Tryz.ntmps51
        go_wp2_with fail
        go_ret
        exact ⟨by rw [R.out]; rfl, rfl⟩
      · have R := Lib.hid (show mayB p = false from decide_eq_false (by omega))
        clear c1
        go_enter Tryz.func51, Tryz.ntmps51
        go_wp2_with fail
        go_ret
        exact ⟨by rw [R.out]; rfl, rfl⟩
    · have R := Lib.hid (show mayB p = false from decide_eq_false (by omega))
      clear c1
      go_enter Tryz.func51, Tryz.ntmps51
      go_wp2_with fail
      go_ret
      exact ⟨by rw [R.out]; rfl, rfl⟩
  · have b1 : (p % 2 == 1) = false := by simpa using c1
    have R := Lib.hid (show mayB p = false from decide_eq_false (by omega))
    clear c1
    go_enter Tryz.func51, Tryz.ntmps51
    go_wp2_with fail
    go_ret
    exact ⟨by rw [R.out]; rfl, rfl⟩

set_option maxHeartbeats 1000000 in
theorem r31_Modulus (p : Int) (w : World) (h0 : 0 ≤ p) (h1 : p ≤ 18446744073709551615) :
    Calls Tryz.prog 15 #[.int .u64 p] w fun e w' => e = .returned (.bool (okP p)) ∧ w.grownBy w' none := by
  by_cases c : p % 2 = 1 ∧ 3 ≤ p ∧ p < 4611686018427387904
  · have R := Lib.hid (show mayB p = true from decide_eq_true c)
    have E : Hid (okP p = isP p) := by
      show _ = _; unfold okP; rw [decide_eq_true c.1, decide_eq_true c.2.2]; rfl
    clear c
    go_enter Tryz.func15, Tryz.ntmps15
    go_wp2_with (first
      | (go_at_call 51; refine (r06_May p _ h0 h1).mono ?_; rw [R.out]; rintro e w' ⟨rfl, rfl⟩)
      | (go_at_call 52; refine (r06_Prime p _ h0 h1).mono ?_; rw [← E.out]; rintro e w' ⟨rfl, hg⟩; have HG := Lib.hid hg; clear hg))
    go_ret
    exact ⟨rfl, HG.out⟩
  · have R := Lib.hid (show mayB p = false from decide_eq_false c)
    have E : Hid (okP p = false) := by
      show _ = _
      cases h : okP p
      · rfl
      · have := okP_facts h; omega
    clear c
    go_enter Tryz.func15, Tryz.ntmps15
    go_wp2_with (first
      | (go_at_call 51; refine (r06_May p _ h0 h1).mono ?_; rw [R.out]; rintro e w' ⟨rfl, rfl⟩))
    go_ret
    exact ⟨by rw [E.out]; rfl, gr_refl _ _⟩
end Go.Zig
