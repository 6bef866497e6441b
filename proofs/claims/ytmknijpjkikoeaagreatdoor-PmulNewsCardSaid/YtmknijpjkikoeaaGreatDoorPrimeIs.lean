/- Package prime: the test of primes. -/
import Derived.Test.YtmknijpjkikoeaaGreatDoorPrime
set_option linter.unusedVariables false
set_option linter.unusedSimpArgs false
namespace Go.Zig
open Go.RowKit Go.Proofs

def smallP : List Int := [2, 3, 5, 7, 11, 13, 17, 19, 23, 29, 31, 37]
def sm (k : Nat) : Int := smallP.getD k 0
def divs (n : Int) : List Int → Option Bool
  | [] => none
  | p :: l => if n % p = 0 then some (decide (n = p)) else divs n l
def wits (n : Int) (d s : Nat) : List Int → Bool
  | [] => true
  | p :: l => if wit p n d s then false else wits n d s l
def isP (n : Int) : Bool :=
  if n < 2 then false else
  match divs n smallP with
  | some b => b
  | none => wits n ((n.toNat - 1) / 2 ^ Lib.ctz 64 (n.toNat - 1)) (Lib.ctz 64 (n.toNat - 1)) smallP

def smallVals : Array Value := #[.int .u64 2, .int .u64 3, .int .u64 5, .int .u64 7, .int .u64 11, .int .u64 13, .int .u64 17, .int .u64 19, .int .u64 23, .int .u64 29, .int .u64 31, .int .u64 37]
theorem sm_at (k : Nat) (hk : k < 12) (w : World) : (Instr.index 196 (.agg #[.int .u64 2, .int .u64 3, .int .u64 5, .int .u64 7, .int .u64 11, .int .u64 13, .int .u64 17, .int .u64 19, .int .u64 23, .int .u64 29, .int .u64 31, .int .u64 37]) (.int .i64 k)).run Tryz.prog w = .ok (.int .u64 (sm k)) w := by
  have h0 : (Instr.index 196 (.agg #[.int .u64 2, .int .u64 3, .int .u64 5, .int .u64 7, .int .u64 11, .int .u64 13, .int .u64 17, .int .u64 19, .int .u64 23, .int .u64 29, .int .u64 31, .int .u64 37]) (.int .i64 0)).run Tryz.prog w = .ok (.int .u64 2) w := by kernel_rfl
  have h1 : (Instr.index 196 (.agg #[.int .u64 2, .int .u64 3, .int .u64 5, .int .u64 7, .int .u64 11, .int .u64 13, .int .u64 17, .int .u64 19, .int .u64 23, .int .u64 29, .int .u64 31, .int .u64 37]) (.int .i64 1)).run Tryz.prog w = .ok (.int .u64 3) w := by kernel_rfl
  have h2 : (Instr.index 196 (.agg #[.int .u64 2, .int .u64 3, .int .u64 5, .int .u64 7, .int .u64 11, .int .u64 13, .int .u64 17, .int .u64 19, .int .u64 23, .int .u64 29, .int .u64 31, .int .u64 37]) (.int .i64 2)).run Tryz.prog w = .ok (.int .u64 5) w := by kernel_rfl
  have h3 : (Instr.index 196 (.agg #[.int .u64 2, .int .u64 3, .int .u64 5, .int .u64 7, .int .u64 11, .int .u64 13, .int .u64 17, .int .u64 19, .int .u64 23, .int .u64 29, .int .u64 31, .int .u64 37]) (.int .i64 3)).run Tryz.prog w = .ok (.int .u64 7) w := by kernel_rfl
  have h4 : (Instr.index 196 (.agg #[.int .u64 2, .int .u64 3, .int .u64 5, .int .u64 7, .int .u64 11, .int .u64 13, .int .u64 17, .int .u64 19, .int .u64 23, .int .u64 29, .int .u64 31, .int .u64 37]) (.int .i64 4)).run Tryz.prog w = .ok (.int .u64 11) w := by kernel_rfl
  have h5 : (Instr.index 196 (.agg #[.int .u64 2, .int .u64 3, .int .u64 5, .int .u64 7, .int .u64 11, .int .u64 13, .int .u64 17, .int .u64 19, .int .u64 23, .int .u64 29, .int .u64 31, .int .u64 37]) (.int .i64 5)).run Tryz.prog w = .ok (.int .u64 13) w := by kernel_rfl
  have h6 : (Instr.index 196 (.agg #[.int .u64 2, .int .u64 3, .int .u64 5, .int .u64 7, .int .u64 11, .int .u64 13, .int .u64 17, .int .u64 19, .int .u64 23, .int .u64 29, .int .u64 31, .int .u64 37]) (.int .i64 6)).run Tryz.prog w = .ok (.int .u64 17) w := by kernel_rfl
  have h7 : (Instr.index 196 (.agg #[.int .u64 2, .int .u64 3, .int .u64 5, .int .u64 7, .int .u64 11, .int .u64 13, .int .u64 17, .int .u64 19, .int .u64 23, .int .u64 29, .int .u64 31, .int .u64 37]) (.int .i64 7)).run Tryz.prog w = .ok (.int .u64 19) w := by kernel_rfl
  have h8 : (Instr.index 196 (.agg #[.int .u64 2, .int .u64 3, .int .u64 5, .int .u64 7, .int .u64 11, .int .u64 13, .int .u64 17, .int .u64 19, .int .u64 23, .int .u64 29, .int .u64 31, .int .u64 37]) (.int .i64 8)).run Tryz.prog w = .ok (.int .u64 23) w := by kernel_rfl
  have h9 : (Instr.index 196 (.agg #[.int .u64 2, .int .u64 3, .int .u64 5, .int .u64 7, .int .u64 11, .int .u64 13, .int .u64 17, .int .u64 19, .int .u64 23, .int .u64 29, .int .u64 31, .int .u64 37]) (.int .i64 9)).run Tryz.prog w = .ok (.int .u64 29) w := by kernel_rfl
  have h10 : (Instr.index 196 (.agg #[.int .u64 2, .int .u64 3, .int .u64 5, .int .u64 7, .int .u64 11, .int .u64 13, .int .u64 17, .int .u64 19, .int .u64 23, .int .u64 29, .int .u64 31, .int .u64 37]) (.int .i64 10)).run Tryz.prog w = .ok (.int .u64 31) w := by kernel_rfl
  have h11 : (Instr.index 196 (.agg #[.int .u64 2, .int .u64 3, .int .u64 5, .int .u64 7, .int .u64 11, .int .u64 13, .int .u64 17, .int .u64 19, .int .u64 23, .int .u64 29, .int .u64 31, .int .u64 37]) (.int .i64 11)).run Tryz.prog w = .ok (.int .u64 37) w := by kernel_rfl
  have : k = 0 ∨ k = 1 ∨ k = 2 ∨ k = 3 ∨ k = 4 ∨ k = 5 ∨ k = 6 ∨ k = 7 ∨ k = 8 ∨ k = 9 ∨ k = 10 ∨ k = 11 := by omega
  rcases this with rfl | rfl | rfl | rfl | rfl | rfl | rfl | rfl | rfl | rfl | rfl | rfl
  · exact h0
  · exact h1
  · exact h2
  · exact h3
  · exact h4
  · exact h5
  · exact h6
  · exact h7
  · exact h8
  · exact h9
  · exact h10
  · exact h11
theorem sm_range (k : Nat) (hk : k < 12) : 2 ≤ sm k ∧ sm k ≤ 37 := by
  have : ∀ k : Fin 12, 2 ≤ sm k.val ∧ sm k.val ≤ 37 := by decide
  exact this ⟨k, hk⟩
theorem sm_drop (k : Nat) (hk : k < 12) : smallP.drop k = sm k :: smallP.drop (k + 1) := by
  have : ∀ k : Fin 12, smallP.drop k.val = sm k.val :: smallP.drop (k.val + 1) := by decide
  exact this ⟨k, hk⟩

set_option maxHeartbeats 4000000 in
set_option maxRecDepth 100000 in
theorem prime_Is (n : Int) (w : World) (hn0 : 0 ≤ n) (hn : n ≤ 18446744073709551615) (ht : Tab w) :
    Calls Tryz.prog 105 #[.int .u64 n] w fun e w' => e = .returned (.bool (isP n)) ∧ w.grownBy w' none := by
  by_cases c0 : n < 2
  · have W : Hid (isP n = false) := by show isP n = false; unfold isP; rw [if_pos c0]
    go_enter Tryz.func105, Tryz.ntmps105
    go_wp2_with fail
    go_ret
    exact ⟨by rw [W.out]; rfl, gr_refl _ _⟩
  · have W : Hid (isP n = (match divs n (smallP.drop 0) with | some b => b | none => wits n ((n.toNat - 1) / 2 ^ Lib.ctz 64 (n.toNat - 1)) (Lib.ctz 64 (n.toNat - 1)) smallP)) := by show isP n = _; unfold isP; rw [if_neg c0]; rfl
    go_enter Tryz.func105, Tryz.ntmps105
    go_wp2_with fail
    have hg1 : w.grownBy (w.alloc (Obj.cells #[.int .u64 2, .int .u64 3, .int .u64 5, .int .u64 7, .int .u64 11, .int .u64 13, .int .u64 17, .int .u64 19, .int .u64 23, .int .u64 29, .int .u64 31, .int .u64 37] 196)) none := gr_alloc (gr_refl _ _) _
    go_loop [14] (fun i => ∃ k : Nat, k ≤ 12 ∧ i = .int .i64 k ∧ Hid (isP n = (match divs n (smallP.drop k) with | some b => b | none => wits n ((n.toNat - 1) / 2 ^ Lib.ctz 64 (n.toNat - 1)) (Lib.ctz 64 (n.toNat - 1)) smallP)) ∧ Hid (∀ j, j < k → n % sm j ≠ 0)) (fun i => 12 - (intOf i).toNat)
    case atStart => exact ⟨0, by omega, rfl, W.out, fun j hj => by omega⟩
    case round =>
      obtain ⟨k, hk, rfl, hW, hD⟩ := hrel
      by_cases hk2 : k < 12
      · have hidx := sm_at k hk2
        obtain ⟨r1, r2⟩ := sm_range k hk2
        have hW2 := hW.out
        rw [sm_drop k hk2, divs] at hW2
        by_cases hz : n % sm k = 0
        · rw [if_pos hz] at hW2
          have b1 : (n % sm k == 0) = true := by simp [hz]
          have HW := Lib.hid hW2; clear hW2
          have HZ := Lib.hid hz; clear hz
          by_cases he : n = sm k
          · have b2 : (n == sm k) = true := by simp [he]
            have HE := Lib.hid he; clear he
            go_wp2_with fail
            go_ret
            exact ⟨by rw [HW.out, decide_eq_true HE.out]; rfl, hg1⟩
          · have b2 : (n == sm k) = false := by simpa using he
            have HE := Lib.hid he; clear he
            go_wp2_with fail
            go_ret
            exact ⟨by rw [HW.out, decide_eq_false HE.out]; rfl, hg1⟩
        · rw [if_neg hz] at hW2
          have b1 : (n % sm k == 0) = false := by simpa using hz
          have HW := Lib.hid hW2; clear hW2
          have HZ := Lib.hid hz; clear hz
          go_wp2_with fail
          go_round
          case rel => exact ⟨k + 1, by omega, by go_num, HW.out, fun j hj => by
            by_cases e : j = k
            · rw [e]; exact HZ.out
            · exact hD.out j (by omega)⟩
          case measure => simp [intOf]; omega
      · obtain rfl : k = 12 := by omega
        have HW : Hid (isP n = wits n ((n.toNat - 1) / 2 ^ Lib.ctz 64 (n.toNat - 1)) (Lib.ctz 64 (n.toNat - 1)) smallP) := hW.out
        have hodd : n % 2 ≠ 0 := hD.out 0 (by omega)
        have hn3 : 3 ≤ n := by omega
        have hN : (n - 1).toNat = n.toNat - 1 := by omega
        have HO := Lib.hid hodd; clear hodd
        have HNN := Lib.hid hN; clear hN
        clear hW
        obtain ⟨mm, hm1, hs⟩ := Lib.ctzFrom_spec 64 (n.toNat - 1) (by omega) (by omega)
        have hs2 : Lib.ctz 64 (n.toNat - 1) < 64 := by unfold Lib.ctz; rw [if_neg (by omega)]; exact hs
        clear hm1 hs
        have hd : (n - 1) / 2 ^ Lib.ctz 64 (n.toNat - 1) = ((n.toNat - 1) / 2 ^ Lib.ctz 64 (n.toNat - 1) : Nat) := by
          rw [Int.natCast_ediv, Int.natCast_pow]
          congr 1; omega
        have hd2 : (n.toNat - 1) / 2 ^ Lib.ctz 64 (n.toNat - 1) ≤ 18446744073709551615 := Nat.le_trans (Nat.div_le_self _ _) (by omega)
        have HD2 := Lib.hid hd2; clear hd2
        go_upto_region 11 with (go_at_call 144; refine (tz64 _ (by omega) (by omega) _ (ht.grown hg1)).mono ?_; rintro e w' ⟨rfl, rfl⟩; rw [HNN.out])
        generalize Lib.ctz 64 (n.toNat - 1) = s at *
        have HD := Lib.hid hd; clear hd
        go_upto_region 12 with fail
        rw [HD.out]
        generalize (n.toNat - 1) / 2 ^ s = d at *
        go_wp2_with fail
        generalize (w.alloc (Obj.cells #[.int .u64 2, .int .u64 3, .int .u64 5, .int .u64 7, .int .u64 11, .int .u64 13, .int .u64 17, .int .u64 19, .int .u64 23, .int .u64 29, .int .u64 31, .int .u64 37] 196)) = W1 at *
        go_loopw [34] (fun i wr => ∃ k : Nat, k ≤ 12 ∧ i = .int .i64 k ∧ Hid (isP n = wits n d s (smallP.drop k)) ∧ ∃ dd, wr = W1.drewN dd) (fun i _ => 12 - (intOf i).toNat)
        case atStart => exact ⟨0, by omega, rfl, HW.out, 0, rfl⟩
        case round =>
          obtain ⟨k, hk, rfl, hW, dd, rfl⟩ := hrel
          by_cases hk2 : k < 12
          · have hidx := sm_at k hk2
            obtain ⟨r1, r2⟩ := sm_range k hk2
            have hW2 := hW.out
            rw [sm_drop k hk2, wits] at hW2
            cases hw : wit (sm k) n d s
            · rw [hw] at hW2
              have HW2 : Hid (isP n = wits n d s (List.drop (k + 1) smallP)) := hW2
              have HV := Lib.hid hw; clear hw hW2 hW
              go_wp2_with (go_at_call 145; refine (prime_witness (sm k) n d s hn3 hn (by omega) (by omega) HD2.out (by omega)).mono ?_; rw [HV.out]; rintro e w' ⟨rfl, nq, rfl⟩)
              go_roundw
              case rel => exact ⟨k + 1, by omega, by go_num, HW2.out, _, by first | rfl | (simp only [World.drewN_drewN]; rfl)⟩
              case measure => simp [intOf]; omega
            · rw [hw] at hW2
              have HW2 : Hid (isP n = false) := hW2
              have HV := Lib.hid hw; clear hw hW2 hW
              go_wp2_with (go_at_call 145; refine (prime_witness (sm k) n d s hn3 hn (by omega) (by omega) HD2.out (by omega)).mono ?_; rw [HV.out]; rintro e w' ⟨rfl, nq, rfl⟩)
              go_ret
              exact ⟨by rw [HW2.out]; rfl, gr_drewN hg1 _⟩
          · obtain rfl : k = 12 := by omega
            have HW2 : Hid (isP n = true) := hW.out
            go_wp2_with fail
            go_ret
            exact ⟨by rw [HW2.out]; rfl, gr_drewN hg1 _⟩
end Go.Zig
