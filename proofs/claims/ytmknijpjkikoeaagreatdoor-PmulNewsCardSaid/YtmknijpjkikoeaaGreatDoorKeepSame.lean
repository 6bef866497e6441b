/- Package zigguratkeep: Same. -/
import Derived.Test.YtmknijpjkikoeaaGreatDoorWrow
import Derived.Deep.Light
set_option linter.unusedVariables false
set_option linter.unusedSimpArgs false
namespace Go.Zig
open Go.RowKit Go.Proofs

def same (xs ys : List Int) : Bool := decide (xs = ys)
set_option maxHeartbeats 2000000 in
theorem keep_Same (A A' : Option Addr) (n c n' c' : Nat) (xs ys : List Int) (w : World) (h : Rd w A n c xs) (h' : Rd w A' n' c' ys) :
    Calls Tryz.prog 21 #[.slice A n c, .slice A' n' c'] w fun e w' => e = .returned (.bool (same xs ys)) ∧ ∃ k, w' = w.drewN k := by
  have hb := h.big
  have HA := Lib.hid h; have HB := Lib.hid h'
  clear h h'
  by_cases hn : n = n'
  · subst hn
    have b1 : ((n : Int) != n) = false := by simp
    go_enter Tryz.func21, Tryz.ntmps21
    go_wp2_with fail
    go_loopg [5] n (fun g s5 wr => ∃ k : Nat, k ≤ n ∧ g = n - k ∧ s5 = .int .i64 k ∧ Hid (∀ j, j < k → wd xs j = wd ys j) ∧ ∃ d, wr = w.drewN d)
    case atStart => exact ⟨0, Nat.zero_le _, rfl, rfl, fun j hj => by omega, 0, rfl⟩
    case round =>
      obtain ⟨k, hk, rfl, rfl, hI, d, rfl⟩ := hrel
      by_cases hkn : k < n
      · obtain ⟨b1_, o1, e1, hc1⟩ := HA.out.cells (by omega)
        obtain ⟨b2_, o2, e2, hc2⟩ := HB.out.cells (by omega)
        subst e1; subst e2
        have q1 := hc1 k hkn
        have q2 := hc2 k hkn
        clear hc1 hc2
        by_cases hx : wd xs k = wd ys k
        · have b2 : (wd xs k != wd ys k) = false := by simp [hx]
          have HX := Lib.hid hx; clear hx
          go_wp2_with fail
          go_quiet (fail)
          go_wp2_with fail
          go_roundg (n - (k + 1))
          case measure => go_light; omega
          case rel =>
            go_light
            exact ⟨k + 1, by omega, rfl, by go_num, fun j hj => by
              by_cases e : j = k
              · rw [e]; exact HX.out
              · exact hI.out j (by omega), _, by first | rfl | (simp only [World.drewN_drewN]; rfl)⟩
        · have b2 : (wd xs k != wd ys k) = true := by simpa using hx
          have HX := Lib.hid hx; clear hx
          go_wp2_with fail
          go_quiet (fail)
          go_wp2_with fail
          refine bodyPost_ret (results_tmp rfl _ _ _) rfl ?_
          have e : same xs ys = false := by
            unfold same; refine decide_eq_false (fun e => HX.out (by rw [e]))
          exact ⟨by rw [e]; rfl, _, by first | rfl | (simp only [World.drewN_drewN]; rfl)⟩
      · obtain rfl : k = n := by omega
        have e : same xs ys = true := by
          unfold same
          refine decide_eq_true (list_ext (by rw [HA.out.len, HB.out.len]) (fun j hj => hI.out j (by rw [HA.out.len] at hj; exact hj)))
        have E := Lib.hid e; clear e
        go_wp2_with fail
        refine bodyPost_ret (results_tmp rfl _ _ _) rfl ?_
        exact ⟨by rw [E.out]; rfl, _, by first | rfl | (simp only [World.drewN_drewN]; rfl)⟩
  · have b1 : ((n : Int) != n') = true := by simp; omega
    go_enter Tryz.func21, Tryz.ntmps21
    go_wp2_with fail
    refine bodyPost_ret (results_tmp rfl _ _ _) rfl ?_
    have e : same xs ys = false := by
      unfold same; refine decide_eq_false (fun e => hn (by rw [← HA.out.len, ← HB.out.len, e]))
    exact ⟨by rw [e]; rfl, 0, rfl⟩
end Go.Zig
