/- Chapter 24: PmulNews, the function. -/
import Derived.Test.YtmknijpjkikoeaaGreatDoorWakes24
import Derived.Test.YtmknijpjkikoeaaGreatDoorRefPrime
import Derived.Test.YtmknijpjkikoeaaGreatDoorModRed
set_option linter.unusedVariables false
set_option linter.unusedSimpArgs false
namespace Go.Zig
open Go.RowKit Go.Proofs

set_option maxHeartbeats 8000000 in
theorem law24_PmulNews (t : Tb) (p : Int) (w : World) (ht : Tab w) (h0 : 0 ≤ p) (h1 : p ≤ 18446744073709551615) :
    Calls Tryz.prog 4 #[.agg t.cells, .int .u64 p] w fun e w' => e = .returned (.bool true) ∧ w.grownBy w' none := by
  by_cases h : okP p = true
  · have C := Lib.hid (show ∀ W, Tab W → Calls Tryz.prog 14 #[.agg t.cells, .int .u64 p] W (PNewPost p t W) from fun W hW => pmul_New_ok t p W hW h)
    have H := Lib.hid h; clear h
    unfold Tb.cells at *
    go_enter Tryz.func4, Tryz.ntmps4
    go_upto_region 3 with (first
      | (go_at_call 14; refine (C.out _ (ht.grown (gr_alloc (gr_refl _ _) _))).mono ?_; rintro e w1 ⟨eb, r, b, l, tb, neg, one, two, rfl, hx, hp, hg⟩; have HX := Lib.hid hx; have HP := Lib.hid hp; have HG := Lib.hid hg; clear hx hp hg)
      | (go_at_call 15; refine (r31_Modulus p _ h0 h1).mono ?_; rw [H.out]; rintro e w2 ⟨rfl, hg2⟩; have G2 := Lib.hid hg2; clear hg2))
    have PE := Lib.hid (HP.out.keep G2.out)
    have c0 := PE.out.c0
    obtain ⟨n0, l', hl, c1⟩ := PE.out.c1
    have cr := PE.out.cr
    have GA := Lib.hid (gr_trans0 (gr_trans0 (gr_alloc (gr_refl w none) _) HG.out) G2.out)
    go_wp2_with (first
      | (go_at_call 16; refine (mod_P PE.out.m).mono ?_; rintro e w' ⟨rfl, rfl⟩)
      | (go_at_call 17; refine (wakes24 _ (ht.grown GA.out)).mono ?_; rintro e w3 ⟨rfl, hg3⟩; have G3 := Lib.hid hg3; clear hg3))
    refine bodyPost_ret (results_tmp rfl _ _ _) rfl ?_
    exact ⟨by simp, gr_trans0 GA.out G3.out⟩
  · have h2 : okP p = false := by simpa using h
    clear h
    have C := Lib.hid (show ∀ W, Tab W → Calls Tryz.prog 14 #[.agg t.cells, .int .u64 p] W (fun e w' => e = .returned (.tuple #[.pointer none, .int .i64 3]) ∧ W.grownBy w' none) from fun W hW => pmul_New_no t p W hW h0 h1 h2)
    have H := Lib.hid h2; clear h2
    unfold Tb.cells at *
    go_enter Tryz.func4, Tryz.ntmps4
    go_upto_region 4 with (first
      | (go_at_call 14; refine (C.out _ (ht.grown (gr_alloc (gr_refl _ _) _))).mono ?_; rintro e w1 ⟨rfl, hg⟩; have HG := Lib.hid hg; clear hg)
      | (go_at_call 15; refine (r31_Modulus p _ h0 h1).mono ?_; rw [H.out]; rintro e w2 ⟨rfl, hg2⟩; have G2 := Lib.hid hg2; clear hg2))
    have GA := Lib.hid (gr_trans0 (gr_trans0 (gr_alloc (gr_refl w none) _) HG.out) G2.out)
    go_wp2_with (go_at_call 17; refine (wakes24 _ (ht.grown GA.out)).mono ?_; rintro e w3 ⟨rfl, hg3⟩; have G3 := Lib.hid hg3; clear hg3)
    refine bodyPost_ret (results_tmp rfl _ _ _) rfl ?_
    exact ⟨by simp, gr_trans0 GA.out G3.out⟩
end Go.Zig
