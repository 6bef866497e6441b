/- Chapter 24: the document's example. -/
import Derived.Test.YtmknijpjkikoeaaGreatDoorPmulM
import Derived.Test.YtmknijpjkikoeaaGreatDoorKeepSame
set_option linter.unusedVariables false
set_option linter.unusedSimpArgs false
namespace Go.Zig
open Go.RowKit Go.Proofs

def zeroTb : Tb := ⟨0, 0, 0, 0, 0, 0, 0, 0, 0, 0, 0⟩
theorem Row.built (w : World) (ys : List Int) : Row (w.alloc (.cells (wvals ys).toArray 26)) w.heap.size ys := Blk.new w _ _
set_option maxHeartbeats 8000000 in
theorem wakes24 (w : World) (ht : Tab w) : Calls Tryz.prog 17 #[] w fun e w' => e = .returned (.bool true) ∧ w.grownBy w' none := by
  have C : Hid (Calls Tryz.prog 14 #[.agg #[.int .i64 0, .int .i64 0, .int .i64 0, .int .i64 0, .int .i64 0, .int .i64 0, .int .i64 0, .int .i64 0, .int .i64 0, .int .i64 0, .int .i64 0], .int .u64 3] w (PNewPost 3 zeroTb w)) := pmul_New_ok zeroTb 3 w ht (by decide +kernel)
  have C2 : Hid (nrm 3 (pmul [1, 1] [2, 1]) = [2, 0, 1]) := Lib.hid (by decide +kernel)
  go_enter Tryz.func17, Tryz.ntmps17
  go_upto_region 2 with (go_at_call 14; refine C.out.mono ?_; rintro e w1 ⟨eb, r, b, l, tb, neg, one, two, rfl, hx, hp, hg⟩; have HX := Lib.hid hx; have HP := Lib.hid hp; have HG := Lib.hid hg; clear hx hp hg)
  have r1 : Row ((w1.alloc (.cells #[.int .u64 1, .int .u64 1] 26)).alloc (.cells #[.int .u64 2, .int .u64 1] 26)) w1.heap.size [1, 1] := (Row.built w1 [1, 1]).alloc _
  have r2 : Row ((w1.alloc (.cells #[.int .u64 1, .int .u64 1] 26)).alloc (.cells #[.int .u64 2, .int .u64 1] 26)) (w1.heap.size + 1) [2, 1] := by
    have := Row.built (w1.alloc (.cells #[.int .u64 1, .int .u64 1] 26)) [2, 1]
    have e : (w1.alloc (.cells #[.int .u64 1, .int .u64 1] 26)).heap.size = w1.heap.size + 1 := by simp
    rw [e] at this; exact this
  have R1 : Hid (Rd ((w1.alloc (.cells #[.int .u64 1, .int .u64 1] 26)).alloc (.cells #[.int .u64 2, .int .u64 1] 26)) (some ⟨w1.heap.size, 0, none⟩) 2 2 [1, 1]) := Lib.hid (r1.rd (by simp [Wds]) (by decide))
  have R2 : Hid (Rd ((w1.alloc (.cells #[.int .u64 1, .int .u64 1] 26)).alloc (.cells #[.int .u64 2, .int .u64 1] 26)) (some ⟨w1.heap.size + 1, 0, none⟩) 2 2 [2, 1]) := Lib.hid (r2.rd (by simp [Wds]) (by decide))
  have hg2 := Lib.hid (gr_alloc (gr_alloc (gr_refl w1 none) (.cells #[.int .u64 1, .int .u64 1] 26)) (.cells #[.int .u64 2, .int .u64 1] 26))
  clear r1 r2
  go_wp2_with (first
    | (go_at_call 20; refine (pmul_Mul_small _ _ _ _ _ _ [1, 1] [2, 1] _ R1.out R2.out (by omega) (HP.out.keep hg2.out) (by decide)).mono ?_; rintro e w2 ⟨v, rfl, hO, hg⟩; rw [C2.out] at hO; obtain ⟨A, c, rfl, R⟩ := hO.rdn (n := 3) rfl; have HR := Lib.hid R; have G2 := Lib.hid hg; clear hO hg R)
    | (go_at_call 21; refine (keep_Same _ _ _ _ _ _ [2, 0, 1] [2, 0, 1] _ (HR.out.grown (gr_alloc (gr_refl w2 none) _)) ((Row.built w2 [2, 0, 1]).rd (by simp [Wds]) (by decide))).mono ?_; rintro e w3 ⟨rfl, nq, rfl⟩))
  refine bodyPost_ret (results_tmp rfl _ _ _) rfl ?_
  exact ⟨rfl, gr_drewN (gr_alloc (gr_trans0 (gr_trans0 HG.out hg2.out) G2.out) _) _⟩
end Go.Zig
