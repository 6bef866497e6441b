/- PmulNews: over whatever number: the engine of polynomials is made where ref31 calls the number a modulus, and the error ErrMod is given else: the law returns true at every input, and every argument reads as before. Conditions: those of the row: math/bits.deBruijn64tab as the program's text lays it. -/
import Derived.Test.YtmknijpjkikoeaaGreatDoorLift0
import Derived.Test.YtmknijpjkikoeaaGreatDoorLaw24a
import Derived.Test.YtmknijpjkikoeaaGreatDoorTie
import Derived.Test.YtmknijpjkikoeaaGreatDoorCards
namespace Go.Proofs.YtmknijpjkikoeaaGreatDoor
open Go Go.ChangeShapes Go.WideShapes Go.ChangeAt Go.RowKit Go.Zig

set_option maxRecDepth 100000 in
theorem pmulNews_lifted (os : Os) (started : os.Started) (H : Type) (enc : TypeId × Value → H) :
    ReturnsInHanded {} Tryz.checked os 4 .any (fun w args => (Rows.pmulNewsSpec.pre enc Tryz.prog Tryz.f4 [] false w args ∧ laidMetH Tryz.prog zigLaid w) ∧ sizedMet enc Tryz.prog Tryz.f4 (OpenSpec.ofChange Rows.pmulNewsSpec) false w args)
      (Rows.pmulNewsSpec.post enc Tryz.prog Tryz.f4 false true false false) := by
  refine returnsInHanded_of_change_and (C := Tryz.checked) (X := fun w _ => laidMetH Tryz.prog zigLaid w) (fun _ _ _ hh h => h.of_heap hh) zigOwn started (by kernel_rfl) Tryz.func4
    (ChangeSpec.witness_shaped (enc := enc) (C := Tryz.checked) (os := os) (X := fun w _ => laidMetH Tryz.prog zigLaid w) false (World.doorLaid Tryz.prog 400 os) #[.agg zeroTb.cells, .int .u64 0] 8 rfl (World.shaped_of_RefB (by kernel_rfl) (by kernel_rfl)) (by kernel_rfl) (by kernel_rfl) (by kernel_rfl) (zigDoor os _)) ?_
  intro W base args ds gs before hval0 hW _ _ hL _
  have hval : ∀ (j : Nat) t v, Tryz.f4.params[j]? = some t → args[j]? = some v → Value.okWide Tryz.prog W .any base t v := hval0
  have hW' := hW
  obtain ⟨p, q, hA0, hV, rfl, hfz, hnd⟩ := hW
  have hA : DataW.TrodAll enc Tryz.prog W 0 (fun _ => true) true Tryz.f4.params.toList args.toList ds p := hA0
  rw [Tryz.params4] at hA hval
  obtain ⟨v0, v1, d0, d1, p0, p1, rfl, rfl, rfl, h0, h1⟩ := trodAll_two hA
  obtain ⟨rfl, rfl⟩ := trodVars_none hV
  obtain ⟨t, rfl⟩ := open_tb (hval 0 _ v0 rfl rfl) h0
  obtain ⟨k, rfl, rfl, rfl, wk⟩ := open_int Tryz.underlying26 (hval 1 _ v1 rfl rfl) h1
  refine (law24_PmulNews t k W (zigTab hL) (wf_u64 wk).1 (wf_u64 wk).2).mono fun e W' ⟨he, hw⟩ => ?_
  subst he
  exact ⟨_, rfl, law_post zigLaidOut rfl 4 Tryz.underlying4 (by kernel_rfl) rfl (by rw [Tryz.params4]; exact of_decide_eq_true (by kernel_rfl)) hW' hw⟩

theorem pmulNews_holds : Rows.PmulNewsSaid :=
  OpenClaim.holds_of_wide 4 Tryz.f4 rfl rfl rfl rfl rfl rfl rfl ⟨rfl, rfl, rfl, rfl, rfl⟩ rfl rfl rfl rfl rfl (by kernel_rfl) Tryz.func4 (by kernel_rfl)
    (of_decide_eq_true (by kernel_rfl)) (by unfold Func.isWrapper; first | (rw [if_pos (by decide +kernel)]; kernel_rfl) | (rw [if_neg (by decide +kernel)]; exact ⟨rfl, rfl⟩))
    (fun os started H enc _ => pmulNews_lifted os started H enc)

theorem pmulNews_card_holds : Rows.PmulNewsCardSaid :=
  Claim7.holds_tied_plain_at .later [] [.data] true _ false
    pmulNews_holds (fun _ h => by cases h) (by kernel_rfl) (fun _ h => by cases h) pmulNews_row_tie rfl ⟨rfl, rfl⟩ (by kernel_rfl) rfl
    (fun f fn hf hfn => by
      obtain rfl : f = 4 := Option.some.inj ((show Tryz.prog.funcNamed "ziggurat/zigguratlaw24.PmulNews" = some 4 by kernel_rfl).symm.trans hf) |>.symm
      obtain rfl : fn = Tryz.f4 := (Option.some.inj (Tryz.func4.symm.trans hfn)).symm
      exact ⟨by kernel_rfl, fun j t ht => by
        have hm : t ∈ Tryz.f4.params := Array.mem_of_getElem? ht
        have hall : (Tryz.f4.params.all fun u => !Tryz.prog.wantsStandIn u) = true := by kernel_rfl
        exact (show Tryz.prog.wantsStandIn t = false by simpa using Array.all_eq_true_iff_forall_mem.1 hall t hm)⟩)
    (by kernel_rfl)
#print axioms pmulNews_card_holds
end Go.Proofs.YtmknijpjkikoeaaGreatDoor
