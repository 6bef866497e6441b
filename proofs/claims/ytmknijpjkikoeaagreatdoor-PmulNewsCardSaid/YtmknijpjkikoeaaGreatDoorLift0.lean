/- Rows: what every law of this seat needs: the table that is laid, an argument of type api.Table, the end. -/
import Derived.Test.YtmknijpjkikoeaaGreatDoorRows
import Derived.Test.YtmknijpjkikoeaaGreatDoorTable
import Derived.ProofKit
import Derived.LaidMore
import Derived.OpenShut
import Derived.Stop.Joined
import Derived.Carry


namespace Go.Proofs.YtmknijpjkikoeaaGreatDoor
open Go Go.ChangeShapes Go.WideShapes Go.ChangeAt Go.RowKit Go.Zig

theorem zigOwn : ownKnob Tryz.prog.godebug = none := by kernel_rfl
theorem zigLaidOut : laidOutB Tryz.prog = true := by kernel_rfl
abbrev zigLaid : List (String × DataW Unit) := [("math/bits.deBruijn64tab", Rows.laid_math_bits_deBruijn64tab)]
theorem zigTabName : Tryz.prog.globalNamed "math/bits.deBruijn64tab" = some 2 := by kernel_rfl

theorem zigDoor (os : Os) (args : Array Value) : laidMetH Tryz.prog zigLaid ((World.doorLaid Tryz.prog 400 os).forCall (fun _ _ => 0) ⟨#[], args, []⟩).memory :=
  laidMetH_of_parts3 (fuel := 8) (laidMet_of_run' 8 (by kernel_rfl) (by kernel_rfl)) (by kernel_rfl) (by kernel_rfl)

theorem zigTab {W : World} (h : laidMetH Tryz.prog zigLaid W) : Tab W := by
  rw [MakeChecks.laidMetH_plain _ _ _ (by kernel_rfl)] at h
  obtain ⟨ps, ⟨g0, t0, cs0, f0, p0, q0, hg0, ht0, hv0, hd0, _⟩, _, _⟩ := h
  obtain rfl := Option.some.inj (zigTabName.symm.trans hg0)
  obtain rfl := Option.some.inj ((show (Tryz.prog.globals[2]?).map (·.type) = some 220 by kernel_rfl).symm.trans ht0)
  obtain ⟨xs, m, _, hx, _, hlen, hel⟩ := DataW.trod_array Tryz.underlying220 hd0
  have c8 : Tryz.prog.cellsOf 5 = 1 := by kernel_rfl
  have hx1 : (xs.map (·.1)) = Lib.deBruijn64tab.map (fun (n : Nat) => DataW.lit (.int .u8 (n : Int))) := by
    have e : (Rows.laid_math_bits_deBruijn64tab : DataW Unit) = .agg (Lib.deBruijn64tab.map (fun (n : Nat) => DataW.lit (.int .u8 (n : Int)))) := by kernel_rfl
    rw [e] at hx
    simp only [Prod.mk.injEq, DataW.agg.injEq] at hx
    exact hx.1.symm
  intro j hj
  have hj64 : j < 64 := hj
  have h1 := hel j hj64
  rw [c8, List.getElem?_eq_getElem (by omega)] at h1
  obtain ⟨n, e1, e2, _⟩ := DataW.trod_int Tryz.underlying5 h1
  have h2 : (xs.map (·.1))[j]? = some (DataW.lit (.int .u8 n)) := by
    rw [List.getElem?_map, List.getElem?_eq_getElem (by omega), e2]; rfl
  rw [hx1, List.getElem?_map] at h2
  have h3 : Lib.deBruijn64tab[j]? = some (Lib.deBruijn64tab.getD j 0) := by
    rw [List.getD_eq_getElem?_getD, List.getElem?_eq_getElem hj]; rfl
  rw [h3] at h2
  simp only [Option.map_some, Option.some.injEq, DataW.lit.injEq, Lit.int.injEq, true_and] at h2
  have h4 := World.var?_cell zigTabName hv0 j
  have h5 : ((cs0.toList.drop (j * 1)).take 1)[0]? = some (.int .u8 n) := by rw [e1]; rfl
  have h6 : cs0[j]? = some (.int .u8 n) := by simpa using h5
  rw [h4, h6, h2]

theorem wf_u64 {k : Int} (h : (Lit.int .u64 k).wf = true) : 0 ≤ k ∧ k ≤ 18446744073709551615 := by
  simp only [Lit.wf, Bool.and_eq_true, decide_eq_true_eq] at h
  have e1 : IntKind.u64.min = 0 := by decide
  have e2 : IntKind.u64.max = 18446744073709551615 := by decide
  omega
theorem wf_i64 {k : Int} (h : (Lit.int .i64 k).wf = true) : -9223372036854775808 ≤ k ∧ k ≤ 9223372036854775807 := by
  simp only [Lit.wf, Bool.and_eq_true, decide_eq_true_eq] at h
  have e1 : IntKind.i64.min = -9223372036854775808 := by decide
  have e2 : IntKind.i64.max = 9223372036854775807 := by decide
  omega
set_option maxRecDepth 4000 in
theorem array11 {α : Type} {cs : Array α} (h : cs.size = 11) : ∃ c0 c1 c2 c3 c4 c5 c6 c7 c8 c9 c10, cs = #[c0, c1, c2, c3, c4, c5, c6, c7, c8, c9, c10] := by
  obtain ⟨l⟩ := cs
  match l, h with
  | [c0, c1, c2, c3, c4, c5, c6, c7, c8, c9, c10], _ => exact ⟨c0, c1, c2, c3, c4, c5, c6, c7, c8, c9, c10, rfl⟩
set_option maxRecDepth 4000 in
theorem open_tb {H : Type} {enc : TypeId × Value → H} {W w : World} {base b0 : Nat} {spare : Nat → Bool} {held : Bool} {r : Reach} {v : Value} {d : DataW H} {p : List MemPlace}
    (hv : Value.okWide Tryz.prog W r b0 23 v) (h : DataW.Trod enc Tryz.prog w base spare held 23 v d p) : ∃ t : Tb, v = .agg t.cells := by
  obtain ⟨cs, rfl, hsz⟩ := okWide_struct Tryz.underlying23 hv
  have hc : Tryz.prog.cellsOf 23 = 11 := by kernel_rfl
  have hi : Tryz.prog.cellsOf 3 = 1 := by kernel_rfl
  obtain ⟨c0, c1, c2, c3, c4, c5, c6, c7, c8, c9, c10, rfl⟩ := array11 (hsz.trans hc)
  obtain ⟨fuel, hf⟩ := h
  obtain ⟨xs, n, _, _, _, hlen, hfld⟩ := DataW.trod_struct Tryz.underlying23 hf
  have key : ∀ (i : Nat) (f : Field) (c : Value), (#[c0, c1, c2, c3, c4, c5, c6, c7, c8, c9, c10] : Array Value)[i]? = some c → i < 11 → f.type = 3 → f.offset = i →
      DataW.trod enc Tryz.prog w base spare held n f.type (((Value.agg #[c0, c1, c2, c3, c4, c5, c6, c7, c8, c9, c10]).cells.toList.drop f.offset).take (Tryz.prog.cellsOf f.type)) = xs[i]? → ∃ k, c = .int .i64 k := by
    intro i f c hci hi11 ht ho hx
    rw [ht, ho, hi, List.getElem?_eq_getElem (by rw [hlen]; simpa using hi11)] at hx
    obtain ⟨k, e, _⟩ := DataW.trod_int Tryz.underlying3 hx
    have e2 : ([c0, c1, c2, c3, c4, c5, c6, c7, c8, c9, c10].drop i).take 1 = [.int .i64 k] := by simpa [Value.cells] using e
    have e3 : [c0, c1, c2, c3, c4, c5, c6, c7, c8, c9, c10][i]? = some c := by simpa using hci
    have e4 : (([c0, c1, c2, c3, c4, c5, c6, c7, c8, c9, c10].drop i).take 1)[0]? = some c := by simpa using e3
    rw [e2] at e4
    exact ⟨k, by simpa using e4.symm⟩
  obtain ⟨k0, rfl⟩ := key 0 _ c0 rfl (by decide) rfl rfl (hfld 0 _ rfl)
  obtain ⟨k1, rfl⟩ := key 1 _ c1 rfl (by decide) rfl rfl (hfld 1 _ rfl)
  obtain ⟨k2, rfl⟩ := key 2 _ c2 rfl (by decide) rfl rfl (hfld 2 _ rfl)
  obtain ⟨k3, rfl⟩ := key 3 _ c3 rfl (by decide) rfl rfl (hfld 3 _ rfl)
  obtain ⟨k4, rfl⟩ := key 4 _ c4 rfl (by decide) rfl rfl (hfld 4 _ rfl)
  obtain ⟨k5, rfl⟩ := key 5 _ c5 rfl (by decide) rfl rfl (hfld 5 _ rfl)
  obtain ⟨k6, rfl⟩ := key 6 _ c6 rfl (by decide) rfl rfl (hfld 6 _ rfl)
  obtain ⟨k7, rfl⟩ := key 7 _ c7 rfl (by decide) rfl rfl (hfld 7 _ rfl)
  obtain ⟨k8, rfl⟩ := key 8 _ c8 rfl (by decide) rfl rfl (hfld 8 _ rfl)
  obtain ⟨k9, rfl⟩ := key 9 _ c9 rfl (by decide) rfl rfl (hfld 9 _ rfl)
  obtain ⟨k10, rfl⟩ := key 10 _ c10 rfl (by decide) rfl rfl (hfld 10 _ rfl)
  exact ⟨⟨k0, k1, k2, k3, k4, k5, k6, k7, k8, k9, k10⟩, rfl⟩

section
variable {H : Type} {enc : TypeId × Value → H} {P : Program} {W W' : World}
theorem trodAll_stays (hl : laidOutB P = true) (hb : Below W.heap.size W W') : ∀ {ts : List TypeId} {vs : List Value} {ds : List (DataW H)} {ps : List MemPlace}, (∀ t ∈ ts, P.readableRec t = true ∧ t < P.types.size) →
    DataW.TrodAll enc P W 0 (fun _ => true) true ts vs ds ps → (∀ x ∈ ps, x.block < W.heap.size) → DataW.TrodAll enc P W' 0 (fun b => decide (b < W.heap.size)) true ts vs ds ps
  | [], vs, ds, ps, _, h, _ => by
    obtain ⟨rfl, rfl, rfl⟩ := trodAll_nil h
    exact trodAll_mk0
  | t :: ts, vs, ds, ps, hr, h, hlt => by
    obtain ⟨v, vs, d, ds, p, q, rfl, rfl, rfl, h1, h2⟩ := trodAll_cons h
    obtain ⟨r1, r2⟩ := hr t (by simp)
    exact ⟨p, q, Below.trod hl r1 r2 h1 hb (fun x hx => hlt x (by simp [hx])), trodAll_stays hl hb (fun t ht => hr t (by simp [ht])) h2 (fun x hx => hlt x (by simp [hx])), rfl⟩
/-- The law returned true, and nothing that was there has turned. -/
theorem law_post {s : ChangeSpec} {f : Func} {args : Array Value} {ds : List (DataW H)} {ps : List MemPlace} (hl : laidOutB P = true) (hvars : s.vars = []) (b : TypeId) (hbt : P.underlying b = some .bool) (hres : f.resultTypes = #[b])
    (hfn : s.fn H (ds ++ []) = { results := [.lit (.bool true)], args := ds }) (hr : ∀ t ∈ f.params.toList, P.readableRec t = true ∧ t < P.types.size)
    (hW : DataW.Whole enc P f.params.toList s.vars false W args.toList ds [] ps) (hg : W.grownBy W' none) : s.post enc P f false true false false W args (.bool true) W' := by
  have hb : Below W.heap.size W W' := ⟨hg.os, hg.tape, hg.output, hg.size, fun k hk => hg.block k hk (by simp)⟩
  have hW2 := hW
  obtain ⟨p, q, hA, hV, e, hz, hn⟩ := hW2
  have hq : q = [] := by rw [hvars] at hV; exact (trodVars_none hV).2
  subst hq
  simp only [List.append_nil] at e
  subst e
  refine ⟨ds, [], ps, [], ps, [], hW, ?_, ?_, ?_, hb.frame _, fun h => by cases h⟩
  · rw [hfn, hres]; exact trodAll_mk1 (shut_bool hbt true)
  · rw [hfn]; exact trodAll_stays hl hb hr hA (fun x hx => hW.lt x hx)
  · rw [hfn, hvars]; rfl
end
end Go.Proofs.YtmknijpjkikoeaaGreatDoor
