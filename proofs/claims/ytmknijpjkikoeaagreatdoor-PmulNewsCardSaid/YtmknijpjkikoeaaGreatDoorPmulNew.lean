/- prime.Mod, polyp.New, pmul.New. -/
import Derived.Test.YtmknijpjkikoeaaGreatDoorNew
set_option linter.unusedVariables false
set_option linter.unusedSimpArgs false
namespace Go.Zig
open Go.RowKit Go.Proofs

/-- May p be a modulus of polynomials? -/
def okP (p : Int) : Bool := decide (p % 2 = 1) && (decide (p < 4611686018427387904) && isP p)
theorem okP_facts {p : Int} (h : okP p = true) : 3 ≤ p ∧ p ≤ 4611686018427387903 ∧ p % 2 = 1 ∧ isP p = true := by
  unfold okP at h
  simp only [Bool.and_eq_true, decide_eq_true_eq] at h
  obtain ⟨h1, h2, h3⟩ := h
  have : ¬ p < 2 := fun hlt => by unfold isP at h3; rw [if_pos hlt] at h3; cases h3
  exact ⟨by omega, by omega, h1, h3⟩

def ModPost (p : Int) (w : World) (e : Ending) (w' : World) : Prop :=
  ∃ b neg one two, e = .returned (.tuple #[.pointer (some ⟨b, 0, none⟩), .int .i64 0]) ∧ w.heap.size ≤ b ∧ ModAt w' b p neg one two ∧ ModOk p neg one two ∧ w.grownBy w' none

set_option maxHeartbeats 4000000 in
theorem prime_Mod_ok (p : Int) (w : World) (ht : Tab w) (h : okP p = true) : Calls Tryz.prog 76 #[.int .u64 p] w (ModPost p w) := by
  obtain ⟨h0, h1, h2, h3⟩ := okP_facts h
  have H3 := Lib.hid h3
  have H2 := Lib.hid h2
  have b1 : (p % 2 == 0) = false := by simp; omega
  clear h h3 h2
  go_enter Tryz.func76, Tryz.ntmps76
  go_wp2_with (first
    | (go_at_call 105; refine (prime_Is p _ (by omega) (by omega) ht).mono ?_; rw [H3.out]; rintro e w1 ⟨rfl, hg⟩; have HG := Lib.hid hg; clear hg)
    | (go_at_call 106; refine (mod_New_ok p _ h0 h1 H2.out).mono ?_; rintro e w2 ⟨b, neg, one, two, rfl, hb, hm, hk, hg2⟩; have HB := Lib.hid hb; have HM := Lib.hid hm; have HK := Lib.hid hk; have HG2 := Lib.hid hg2; clear hb hm hk hg2))
  go_ret2
  exact ⟨b, neg, one, two, rfl, Nat.le_trans HG.out.size HB.out, HM.out, HK.out, gr_trans0 HG.out HG2.out⟩

set_option maxHeartbeats 4000000 in
theorem prime_Mod_no (p : Int) (w : World) (ht : Tab w) (h0 : 0 ≤ p) (h1 : p ≤ 18446744073709551615) (h : okP p = false) : Calls Tryz.prog 76 #[.int .u64 p] w fun e w' => e = .returned (.tuple #[.pointer none, .int .i64 3]) ∧ w.grownBy w' none := by
  by_cases c1 : p % 2 = 0
  · have b1 : (p % 2 == 0) = true := by simp [c1]
    have C := Lib.hid c1; clear c1 h
    go_enter Tryz.func76, Tryz.ntmps76
    go_wp2_with fail
    go_ret2
    exact ⟨rfl, gr_refl _ _⟩
  · have b1 : (p % 2 == 0) = false := by simp; omega
    by_cases c2 : 4611686018427387904 ≤ p
    · have C := Lib.hid c1; clear c1 h
      go_enter Tryz.func76, Tryz.ntmps76
      go_wp2_with fail
      go_ret2
      exact ⟨rfl, gr_refl _ _⟩
    · have h3 : isP p = false := by
        unfold okP at h
        rw [decide_eq_true (show p % 2 = 1 by omega), decide_eq_true (show p < 4611686018427387904 by omega)] at h
        simpa using h
      have H3 := Lib.hid h3
      have C := Lib.hid c1; clear c1 h h3
      go_enter Tryz.func76, Tryz.ntmps76
      go_wp2_with (first
        | (go_at_call 105; refine (prime_Is p _ (by omega) (by omega) ht).mono ?_; rw [H3.out]; rintro e w1 ⟨rfl, hg⟩; have HG := Lib.hid hg; clear hg))
      go_ret2
      exact ⟨rfl, HG.out⟩

/-- A ring. -/
def RingPost (p : Int) (w : World) (e : Ending) (w' : World) : Prop :=
  ∃ r b neg one two, e = .returned (.tuple #[.pointer (some ⟨r, 0, none⟩), .int .i64 0]) ∧ w.heap.size ≤ b ∧ w.heap.size ≤ r ∧ w'.cell? ⟨r, 0, none⟩ = some (.pointer (some ⟨b, 0, none⟩)) ∧ ModAt w' b p neg one two ∧ ModOk p neg one two ∧ w.grownBy w' none

set_option maxHeartbeats 4000000 in
theorem polyp_New_ok (p : Int) (w : World) (ht : Tab w) (h : okP p = true) : Calls Tryz.prog 49 #[.int .u64 p] w (RingPost p w) := by
  have H := Lib.hid h; clear h
  go_enter Tryz.func49, Tryz.ntmps49
  go_wp2_with (go_at_call 76; refine (prime_Mod_ok p _ ht H.out).mono ?_; rintro e w1 ⟨b, neg, one, two, rfl, hb, hm, hk, hg⟩; have HB := Lib.hid hb; have HM := Lib.hid hm; have HK := Lib.hid hk; have HG := Lib.hid hg; clear hb hm hk hg)
  go_ret2
  exact ⟨w1.heap.size, b, neg, one, two, rfl, HB.out, HG.out.size, (Blk.new w1 _ _).cell 0, HM.out.keep (gr_alloc (gr_refl _ none) _) (by simp), HK.out, gr_alloc HG.out _⟩

set_option maxHeartbeats 4000000 in
theorem polyp_New_no (p : Int) (w : World) (ht : Tab w) (h0 : 0 ≤ p) (h1 : p ≤ 18446744073709551615) (h : okP p = false) : Calls Tryz.prog 49 #[.int .u64 p] w fun e w' => e = .returned (.tuple #[.pointer none, .int .i64 3]) ∧ w.grownBy w' none := by
  have H := Lib.hid h; clear h
  go_enter Tryz.func49, Tryz.ntmps49
  go_wp2_with (go_at_call 76; refine (prime_Mod_no p _ ht h0 h1 H.out).mono ?_; rintro e w1 ⟨rfl, hg⟩; have HG := Lib.hid hg; clear hg)
  go_ret2
  exact ⟨rfl, HG.out⟩

/-- An engine of polynomials: its ring, its modulus, the engine of naturals behind N. -/
structure PEng (w : World) (e r b : Nat) (l : List Nat) (tb : Nat) (p neg one two mu no de : Int) (t : Tb) : Prop where
  c1 : ∃ n0 l', l = n0 :: l' ∧ w.cell? ⟨e, 1, none⟩ = some (.pointer (some ⟨n0, 0, none⟩))
  c0 : w.cell? ⟨e, 0, none⟩ = some (.pointer (some ⟨r, 0, none⟩))
  cr : w.cell? ⟨r, 0, none⟩ = some (.pointer (some ⟨b, 0, none⟩))
  m : ModAt w b p neg one two
  k : ModOk p neg one two
  len : l.length = 15
  path : Path w l
  last : l.getLast? = some tb
  tune : Blk w tb 87 (tune mu no de t)

def PNewPost (p : Int) (t : Tb) (w : World) (e : Ending) (w' : World) : Prop :=
  ∃ eb r b l tb neg one two, e = .returned (.tuple #[.pointer (some ⟨eb, 0, none⟩), .int .i64 0]) ∧ (∀ x ∈ eb :: r :: b :: l, w.heap.size ≤ x) ∧ PEng w' eb r b l tb p neg one two 0 0 0 t.clamp ∧ w.grownBy w' none

set_option maxHeartbeats 4000000 in
theorem pmul_New_ok (t : Tb) (p : Int) (w : World) (ht : Tab w) (h : okP p = true) : Calls Tryz.prog 14 #[.agg t.cells, .int .u64 p] w (PNewPost p t w) := by
  have H := Lib.hid h; clear h
  have C := Lib.hid (show ∀ W, Calls Tryz.prog 50 #[.agg t.cells] W (NewPost 14 t W) from fun W => modn_New t W)
  unfold Tb.cells at *
  go_enter Tryz.func14, Tryz.ntmps14
  go_upto_region 4 with (go_at_call 49; refine (polyp_New_ok p _ (ht.grown (gr_alloc (gr_refl _ _) _)) H.out).mono ?_; rintro e w1 ⟨r, b, neg, one, two, rfl, hb, hr, hc, hm, hk, hg⟩; have HB := Lib.hid hb; have HR := Lib.hid hr; have HC := Lib.hid hc; have HM := Lib.hid hm; have HK := Lib.hid hk; have HG := Lib.hid hg; clear hb hr hc hm hk hg)
  have bt := (Blk.new w 23 t.cells)
  have bt2 := bt.grown HG.out (by simp)
  unfold Tb.cells at bt2
  have t0 := bt2.cell 0
  have t1 := bt2.cell 1
  have t2 := bt2.cell 2
  have t3 := bt2.cell 3
  have t4 := bt2.cell 4
  have t5 := bt2.cell 5
  have t6 := bt2.cell 6
  have t7 := bt2.cell 7
  have t8 := bt2.cell 8
  have t9 := bt2.cell 9
  have t10 := bt2.cell 10
  simp at t0 t1 t2 t3 t4 t5 t6 t7 t8 t9 t10
  clear bt bt2
  go_wp2_with (go_at_call 50; refine (C.out _).mono ?_; rintro e w2 ⟨n0, l, tb, hl, rfl, hx, hp, ht, hk, hg⟩; have HL := Lib.hid hl; have HX := Lib.hid hx; have HP := Lib.hid hp; have HT := Lib.hid ht; have HK2 := Lib.hid hk; have HG2 := Lib.hid hg; clear hl hx hp ht hk hg)
  go_ret2
  have hs1 := HG.out.size
  have hs2 := HG2.out.size
  have hs3 := HB.out
  have hs4 := HR.out
  simp at hs1 hs3 hs4
  have G3 : w1.grownBy (w2.alloc (.cells #[.pointer (some ⟨r, 0, none⟩), .pointer (some ⟨n0, 0, none⟩)] 40)) none := gr_alloc HG2.out _
  have G4 : w2.grownBy (w2.alloc (.cells #[.pointer (some ⟨r, 0, none⟩), .pointer (some ⟨n0, 0, none⟩)] 40)) none := gr_alloc (gr_refl _ _) _
  refine ⟨w2.heap.size, r, b, n0 :: l, tb, neg, one, two, rfl, ?_, ⟨⟨n0, l, rfl, (Blk.new w2 _ _).cell 1⟩, (Blk.new w2 _ _).cell 0, ?_, HM.out.keep G3 (by simp), HK.out, by simp [HL.out], HP.out.keep G4 (fun _ _ => by simp), HT.out, HK2.out.grown G4 (by simp)⟩, gr_trans0 (gr_alloc (gr_refl _ _) _) (gr_trans0 HG.out G3)⟩
  · intro x hx
    rcases List.mem_cons.1 hx with e | hx
    · omega
    rcases List.mem_cons.1 hx with e | hx
    · omega
    rcases List.mem_cons.1 hx with e | hx
    · omega
    · have := HX.out x hx
      omega
  · exact G3.cell HC.out (by simp)

set_option maxHeartbeats 4000000 in
theorem pmul_New_no (t : Tb) (p : Int) (w : World) (ht : Tab w) (h0 : 0 ≤ p) (h1 : p ≤ 18446744073709551615) (h : okP p = false) : Calls Tryz.prog 14 #[.agg t.cells, .int .u64 p] w fun e w' => e = .returned (.tuple #[.pointer none, .int .i64 3]) ∧ w.grownBy w' none := by
  have H := Lib.hid h; clear h
  unfold Tb.cells at *
  go_enter Tryz.func14, Tryz.ntmps14
  go_wp2_with (go_at_call 49; refine (polyp_New_no p _ (ht.grown (gr_alloc (gr_refl _ _) _)) h0 h1 H.out).mono ?_; rintro e w1 ⟨rfl, hg⟩; have HG := Lib.hid hg; clear hg)
  go_ret2
  exact ⟨rfl, gr_trans0 (gr_alloc (gr_refl _ _) _) HG.out⟩
end Go.Zig
