/- modw.New: an odd modulus. -/
import Derived.Test.YtmknijpjkikoeaaGreatDoorModw2
set_option linter.unusedVariables false
set_option linter.unusedSimpArgs false
namespace Go.Zig
open Go.RowKit Go.Proofs

/-- Newton's step for an inverse modulo 2^64. -/
def newt (p x : Int) : Int := IntKind.u64.wrap (x * IntKind.u64.wrap (2 - IntKind.u64.wrap (p * x)))
theorem newt_word (p x : Int) : 0 ≤ newt p x ∧ newt p x ≤ 18446744073709551615 := by unfold newt; rw [IntKind.wrap_u64]; omega
theorem newt_step (p x e : Int) (h : (18446744073709551616 : Int) ∣ (1 - p * x) - e) : (18446744073709551616 : Int) ∣ (1 - p * newt p x) - e * e := by
  unfold newt
  simp only [IntKind.wrap_u64]
  obtain ⟨k, hk⟩ := h
  have e1 := Int.mul_ediv_add_emod (p * x) 18446744073709551616
  have e2 := Int.mul_ediv_add_emod (2 - p * x % 18446744073709551616) 18446744073709551616
  have e3 := Int.mul_ediv_add_emod (x * ((2 - p * x % 18446744073709551616) % 18446744073709551616)) 18446744073709551616
  generalize p * x % 18446744073709551616 = r1 at *
  generalize p * x / 18446744073709551616 = q1 at *
  generalize (2 - r1) % 18446744073709551616 = r2 at *
  generalize (2 - r1) / 18446744073709551616 = q2 at *
  generalize x * r2 % 18446744073709551616 = r3 at *
  generalize x * r2 / 18446744073709551616 = q3 at *
  -- r3 = x r2 - B q3, r2 = 2 - r1 - B q2, r1 = p x - B q1
  have f1 : r1 = p * x - 18446744073709551616 * q1 := by omega
  have f2 : r2 = 2 - p * x + 18446744073709551616 * (q1 - q2) := by omega
  have f3 : r3 = x * r2 - 18446744073709551616 * q3 := by omega
  have f4 : p * x = 1 - e - 18446744073709551616 * k := by omega
  refine ⟨e * k + e * k + 18446744073709551616 * k * k - p * x * (q1 - q2) + p * q3, ?_⟩
  rw [f3, f2]
  grind
theorem newt6 (p : Int) (hodd : p % 2 = 1) : (18446744073709551616 : Int) ∣ 1 - p * newt p (newt p (newt p (newt p (newt p (newt p p))))) := by
  have h0 : (18446744073709551616 : Int) ∣ (1 - p * p) - (1 - p * p) := by simp
  have h := newt_step p _ _ (newt_step p _ _ (newt_step p _ _ (newt_step p _ _ (newt_step p _ _ (newt_step p _ _ h0)))))
  obtain ⟨m, hm⟩ : ∃ m, 1 - p * p = 8 * m := by
    obtain ⟨t, ht⟩ : ∃ t, p = 2 * t + 1 := ⟨p / 2, by omega⟩
    obtain ⟨s, hs⟩ : ∃ s, t * (t + 1) = 2 * s := by
      rcases Int.emod_two_eq t with h | h
      · obtain ⟨u, hu⟩ : ∃ u, t = 2 * u := ⟨t / 2, by omega⟩
        exact ⟨u * (t + 1), by rw [hu]; grind⟩
      · obtain ⟨u, hu⟩ : ∃ u, t + 1 = 2 * u := ⟨(t + 1) / 2, by omega⟩
        exact ⟨t * u, by rw [hu]; grind⟩
    exact ⟨-s, by subst ht; grind⟩
  rw [hm] at h
  obtain ⟨k, hk⟩ := h
  generalize newt p (newt p (newt p (newt p (newt p (newt p p))))) = x at *
  refine ⟨k + 340282366920938463463374607431768211456 * (m ^ 64), ?_⟩
  have e : ∀ y : Int, y * y = y ^ 2 := fun y => by grind
  have e64 : 8 * m * (8 * m) * (8 * m * (8 * m)) * (8 * m * (8 * m) * (8 * m * (8 * m))) * (8 * m * (8 * m) * (8 * m * (8 * m)) * (8 * m * (8 * m) * (8 * m * (8 * m)))) = 281474976710656 * m ^ 16 := by grind
  rw [e64] at hk
  have e128 : 281474976710656 * m ^ 16 * (281474976710656 * m ^ 16) * (281474976710656 * m ^ 16 * (281474976710656 * m ^ 16)) = 6277101735386680763835789423207666416102355444464034512896 * m ^ 64 := by
    have h1 : m ^ 64 = m ^ 16 * m ^ 16 * (m ^ 16 * m ^ 16) := by rw [← Int.pow_add, ← Int.pow_add]
    rw [h1]; grind
  rw [e128] at hk
  omega

def newtN (p : Int) : Nat → Int
  | 0 => p
  | k + 1 => newt p (newtN p k)

set_option maxHeartbeats 4000000 in
theorem mod_New_no (p : Int) (w : World) (h0 : 0 ≤ p) (h1 : p ≤ 18446744073709551615) (h : p < 3 ∨ p % 2 = 0 ∨ 4611686018427387904 ≤ p) :
    Calls Tryz.prog 106 #[.int .u64 p] w fun e w' => e = .returned (.tuple #[.pointer none, .int .i64 3]) ∧ w = w' := by
  by_cases c1 : p < 3
  · go_enter Tryz.func106, Tryz.ntmps106
    go_wp2_with fail
    go_ret2
    exact ⟨rfl, rfl⟩
  by_cases c2 : p % 2 = 0
  · have c2b : (p % 2 == 0) = true := by simp [c2]
    have C := Lib.hid c2; clear c2 h
    go_enter Tryz.func106, Tryz.ntmps106
    go_wp2_with fail
    go_ret2
    exact ⟨rfl, rfl⟩
  · have c2b : (p % 2 == 0) = false := by simp; omega
    have c3 : 4611686018427387904 ≤ p := by omega
    clear h c2
    go_enter Tryz.func106, Tryz.ntmps106
    go_wp2_with fail
    go_ret2
    exact ⟨rfl, rfl⟩

set_option maxHeartbeats 4000000 in
theorem mod_New_ok (p : Int) (w : World) (h0 : 3 ≤ p) (h1 : p ≤ 4611686018427387903) (h : p % 2 = 1) :
    Calls Tryz.prog 106 #[.int .u64 p] w fun e w' => ∃ b neg one two, e = .returned (.tuple #[.pointer (some ⟨b, 0, none⟩), .int .i64 0]) ∧ w.heap.size ≤ b ∧ ModAt w' b p neg one two ∧ ModOk p neg one two ∧ w.grownBy w' none := by
  have c2b : (p % 2 == 0) = false := by simp; omega
  have N6 : Hid ((18446744073709551616 : Int) ∣ 1 - p * newtN p 6) := newt6 p h
  have N7 := Lib.hid (newt_word p (newtN p 5))
  have C := Lib.hid h; clear h
  go_enter Tryz.func106, Tryz.ntmps106
  go_wp2_with fail
  go_loop [4, 18] (fun a i => ∃ k : Nat, k ≤ 6 ∧ i = .int .i64 k ∧ a = .int .u64 (newtN p k)) (fun _ i => 6 - (intOf i).toNat)
  case atStart => exact ⟨0, by omega, rfl, rfl⟩
  case round =>
    obtain ⟨k, hk, rfl, rfl⟩ := hrel
    by_cases hk6 : k < 6
    · go_wp2
      go_round
      case rel => exact ⟨k + 1, by omega, by go_num, rfl⟩
      case measure => simp [intOf]; omega
    · obtain rfl : k = 6 := by omega
      generalize newtN p 6 = inv at *
      go_upto_region 10 with (first | (go_at_call 121; refine (div64 _ _ _ (by omega) (by omega) (by omega) (by omega) (by omega) _).mono ?_; rintro e w' ⟨rfl, nq, rfl⟩))
      have bk := ((Blk.new w 97 #[Value.int IntKind.u64 p, Value.int IntKind.u64 (IntKind.u64.wrap (-inv)), Value.int IntKind.u64 0, Value.int IntKind.u64 0]).drewN nq).set_ 2 (Value.int IntKind.u64 (divR 1 0 p))
      have hg : w.grownBy (((w.alloc (Obj.cells #[Value.int IntKind.u64 p, Value.int IntKind.u64 (IntKind.u64.wrap (-inv)), Value.int IntKind.u64 0, Value.int IntKind.u64 0] 97)).drewN nq).setCell ⟨w.heap.size, 2, none⟩ (Value.int IntKind.u64 (divR 1 0 p))) none :=
        gr_set (gr_drewN (gr_alloc (gr_refl _ _) _) _) (Nat.le_refl _) _
      generalize ((w.alloc (Obj.cells #[Value.int IntKind.u64 p, Value.int IntKind.u64 (IntKind.u64.wrap (-inv)), Value.int IntKind.u64 0, Value.int IntKind.u64 0] 97)).drewN nq).setCell ⟨w.heap.size, 2, none⟩ (Value.int IntKind.u64 (divR 1 0 p)) = W at *
      have one0 : 0 ≤ divR 1 0 p ∧ divR 1 0 p < p := divR_lt 1 0 p (by omega)
      obtain ⟨one1, one2⟩ := one0
      generalize hone : divR 1 0 p = one at *
      generalize hneg : IntKind.u64.wrap (-inv) = neg at *
      simp only [List.setIfInBounds_toArray, List.set_cons_succ, List.set_cons_zero] at bk
      have c0 := bk.cell 0; have c1 := bk.cell 1; have c2 := bk.cell 2; have c3 := bk.cell 3
      have fz := bk.frozen 3
      simp at c0 c1 c2 c3
      have BK := Lib.hid bk; clear bk
      have HO := Lib.hid hone; have HN := Lib.hid hneg
      clear hone hneg
      generalize hB : w.heap.size = B at *
      go_region_held3 (fun V => V.cell? ⟨B, 0, none⟩ = some (.int .u64 p) ∧ V.cell? ⟨B, 1, none⟩ = some (.int .u64 neg) ∧ V.cell? ⟨B, 2, none⟩ = some (.int .u64 one) ∧ V.frozen? ⟨B, 3, none⟩ = false) (simp [go_sem, c0, c1, c2, c3, fz])
        ((go_at_call 110; refine (mod_mul (neg := neg) (one := one) (two := 0) (show ModAt W.drew B p neg one 0 from ⟨c0, c1, c2, c3⟩) (by omega) (by omega) _ _ one1 one2 one1 one2).mono ?_; rintro e w' ⟨rfl, nq, rfl⟩))
      go_wp2
      go_ret2
      have BK2 := (BK.out.drewN (1 + nq)).set_ 3 (Value.int .u64 (mulm one one p))
      simp only [List.setIfInBounds_toArray, List.set_cons_succ, List.set_cons_zero] at BK2
      refine ⟨B, neg, one, mulm one one p, rfl, by omega, ⟨?_, ?_, ?_, ?_⟩, ⟨h0, h1, ?_, ?_, ?_, ?_, rfl⟩, ?_⟩
      · exact (BK2.cell 0)
      · exact (BK2.cell 1)
      · exact (BK2.cell 2)
      · exact (BK2.cell 3)
      · rw [← HN.out, IntKind.wrap_u64]; omega
      · rw [← HN.out, IntKind.wrap_u64]; omega
      · have h6 := N6.out
        obtain ⟨k, hk⟩ := h6
        have e1 := Int.mul_ediv_add_emod (-inv) 18446744073709551616
        have e2 : neg = -inv - 18446744073709551616 * ((-inv) / 18446744073709551616) := by rw [← HN.out, IntKind.wrap_u64]; omega
        rw [e2]
        refine Int.emod_eq_zero_of_dvd ⟨k - p * ((-inv) / 18446744073709551616), by grind⟩
      · rw [← HO.out]; unfold divR; rfl
      · exact gr_set (gr_drewN hg _) (by simp; omega) _
end Go.Zig
