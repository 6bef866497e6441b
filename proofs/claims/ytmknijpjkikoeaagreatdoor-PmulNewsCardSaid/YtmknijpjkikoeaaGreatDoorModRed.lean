/- Package modw: what the callers use. -/
import Derived.Test.YtmknijpjkikoeaaGreatDoorModw
set_option linter.unusedVariables false
set_option linter.unusedSimpArgs false
namespace Go.Zig
open Go.RowKit Go.Proofs
section
variable {w : World} {b : Nat} {p neg one two : Int}
set_option maxHeartbeats 1000000 in
theorem mod_P (m : ModAt w b p neg one two) :
    Calls Tryz.prog 16 #[.pointer (some ⟨b, 0, none⟩)] w fun e w' => e = .returned (.int .u64 p) ∧ w = w' := by
  have c0 := m.c0
  go_enter Tryz.func16, Tryz.ntmps16
  go_wp2_with fail
  go_ret
  exact ⟨rfl, rfl⟩
set_option maxHeartbeats 1000000 in
theorem mod_Red (m : ModAt w b p neg one two) (hp : 1 ≤ p) (hp' : p ≤ 4611686018427387904) (x : Int) (hx : 0 ≤ x) (hx' : x ≤ 18446744073709551615) :
    Calls Tryz.prog 79 #[.pointer (some ⟨b, 0, none⟩), .int .u64 x] w fun e w' => e = .returned (.int .u64 (x % p)) ∧ ∃ n, w' = w.drewN n := by
  have c0 := m.c0
  have hx1 := Int.emod_nonneg x (show p ≠ 0 by omega)
  have hx2 := Int.emod_lt_of_pos x (show 0 < p by omega)
  go_enter Tryz.func79, Tryz.ntmps79
  go_wp2
  go_ret
  exact ⟨rfl, 0, rfl⟩
set_option maxHeartbeats 1000000 in
theorem mod_Add (m : ModAt w b p neg one two) (hp : 1 ≤ p) (hp' : p ≤ 4611686018427387904) (x y : Int) (hx : 0 ≤ x) (hx' : x ≤ 18446744073709551615) (hy : 0 ≤ y) (hy' : y ≤ 18446744073709551615) :
    Calls Tryz.prog 81 #[.pointer (some ⟨b, 0, none⟩), .int .u64 x, .int .u64 y] w fun e w' => e = .returned (.int .u64 (addm x y p)) ∧ ∃ n, w' = w.drewN n := by
  have c0 := m.c0
  have E : Hid (addm (x % p) (y % p) p = addm x y p) := by show (x % p + y % p) % p = (x + y) % p; rw [← Int.add_emod]
  have hx1 := Int.emod_nonneg x (show p ≠ 0 by omega)
  have hx2 := Int.emod_lt_of_pos x (show 0 < p by omega)
  have hy1 := Int.emod_nonneg y (show p ≠ 0 by omega)
  have hy2 := Int.emod_lt_of_pos y (show 0 < p by omega)
  go_enter Tryz.func81, Tryz.ntmps81
  go_wp2_with fail
  go_quiet ((go_at_call 109; exact Calls.quiet_of (mod_add (m.drewN _) hp (by omega) (x % p) (y % p) hx1 hx2 hy1 hy2)))
  go_wp2
  go_ret
  exact ⟨by rw [← E.out]; rfl, _, rfl⟩
set_option maxHeartbeats 1000000 in
theorem mod_Sub (m : ModAt w b p neg one two) (hp : 1 ≤ p) (hp' : p ≤ 4611686018427387904) (x y : Int) (hx : 0 ≤ x) (hx' : x ≤ 18446744073709551615) (hy : 0 ≤ y) (hy' : y ≤ 18446744073709551615) :
    Calls Tryz.prog 111 #[.pointer (some ⟨b, 0, none⟩), .int .u64 x, .int .u64 y] w fun e w' => e = .returned (.int .u64 (subm x y p)) ∧ ∃ n, w' = w.drewN n := by
  have c0 := m.c0
  have E : Hid (subm (x % p) (y % p) p = subm x y p) := by show (x % p - y % p) % p = (x - y) % p; rw [← Int.sub_emod]
  have hx1 := Int.emod_nonneg x (show p ≠ 0 by omega)
  have hx2 := Int.emod_lt_of_pos x (show 0 < p by omega)
  have hy1 := Int.emod_nonneg y (show p ≠ 0 by omega)
  have hy2 := Int.emod_lt_of_pos y (show 0 < p by omega)
  go_enter Tryz.func111, Tryz.ntmps111
  go_wp2_with fail
  go_quiet ((go_at_call 147; exact Calls.quiet_of (mod_sub (m.drewN _) hp (by omega) (x % p) (y % p) hx1 hx2 hy1 hy2)))
  go_wp2
  go_ret
  exact ⟨by rw [← E.out]; rfl, _, rfl⟩
end
end Go.Zig
