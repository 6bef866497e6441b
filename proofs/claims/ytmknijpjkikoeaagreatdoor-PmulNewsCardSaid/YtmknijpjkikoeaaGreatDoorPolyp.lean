/- Package polyp: normal forms, products by hand. -/
import Derived.Test.YtmknijpjkikoeaaGreatDoorWrow
import Derived.Test.YtmknijpjkikoeaaGreatDoorPmulNew
import Derived.Test.YtmknijpjkikoeaaGreatDoorQTail
import Derived.Deep.Light
import Derived.Test.YtmknijpjkikoeaaGreatDoorModRed
import Derived.Test.YtmknijpjkikoeaaGreatDoorPolyE
set_option linter.unusedVariables false
set_option linter.unusedSimpArgs false
namespace Go.Zig
open Go.RowKit Go.Proofs

/-- A ring of polynomials in memory. -/
structure RingAt (w : World) (r b : Nat) (p neg one two : Int) : Prop where
  cr : w.cell? ⟨r, 0, none⟩ = some (.pointer (some ⟨b, 0, none⟩))
  m : ModAt w b p neg one two
  k : ModOk p neg one two
theorem RingAt.keep {w w' : World} {r b : Nat} {p neg one two : Int} (h : RingAt w r b p neg one two) {row : Option Nat} (hg : w.grownBy w' row) (h1 : some r ≠ row) (h2 : some b ≠ row) : RingAt w' r b p neg one two :=
  ⟨hg.cell h.cr h1, h.m.keep hg h2, h.k⟩
theorem RingAt.grown {w w' : World} {r b : Nat} {p neg one two : Int} (h : RingAt w r b p neg one two) (hg : w.grownBy w' none) : RingAt w' r b p neg one two := h.keep hg (by simp) (by simp)
theorem RingAt.lt {w : World} {r b : Nat} {p neg one two : Int} (h : RingAt w r b p neg one two) : r < w.heap.size ∧ b < w.heap.size := ⟨World.block_lt_of_cell? w _ h.cr, World.block_lt_of_cell? w _ h.m.c0⟩

set_option maxHeartbeats 1000000 in
theorem poly_trim (A : Option Addr) (n c : Nat) (xs : List Int) (w : World) (h : Rd w A n c xs) :
    Calls Tryz.prog 80 #[.slice A n c] w fun e w' => e = .returned (.slice A (lenz xs) c) ∧ w = w' := by
  obtain ⟨h1, h2, h3, h4, h5⟩ := h
  have H4 := Lib.hid h4; clear h4
  have H1 := Lib.hid h1; clear h1
  go_enter Tryz.func80, Tryz.ntmps80
  go_wp2_with fail
  go_loopg [0] n (fun g a wr => w = wr ∧ ∃ m : Nat, m ≤ n ∧ g = m ∧ a = .slice A m c ∧ Hid (∀ j, m ≤ j → j < n → wd xs j = 0))
  case atStart => exact ⟨rfl, n, Nat.le_refl _, rfl, rfl, fun j _ _ => by omega⟩
  case round =>
    obtain ⟨rfl, m, hm, rfl, rfl, hz⟩ := hrel
    by_cases hm0 : 0 < gk
    · obtain ⟨b, o, rfl, hc⟩ := h5 (by omega)
      have hc1 := hc (gk - 1) (by omega)
      clear hc h5
      by_cases hx : wd xs (gk - 1) = 0
      · have hx2 : (wd xs (gk - 1) == 0) = true := by simp [hx]
        have HX := Lib.hid hx; clear hx
        go_wp2_with fail
        go_roundg (gk - 1)
        case measure => go_light; omega
        case rel => go_light; exact ⟨rfl, gk - 1, by omega, rfl, rfl, fun j h1 h2 => by
            by_cases e : j = gk - 1
            · rw [e]; exact HX.out
            · exact hz.out j (by omega) h2⟩
      · have hx2 : (wd xs (gk - 1) == 0) = false := by simpa using hx
        have HX := Lib.hid hx; clear hx
        go_wp2_with fail
        go_ret
        exact ⟨by rw [lenz_of xs gk (by rw [H1.out]; exact hm) (fun j h1 h2 => hz.out j h1 (by rw [H1.out] at h2; exact h2)) (fun _ => HX.out)]; rfl, rfl⟩
    · obtain rfl : gk = 0 := by omega
      go_wp2_with fail
      go_ret
      exact ⟨by rw [lenz_of xs 0 (by omega) (fun j h1 h2 => hz.out j h1 (by rw [H1.out] at h2; exact h2)) (fun h => absurd h (by omega))]; rfl, rfl⟩

theorem Wds.nrm {p : Int} (hp : 0 < p) (hp' : p ≤ 4611686018427387904) (xs : List Int) : Wds (nrm p xs) := fun x hx => by
  have := (Nrm_nrm hp xs).1 x hx; omega

section
variable {r b : Nat} {p neg one two : Int}
def NormPost (p : Int) (xs : List Int) (w : World) (e : Ending) (w' : World) : Prop := ∃ v, e = .returned v ∧ Own w w' v (nrm p xs) ∧ w.grownBy w' none

set_option maxHeartbeats 4000000 in
theorem poly_Norm (A : Option Addr) (n c : Nat) (xs : List Int) (w : World) (h : Rd w A n c xs) (rg : RingAt w r b p neg one two) :
    Calls Tryz.prog 54 #[.pointer (some ⟨r, 0, none⟩), .slice A n c] w (NormPost p xs w) := by
  have hn := h.big
  have hmk := make_u64 n hn
  have p1 := rg.k.lo; have p2 := rg.k.hi
  have HR := Lib.hid h; have RG := Lib.hid rg
  clear h rg
  go_enter Tryz.func54, Tryz.ntmps54
  go_wp2_with fail
  clear hmk
  have row0 := Lib.hid (Row.made w n)
  have hg0 := Lib.hid (gr_alloc (gr_refl w none) (.cells (madeCells #[.int .u64 0] n) 26))
  generalize w.alloc (.cells (madeCells #[.int .u64 0] n) 26) = W0 at *
  go_loopg [13] n (fun g s13 wr => ∃ (k : Nat) (ys : List Int), k ≤ n ∧ g = n - k ∧ s13 = .int .i64 k ∧ Hid (ys.length = n ∧ Row wr w.heap.size ys ∧ (∀ j, j < k → wd ys j = wd xs j % p) ∧ w.grownBy wr none))
  case atStart => exact ⟨0, _, Nat.zero_le _, rfl, rfl, by simp, row0.out, fun j hj => by omega, hg0.out⟩
  case round =>
    obtain ⟨k, ys, hk, rfl, rfl, hI⟩ := hrel
    obtain ⟨hl, hrow, hdone, hgr⟩ := hI.out
    have HL := Lib.hid hl; have HROW := Lib.hid hrow; have HD := Lib.hid hdone; have HG := Lib.hid hgr
    clear hl hrow hdone hgr hI
    have rg := RG.out.grown HG.out
    have cr := rg.cr; have c0 := rg.m.c0
    have rd := HR.out.grown HG.out
    clear rg
    by_cases hkn : k < n
    · obtain ⟨b', o, e, hc⟩ := rd.cells (by omega)
      subst e
      have hc1 := hc k hkn
      obtain ⟨x0, x1⟩ := rd.small.wd k
      clear hc rd
      have hy := HROW.out.cell k (by rw [HL.out]; exact hkn)
      have hf := HROW.out.frozen k
      have hkz : (k : Int) < n := by omega
      go_wp2_with (go_at_call 79; refine (mod_Red (RG.out.grown HG.out).m (by omega) (by omega) (wd xs k) x0 x1).mono ?_; rintro e w' ⟨rfl, nq, rfl⟩)
      go_roundg (n - (k + 1))
      case measure => go_light; omega
      case rel =>
        go_light
        refine ⟨k + 1, ys.set k (wd xs k % p), by omega, rfl, by go_num, ?_⟩
        refine ⟨by rw [List.length_set, HL.out], HROW.out.set k _, fun j hj => ?_, gr_set (gr_drewN HG.out nq) (p := ⟨w.heap.size, k, none⟩) (Nat.le_refl _) _⟩
        rw [wd_set _ _ _ _ (by rw [HL.out]; exact hkn)]
        by_cases e : k = j
        · rw [if_pos e, e]
        · rw [if_neg e]; exact HD.out j (by omega)
    · obtain rfl : k = n := by omega
      have hys : ys = xs.map (· % p) := by
        refine list_ext (by rw [List.length_map, HL.out, rd.len]) (fun j hj => ?_)
        rw [wd_map_mod]; exact HD.out j (by rw [HL.out] at hj; exact hj)
      have hw : Wds ys := by
        intro x hx
        rw [hys] at hx
        obtain ⟨y, _, rfl⟩ := List.mem_map.1 hx
        have := Int.emod_nonneg y (show p ≠ 0 by omega)
        have := Int.emod_lt_of_pos y (show 0 < p by omega)
        omega
      have hrd := HROW.out.rd hw (by rw [HL.out]; exact hn)
      rw [HL.out] at hrd
      have HYS := Lib.hid hys; have HW := Lib.hid hw
      clear hys hw rd
      go_wp2_with (go_at_call 80; refine (poly_trim _ _ _ ys _ hrd).mono ?_; rintro e w' ⟨rfl, rfl⟩)
      go_ret
      refine ⟨_, rfl, ?_, HG.out⟩
      have h1 := HROW.out.ownAll (w := w) (Nat.le_refl _) HW.out (by rw [HL.out]; exact hn) (lenz ys) (lenz_le ys)
      rw [← trimz_take, HL.out] at h1
      have e2 : nrm p xs = trimz ys := by unfold nrm; rw [HYS.out]
      rw [e2]; exact h1
end
end Go.Zig
