/- A list modulo p against the values of a polynomial. -/
import Derived.Test.YtmknijpjkikoeaaGreatDoorWrow
set_option linter.unusedVariables false
set_option linter.unusedSimpArgs false
namespace Go.Zig

def mono (k : Nat) (c : Int) : List Int := List.replicate k 0 ++ [c]
theorem ev_mono (k : Nat) (c x : Int) : ev (mono k c) x = x ^ k * c := by
  unfold mono; rw [ev_append, ev_zeros]; simp
theorem co_mono (k : Nat) (c : Int) (i : Nat) : co (mono k c) i = if i = k then c else 0 := by
  unfold mono co
  rw [List.getD_eq_getElem?_getD, List.getElem?_append]
  simp only [List.length_replicate, List.getElem?_replicate]
  by_cases h1 : i < k
  · simp [h1]; omega
  · simp only [h1, if_false]
    by_cases h2 : i = k
    · subst h2; simp
    · obtain ⟨d, hd⟩ : ∃ d, i - k = d + 1 := ⟨i - k - 1, by omega⟩
      simp [hd, h2]
/-- Modulo p the list has the values of f. -/
def CgE (p : Int) (a : List Int) (f : Int → Int) : Prop := ∃ h : List Int, ∀ x, ev a x = f x + p * ev h x
theorem CgE.cg {p : Int} {a b : List Int} (h : CgE p a (ev b)) : Cg p a b := h
theorem Cg.cge {p : Int} {a b : List Int} (h : Cg p a b) : CgE p a (ev b) := h
theorem CgE.congr {p : Int} {a : List Int} {f g : Int → Int} (h : CgE p a f) (e : ∀ x, f x = g x) : CgE p a g := by
  obtain ⟨k, hk⟩ := h; exact ⟨k, fun x => by rw [hk, e]⟩
theorem CgE.step {p : Int} {a b : List Int} {f : Int → Int} (h : Cg p a b) (h' : CgE p b f) : CgE p a f := by
  obtain ⟨k, hk⟩ := h; obtain ⟨l, hl⟩ := h'
  exact ⟨padd k l, fun x => by rw [ev_padd, hk, hl]; grind⟩
theorem CgE.set {p : Int} {ys : List Int} {f : Int → Int} (h : CgE p ys f) (k : Nat) (hk : k < ys.length) (v c : Int) (hv : p ∣ v - (wd ys k + c)) : CgE p (ys.set k v) (fun x => f x + x ^ k * c) := by
  have h1 : Cg p (ys.set k v) (padd ys (mono k c)) := Cg.of_co fun i => by
    rw [co_padd, co_mono, ← wd_co, ← wd_co, wd_set _ _ _ _ hk]
    by_cases e : k = i
    · subst e; rw [if_pos rfl, if_pos rfl]; exact hv
    · rw [if_neg e, if_neg (fun h => e h.symm)]; exact ⟨0, by omega⟩
  refine CgE.step h1 ?_
  obtain ⟨q, hq⟩ := h
  exact ⟨q, fun x => by rw [ev_padd, ev_mono, hq]; grind⟩
theorem CgE.zeros (p : Int) (n : Nat) : CgE p (List.replicate n 0) (fun _ => 0) := ⟨[], fun x => by rw [ev_zeros]; simp⟩
theorem ev_take_succ (a : List Int) (i : Nat) (x : Int) : ev (a.take (i + 1)) x = ev (a.take i) x + x ^ i * wd a i := by
  by_cases hi : i < a.length
  · rw [List.take_add_one, ev_append]
    have e : a[i]?.toList = [wd a i] := by unfold wd; rw [List.getD_eq_getElem?_getD, List.getElem?_eq_getElem hi]; rfl
    rw [e, List.length_take, Nat.min_eq_left (by omega)]; simp
  · rw [List.take_of_length_le (by omega), List.take_of_length_le (by omega), wd_ge _ _ (by omega)]; simp
theorem Res.wds {p : Int} (hp : p ≤ 18446744073709551615) {xs : List Int} (h : Res p xs) : Wds xs := fun x hx => by have := h x hx; omega
theorem Res.set {p : Int} {ys : List Int} (h : Res p ys) (i : Nat) (v : Int) (h0 : 0 ≤ v) (h1 : v < p) : Res p (ys.set i v) := fun x hx => by
  rcases List.mem_or_eq_of_mem_set hx with e | e
  · exact h x e
  · subst e; exact ⟨h0, h1⟩
theorem Res.zeros {p : Int} (hp : 0 < p) (n : Nat) : Res p (List.replicate n 0) := fun x hx => by rw [List.eq_of_mem_replicate hx]; omega
theorem Res.wd {p : Int} (hp : 0 < p) {a : List Int} (h : Res p a) (i : Nat) : 0 ≤ Go.Zig.wd a i ∧ Go.Zig.wd a i < p := h.co hp i
theorem Res.map_mod {p : Int} (hp : 0 < p) (a : List Int) : Res p (a.map (· % p)) := fun x hx => by
  obtain ⟨y, _, rfl⟩ := List.mem_map.1 hx
  exact ⟨Int.emod_nonneg _ (by omega), Int.emod_lt_of_pos _ hp⟩
theorem Res.trimz {p : Int} {a : List Int} (h : Res p a) : Nrm p (trimz a) := ⟨fun c hc => h c (trimz_mem a c hc), trimz_top a⟩
theorem Cg_trimz (p : Int) (a : List Int) : Cg p (trimz a) a := Cg.of_co fun i => by rw [trimz_co]; exact ⟨0, by omega⟩
/-- Residues without the noughts on top: the normal form of what they are congruent to. -/
theorem trimz_nrm {p : Int} (hp : 0 < p) {ys b : List Int} (h : Res p ys) (hc : CgE p ys (ev b)) : Go.Zig.trimz ys = nrm p b := nrm_eq_of hp h.trimz ((Cg_trimz p ys).trans hc)
theorem dvd_emod_sub (p x : Int) : p ∣ x % p - x := ⟨-(x / p), by have := Int.mul_ediv_add_emod x p; grind⟩
end Go.Zig
