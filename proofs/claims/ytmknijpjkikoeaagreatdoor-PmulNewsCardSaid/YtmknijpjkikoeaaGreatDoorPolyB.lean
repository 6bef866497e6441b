/- Polynomials with residues as coefficients: the normal form. -/
import Derived.Test.YtmknijpjkikoeaaGreatDoorPolyA
set_option linter.unusedVariables false
set_option linter.unusedSimpArgs false
namespace Go.Zig

/-- Without noughts on top. -/
def trimz : List Int → List Int
  | [] => []
  | c :: a => if trimz a = [] then (if c = 0 then [] else [c]) else c :: trimz a
/-- How many there are without noughts on top. -/
def lenz (a : List Int) : Nat := (trimz a).length
def nrm (p : Int) (a : List Int) : List Int := trimz (a.map (· % p))
def Top (a : List Int) : Prop := ∀ h : a ≠ [], a.getLast h ≠ 0
def Res (p : Int) (a : List Int) : Prop := ∀ c ∈ a, 0 ≤ c ∧ c < p
def Nrm (p : Int) (a : List Int) : Prop := Res p a ∧ Top a

theorem trimz_co (a : List Int) (i : Nat) : co (trimz a) i = co a i := by
  induction a generalizing i with
  | nil => rfl
  | cons c a ih =>
    unfold trimz
    by_cases h : trimz a = []
    · have ha : ∀ i, co a i = 0 := fun i => by rw [← ih, h]; exact co_nil i
      by_cases hc : c = 0
      · simp only [h, hc, if_true]
        cases i with
        | zero => rfl
        | succ i => rw [co_cons_succ, ha i, co_nil]
      · simp only [h, hc, if_true, if_false]
        cases i with
        | zero => rfl
        | succ i => rw [co_cons_succ, co_cons_succ, ha i, co_nil]
    · simp only [h, if_false]
      cases i with
      | zero => rfl
      | succ i => rw [co_cons_succ, co_cons_succ, ih]
theorem trimz_top (a : List Int) : Top (trimz a) := by
  induction a with
  | nil => intro h; exact absurd rfl h
  | cons c a ih =>
    unfold trimz
    by_cases h : trimz a = []
    · by_cases hc : c = 0
      · simp only [h, hc, if_true]; intro h; exact absurd rfl h
      · simp only [h, hc, if_true, if_false]; intro _; simpa using hc
    · simp only [h, if_false]
      intro _
      rw [List.getLast_cons h]; exact ih h
theorem trimz_take (a : List Int) : trimz a = a.take (lenz a) := by
  unfold lenz
  induction a with
  | nil => rfl
  | cons c a ih =>
    unfold trimz
    by_cases h : trimz a = []
    · by_cases hc : c = 0
      · simp [h, hc]
      · simp [h, hc]
    · simp only [h, if_false, List.length_cons, List.take_succ_cons]
      rw [← ih]
theorem lenz_le (a : List Int) : lenz a ≤ a.length := by
  have := congrArg List.length (trimz_take a)
  unfold lenz at *
  rw [List.length_take] at this
  omega
theorem trimz_mem (a : List Int) : ∀ c ∈ trimz a, c ∈ a := fun c hc => by rw [trimz_take] at hc; exact List.mem_of_mem_take hc
theorem trimz_of_top {a : List Int} (h : Top a) : trimz a = a := by
  induction a with
  | nil => rfl
  | cons c a ih =>
    unfold trimz
    by_cases ha : a = []
    · subst ha
      have : c ≠ 0 := h (by simp)
      simp [trimz, this]
    · have h2 : Top a := fun hn => by have := h (by simp); rwa [List.getLast_cons ha] at this
      rw [ih h2, if_neg ha]
theorem Top.ext {a b : List Int} (ha : Top a) (hb : Top b) (h : ∀ i, co a i = co b i) : a = b := by
  have key : ∀ {a b : List Int}, Top a → (∀ i, co a i = co b i) → a.length ≤ b.length := by
    intro a b ha h
    rcases Nat.lt_or_ge b.length a.length with hlt | hge
    · have hne : a ≠ [] := by intro e; subst e; simp at hlt
      have h1 := ha hne
      rw [List.getLast_eq_getElem] at h1
      have h2 := h (a.length - 1)
      rw [co_ge b _ (by omega)] at h2
      unfold co at h2
      rw [List.getD_eq_getElem?_getD, List.getElem?_eq_getElem (by omega)] at h2
      exact absurd h2 h1
    · exact hge
  have hl : a.length = b.length := Nat.le_antisymm (key ha h) (key hb fun i => (h i).symm)
  apply List.ext_getElem hl
  intro i h1 h2
  have := h i
  unfold co at this
  rw [List.getD_eq_getElem?_getD, List.getD_eq_getElem?_getD, List.getElem?_eq_getElem h1, List.getElem?_eq_getElem h2] at this
  exact this
theorem lenz_of (a : List Int) (k : Nat) (hk : k ≤ a.length) (h0 : ∀ j, k ≤ j → j < a.length → co a j = 0) (h1 : 0 < k → co a (k - 1) ≠ 0) : lenz a = k := by
  have ht : Top (a.take k) := by
    intro hne
    have hk0 : 0 < k := by
      rcases Nat.eq_zero_or_pos k with e | e
      · subst e; simp at hne
      · exact e
    rw [List.getLast_eq_getElem]
    have h2 := h1 hk0
    unfold co at h2
    rw [List.getD_eq_getElem?_getD, List.getElem?_eq_getElem (by omega)] at h2
    simp only [List.length_take, List.getElem_take, Nat.min_eq_left hk]
    exact h2
  have e : trimz a = a.take k := (trimz_top a).ext ht fun i => by
    rw [trimz_co]
    by_cases hi : i < k
    · unfold co; simp [List.getD_eq_getElem?_getD, List.getElem?_take, hi]
    · rw [co_ge (a.take k) i (by rw [List.length_take]; omega)]
      by_cases hi2 : i < a.length
      · exact h0 i (by omega) hi2
      · exact co_ge a i (by omega)
  unfold lenz; rw [e, List.length_take]; omega
theorem co_map_mod (a : List Int) (p : Int) (i : Nat) : co (a.map (· % p)) i = co a i % p := by
  unfold co
  rw [List.getD_eq_getElem?_getD, List.getD_eq_getElem?_getD, List.getElem?_map]
  cases a[i]? <;> simp
theorem nrm_co (p : Int) (a : List Int) (i : Nat) : co (nrm p a) i = co a i % p := by
  unfold nrm; rw [trimz_co, co_map_mod]
theorem Nrm_nrm {p : Int} (hp : 0 < p) (a : List Int) : Nrm p (nrm p a) := by
  refine ⟨fun c hc => ?_, trimz_top _⟩
  have := trimz_mem _ c hc
  obtain ⟨d, _, rfl⟩ := List.mem_map.1 this
  exact ⟨Int.emod_nonneg _ (by omega), Int.emod_lt_of_pos _ hp⟩
theorem nrm_length (p : Int) (a : List Int) : (nrm p a).length ≤ a.length := by
  have := lenz_le (a.map (· % p)); simpa [nrm, lenz] using this
theorem Cg_nrm (p : Int) (a : List Int) : Cg p (nrm p a) a := by
  refine Cg.of_co fun i => ?_
  rw [nrm_co]
  exact ⟨-(co a i / p), by have := Int.mul_ediv_add_emod (co a i) p; grind⟩
theorem Res.co {p : Int} (hp : 0 < p) {a : List Int} (h : Res p a) (i : Nat) : 0 ≤ Go.Zig.co a i ∧ Go.Zig.co a i < p := by
  unfold Go.Zig.co
  rw [List.getD_eq_getElem?_getD]
  by_cases hi : i < a.length
  · rw [List.getElem?_eq_getElem hi]; exact h _ (List.getElem_mem hi)
  · rw [List.getElem?_eq_none (by omega)]; exact ⟨by simp, hp⟩
theorem eq_of_dvd_sub {p a b : Int} (ha0 : 0 ≤ a) (ha : a < p) (hb0 : 0 ≤ b) (hb : b < p) (h : p ∣ a - b) : a = b := by
  obtain ⟨k, hk⟩ := h
  rcases Int.lt_trichotomy k 0 with h1 | h1 | h1
  · have : p * k ≤ p * (-1) := Int.mul_le_mul_of_nonneg_left (by omega) (by omega)
    omega
  · subst h1; omega
  · have : p * 1 ≤ p * k := Int.mul_le_mul_of_nonneg_left (by omega) (by omega)
    omega
/-- Normal polynomials that are congruent are the same. -/
theorem Nrm.eq {p : Int} (hp : 0 < p) {a b : List Int} (ha : Nrm p a) (hb : Nrm p b) (h : Cg p a b) : a = b := by
  refine ha.2.ext hb.2 fun i => ?_
  obtain ⟨a0, a1⟩ := ha.1.co hp i
  obtain ⟨b0, b1⟩ := hb.1.co hp i
  exact eq_of_dvd_sub a0 a1 b0 b1 (h.co i)
theorem nrm_congr {p : Int} (hp : 0 < p) {a b : List Int} (h : Cg p a b) : nrm p a = nrm p b :=
  Nrm.eq hp (Nrm_nrm hp a) (Nrm_nrm hp b) ((Cg_nrm p a).trans (h.trans (Cg_nrm p b).symm))
theorem Nrm.nrm_eq {p : Int} (hp : 0 < p) {a : List Int} (ha : Nrm p a) : nrm p a = a := Nrm.eq hp (Nrm_nrm hp a) ha (Cg_nrm p a)
theorem nrm_eq_of {p : Int} (hp : 0 < p) {a b : List Int} (ha : Nrm p a) (h : Cg p a b) : a = nrm p b := by rw [← ha.nrm_eq hp]; exact nrm_congr hp h
theorem Nrm.nil (p : Int) : Nrm p [] := ⟨by simp [Res], fun h => absurd rfl h⟩
theorem nrm_nrm {p : Int} (hp : 0 < p) (a : List Int) : nrm p (nrm p a) = nrm p a := (Nrm_nrm hp a).nrm_eq hp
end Go.Zig
