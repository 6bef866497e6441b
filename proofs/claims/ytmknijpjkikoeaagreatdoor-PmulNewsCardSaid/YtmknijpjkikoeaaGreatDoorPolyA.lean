/- Integer polynomials as lists, by their values: equal values, equal coefficients; sums, products, remainders as lists. -/
set_option linter.unusedVariables false
set_option linter.unusedSimpArgs false
namespace Go.Zig

/-- The value of a polynomial (lowest coefficient first). -/
def ev : List Int → Int → Int
  | [], _ => 0
  | c :: l, x => c + x * ev l x

@[simp] theorem ev_nil (x : Int) : ev [] x = 0 := rfl
@[simp] theorem ev_cons (c : Int) (l : List Int) (x : Int) : ev (c :: l) x = c + x * ev l x := rfl

theorem ev_append (a b : List Int) (x : Int) : ev (a ++ b) x = ev a x + x ^ a.length * ev b x := by
  induction a with
  | nil => simp
  | cons c a ih => simp only [List.cons_append, ev_cons, ih, List.length_cons, Int.pow_succ]; grind

theorem ev_zeros (n : Nat) (x : Int) : ev (List.replicate n 0) x = 0 := by
  induction n with
  | zero => rfl
  | succ n ih => simp [List.replicate_succ, ih]

def padd : List Int → List Int → List Int
  | [], b => b
  | a, [] => a
  | c :: a, d :: b => (c + d) :: padd a b
def pscale (k : Int) (a : List Int) : List Int := a.map (k * ·)
def pmul : List Int → List Int → List Int
  | [], _ => []
  | c :: a, b => padd (pscale c b) (0 :: pmul a b)

theorem ev_padd (a b : List Int) (x : Int) : ev (padd a b) x = ev a x + ev b x := by
  induction a generalizing b with
  | nil => simp [padd]
  | cons c a ih =>
    cases b with
    | nil => simp [padd]
    | cons d b => simp only [padd, ev_cons, ih]; grind
theorem ev_pscale (k : Int) (a : List Int) (x : Int) : ev (pscale k a) x = k * ev a x := by
  induction a with
  | nil => simp [pscale]
  | cons c a ih => simp only [pscale, List.map_cons, ev_cons] at *; rw [ih]; grind
theorem ev_pmul (a b : List Int) (x : Int) : ev (pmul a b) x = ev a x * ev b x := by
  induction a with
  | nil => simp [pmul]
  | cons c a ih => simp only [pmul, ev_padd, ev_pscale, ev_cons, ih]; grind
theorem length_padd (a b : List Int) : (padd a b).length = max a.length b.length := by
  induction a generalizing b with
  | nil => simp [padd]
  | cons c a ih => cases b with
    | nil => simp [padd]
    | cons d b => simp only [padd, List.length_cons, ih]; omega
theorem length_pscale (k : Int) (a : List Int) : (pscale k a).length = a.length := by simp [pscale]
theorem length_pmul (a b : List Int) (ha : a ≠ []) (hb : b ≠ []) : (pmul a b).length = a.length + b.length - 1 := by
  induction a with
  | nil => exact absurd rfl ha
  | cons c a ih =>
    have hbl : 0 < b.length := List.length_pos_iff.2 hb
    by_cases h : a = []
    · subst h; simp [pmul, length_padd, length_pscale]; omega
    · have := ih h
      have hal : 0 < a.length := List.length_pos_iff.2 h
      simp only [pmul, length_padd, length_pscale, List.length_cons, this]; omega
theorem length_pmul_le (a b : List Int) : (pmul a b).length ≤ a.length + b.length := by
  induction a with
  | nil => simp [pmul]
  | cons c a ih => simp only [pmul, length_padd, length_pscale, List.length_cons]; omega

/-- A polynomial whose values are all 0 has no coefficient but 0. -/
theorem zero_of_ev (l : List Int) (h : ∀ x, ev l x = 0) : ∀ c ∈ l, c = 0 := by
  induction l with
  | nil => simp
  | cons c l ih =>
    have h0 : c = 0 := by have := h 0; simpa using this
    subst h0
    have h1 : ∀ x, x ≠ 0 → ev l x = 0 := fun x hx => by
      have := h x; simp only [ev_cons, Int.zero_add] at this
      rcases Int.mul_eq_zero.1 this with e | e
      · exact absurd e hx
      · exact e
    have h2 : ev l 0 = 0 := by
      cases l with
      | nil => rfl
      | cons d l =>
        -- d is a multiple of every number
        have hd : ∀ x, x ≠ 0 → x ∣ d := fun x hx => ⟨- ev l x, by have := h1 x hx; simp only [ev_cons] at this; grind⟩
        have hd0 : d = 0 := by
          have h3 := Int.natAbs_dvd_natAbs.2 (hd ((d.natAbs : Int) + 1) (by omega))
          rcases Nat.eq_zero_or_pos d.natAbs with e | e
          · omega
          · have := Nat.le_of_dvd e h3
            omega
        simp [hd0]
    exact fun e he => by
      rcases List.mem_cons.1 he with e1 | e1
      · exact e1
      · exact ih (fun x => if hx : x = 0 then by subst hx; exact h2 else h1 x hx) e e1

/-! ### Congruence of coefficients -/
def co (a : List Int) (i : Nat) : Int := a.getD i 0
theorem co_nil (i : Nat) : co [] i = 0 := by simp [co]
theorem co_cons_zero (c : Int) (l : List Int) : co (c :: l) 0 = c := by simp [co]
theorem co_cons_succ (c : Int) (l : List Int) (i : Nat) : co (c :: l) (i + 1) = co l i := by simp [co]
theorem co_padd (a b : List Int) (i : Nat) : co (padd a b) i = co a i + co b i := by
  induction a generalizing b i with
  | nil => simp [padd, co_nil]
  | cons c a ih => cases b with
    | nil => simp [padd, co_nil]
    | cons d b => cases i with
      | zero => simp [padd, co_cons_zero]
      | succ i => simp only [padd, co_cons_succ, ih]
theorem co_pscale (k : Int) (a : List Int) (i : Nat) : co (pscale k a) i = k * co a i := by
  induction a generalizing i with
  | nil => simp [pscale, co_nil]
  | cons c a ih => cases i with
    | zero => simp [pscale, co_cons_zero]
    | succ i => simp only [pscale, List.map_cons, co_cons_succ] at *; exact ih i
theorem co_of_zeros (l : List Int) (h : ∀ c ∈ l, c = 0) (i : Nat) : co l i = 0 := by
  unfold co
  rw [List.getD_eq_getElem?_getD]
  by_cases hi : i < l.length
  · rw [List.getElem?_eq_getElem hi]; exact h _ (List.getElem_mem hi)
  · rw [List.getElem?_eq_none (by omega)]; rfl
theorem co_ge (a : List Int) (i : Nat) (h : a.length ≤ i) : co a i = 0 := by
  unfold co; rw [List.getD_eq_getElem?_getD, List.getElem?_eq_none h]; rfl

/-- Modulo p the same coefficients. -/
def Cg (p : Int) (a b : List Int) : Prop := ∃ h : List Int, ∀ x, ev a x = ev b x + p * ev h x

theorem co_of_ev {a b : List Int} (h : ∀ x, ev a x = ev b x) (i : Nat) : co a i = co b i := by
  have := co_of_zeros (padd a (pscale (-1) b)) (zero_of_ev _ fun x => by rw [ev_padd, ev_pscale, h]; omega) i
  rw [co_padd, co_pscale] at this; omega
theorem Cg.co {p : Int} {a b : List Int} (h : Cg p a b) (i : Nat) : p ∣ Go.Zig.co a i - Go.Zig.co b i := by
  obtain ⟨k, hk⟩ := h
  have := co_of_ev (a := a) (b := padd b (pscale p k)) (fun x => by rw [ev_padd, ev_pscale]; exact hk x) i
  rw [co_padd, co_pscale] at this
  exact ⟨Go.Zig.co k i, by omega⟩
theorem Cg.of_co {p : Int} {a b : List Int} (h : ∀ i, p ∣ Go.Zig.co a i - Go.Zig.co b i) : Cg p a b := by
  induction a generalizing b with
  | nil =>
    induction b with
    | nil => exact ⟨[], by simp⟩
    | cons d b ih =>
      obtain ⟨q, hq⟩ := h 0
      obtain ⟨k, hk⟩ := ih (fun i => by have := h (i + 1); simpa [co_cons_succ, co_nil] using this)
      refine ⟨q :: k, fun x => ?_⟩
      have := hk x
      simp only [ev_nil, ev_cons, co_nil, co_cons_zero] at *
      grind
  | cons c a ih =>
    cases b with
    | nil =>
      obtain ⟨q, hq⟩ := h 0
      obtain ⟨k, hk⟩ := ih (b := []) (fun i => by have := h (i + 1); simpa [co_cons_succ, co_nil] using this)
      refine ⟨q :: k, fun x => ?_⟩
      have := hk x
      simp only [ev_nil, ev_cons, co_nil, co_cons_zero] at *
      grind
    | cons d b =>
      obtain ⟨q, hq⟩ := h 0
      obtain ⟨k, hk⟩ := ih (b := b) (fun i => by have := h (i + 1); simpa [co_cons_succ] using this)
      refine ⟨q :: k, fun x => ?_⟩
      have := hk x
      simp only [ev_cons, co_cons_zero] at *
      grind
theorem Cg.refl {p : Int} (a : List Int) : Cg p a a := ⟨[], by simp⟩
theorem Cg.of_ev {p : Int} {a b : List Int} (h : ∀ x, ev a x = ev b x) : Cg p a b := ⟨[], by simp [h]⟩
theorem Cg.symm {p : Int} {a b : List Int} (h : Cg p a b) : Cg p b a := by
  obtain ⟨k, hk⟩ := h
  exact ⟨pscale (-1) k, fun x => by rw [ev_pscale, hk]; grind⟩
theorem Cg.trans {p : Int} {a b c : List Int} (h : Cg p a b) (h' : Cg p b c) : Cg p a c := by
  obtain ⟨k, hk⟩ := h; obtain ⟨l, hl⟩ := h'
  exact ⟨padd k l, fun x => by rw [ev_padd, hk, hl]; grind⟩
theorem Cg.add {p : Int} {a b c d : List Int} (h : Cg p a b) (h' : Cg p c d) : Cg p (padd a c) (padd b d) := by
  obtain ⟨k, hk⟩ := h; obtain ⟨l, hl⟩ := h'
  exact ⟨padd k l, fun x => by simp only [ev_padd, hk, hl]; grind⟩
theorem Cg.mul {p : Int} {a b c d : List Int} (h : Cg p a b) (h' : Cg p c d) : Cg p (pmul a c) (pmul b d) := by
  obtain ⟨k, hk⟩ := h; obtain ⟨l, hl⟩ := h'
  exact ⟨padd (padd (pmul b l) (pmul k d)) (pscale p (pmul k l)), fun x => by simp only [ev_padd, ev_pmul, ev_pscale, hk, hl]; grind⟩
theorem Cg.scale {p : Int} {a b : List Int} (c : Int) (h : Cg p a b) : Cg p (pscale c a) (pscale c b) := by
  obtain ⟨k, hk⟩ := h
  exact ⟨pscale c k, fun x => by simp only [ev_pscale, hk]; grind⟩
theorem Cg.scale_mod {p c d : Int} (a : List Int) (h : p ∣ c - d) : Cg p (pscale c a) (pscale d a) := by
  obtain ⟨k, hk⟩ := h
  exact ⟨pscale k a, fun x => by simp only [ev_pscale]; grind⟩
end Go.Zig
