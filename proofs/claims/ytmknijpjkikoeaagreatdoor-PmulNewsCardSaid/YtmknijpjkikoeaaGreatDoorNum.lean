/- Primes: Fermat's little theorem, Pocklington's test. -/
set_option linter.unusedVariables false
namespace Go.Zig

def Pr (p : Nat) : Prop := 1 < p ∧ ∀ d, d ∣ p → d = 1 ∨ d = p

theorem Pr.coprime {p a : Nat} (hp : Pr p) (h : ¬ p ∣ a) : Nat.Coprime p a := by
  rcases hp.2 _ (Nat.gcd_dvd_left p a) with e | e
  · exact e
  · exact absurd (e ▸ Nat.gcd_dvd_right p a) h
theorem Pr.dvd_mul {p a b : Nat} (hp : Pr p) (h : p ∣ a * b) : p ∣ a ∨ p ∣ b := by
  by_cases ha : p ∣ a
  · exact .inl ha
  · exact .inr ((hp.coprime ha).dvd_of_dvd_mul_left h)
/-- Every number above 1 has a prime factor; of a number that is no prime, one whose square is not above it. -/
theorem exists_prime_factor : ∀ n : Nat, 1 < n → ∃ q, Pr q ∧ q ∣ n := by
  intro n
  induction n using Nat.strongRecOn with
  | _ n ih =>
    intro hn
    by_cases h : ∀ d, d ∣ n → d = 1 ∨ d = n
    · exact ⟨n, ⟨hn, h⟩, Nat.dvd_refl n⟩
    · obtain ⟨d, hd⟩ := Classical.not_forall.1 h
      obtain ⟨hdn, hne⟩ := Classical.not_imp.1 hd
      have hd0 : 0 < d := Nat.pos_of_dvd_of_pos hdn (by omega)
      have hle := Nat.le_of_dvd (by omega) hdn
      obtain ⟨q, hq, hqd⟩ := ih d (by omega) (by omega)
      exact ⟨q, hq, Nat.dvd_trans hqd hdn⟩
theorem exists_small_factor {n : Nat} (hn : 1 < n) (h : ¬ Pr n) : ∃ q, Pr q ∧ q ∣ n ∧ q * q ≤ n := by
  have : ∃ d, d ∣ n ∧ d ≠ 1 ∧ d ≠ n := by
    apply Classical.byContradiction
    intro hc
    apply h
    refine ⟨hn, fun d hd => ?_⟩
    by_cases h1 : d = 1
    · exact .inl h1
    · by_cases h2 : d = n
      · exact .inr h2
      · exact absurd ⟨d, hd, h1, h2⟩ hc
  obtain ⟨d, ⟨e, he⟩, h1, h2⟩ := this
  have hd0 : d ≠ 0 := by rintro rfl; simp at he; omega
  have he0 : e ≠ 0 := by rintro rfl; simp at he; omega
  have he1 : e ≠ 1 := by rintro rfl; simp at he; omega
  rcases Nat.le_total d e with hde | hde
  · obtain ⟨q, hq, hqd⟩ := exists_prime_factor d (by omega)
    have hle := Nat.le_of_dvd (by omega) hqd
    exact ⟨q, hq, Nat.dvd_trans hqd ⟨e, he⟩, by rw [he]; exact Nat.mul_le_mul hle (Nat.le_trans hle hde)⟩
  · obtain ⟨q, hq, hqe⟩ := exists_prime_factor e (by omega)
    have hle := Nat.le_of_dvd (by omega) hqe
    exact ⟨q, hq, Nat.dvd_trans hqe ⟨d, by rw [he, Nat.mul_comm]⟩, by rw [he]; exact Nat.mul_le_mul (Nat.le_trans hle hde) hle⟩

/-! ### Fermat -/
theorem length_le_of_nodup : ∀ (n : Nat) (l : List Nat), l.Nodup → (∀ x ∈ l, 1 ≤ x ∧ x ≤ n) → l.length ≤ n := by
  intro n
  induction n with
  | zero =>
    intro l _ h
    cases l with
    | nil => simp
    | cons x l => have := h x (by simp); omega
  | succ n ih =>
    intro l hnd h
    by_cases hm : (n + 1) ∈ l
    · have h1 := ih (l.erase (n + 1)) (hnd.erase _) (fun x hx => by
        have := (hnd.mem_erase_iff).1 hx
        have := h x this.2; omega)
      rw [List.length_erase_of_mem hm] at h1
      omega
    · have := ih l hnd (fun x hx => by
        have := h x hx
        have : x ≠ n + 1 := fun e => hm (e ▸ hx)
        omega)
      omega
def fact : Nat → Nat
  | 0 => 1
  | n + 1 => (n + 1) * fact n
def prodl : List Nat → Nat
  | [] => 1
  | x :: l => x * prodl l
theorem prodl_erase (l : List Nat) (x : Nat) (h : x ∈ l) : prodl l = x * prodl (l.erase x) := by
  induction l with
  | nil => simp at h
  | cons y l ih =>
    by_cases e : y = x
    · subst e; simp [prodl]
    · have hx : x ∈ l := by rcases List.mem_cons.1 h with h | h; exact absurd h.symm e; exact h
      rw [List.erase_cons_tail (by simpa using e)]
      simp only [prodl, ih hx]
      rw [Nat.mul_left_comm]
theorem prodl_of_nodup : ∀ (n : Nat) (l : List Nat), l.Nodup → l.length = n → (∀ x ∈ l, 1 ≤ x ∧ x ≤ n) → prodl l = fact n := by
  intro n
  induction n with
  | zero => intro l _ hl _; have := List.eq_nil_of_length_eq_zero hl; subst this; rfl
  | succ n ih =>
    intro l hnd hl h
    have hm : (n + 1) ∈ l := by
      apply Classical.byContradiction
      intro hm
      have := length_le_of_nodup n l hnd (fun x hx => by
        have := h x hx
        have : x ≠ n + 1 := fun e => hm (e ▸ hx)
        omega)
      omega
    rw [prodl_erase l _ hm, ih (l.erase (n + 1)) (hnd.erase _) (by rw [List.length_erase_of_mem hm]; omega) (fun x hx => by
        have := (hnd.mem_erase_iff).1 hx
        have := h x this.2; omega)]
    rfl
theorem prodl_map_mul (l : List Nat) (a p : Nat) : prodl (l.map (fun x => a * x % p)) % p = a ^ l.length * prodl l % p := by
  induction l with
  | nil => simp [prodl]
  | cons x l ih =>
    simp only [List.map_cons, prodl, List.length_cons]
    rw [Nat.mul_mod, ih, ← Nat.mul_mod, Nat.mod_mul_mod]
    congr 1; rw [Nat.pow_succ]; grind
theorem fact_coprime {p : Nat} (hp : Pr p) (n : Nat) (h : n < p) : Nat.Coprime p (fact n) := by
  induction n with
  | zero => simp [fact, Nat.Coprime]
  | succ n ih => exact Nat.Coprime.mul_right (hp.coprime (fun hd => by have := Nat.le_of_dvd (by omega) hd; omega)) (ih (by omega))
theorem dvd_sub_of_mod_eq {a b p : Nat} (h : a % p = b % p) (hab : b ≤ a) : p ∣ a - b :=
  ⟨a / p - b / p, by have h1 := Nat.div_add_mod a p; have h2 := Nat.div_add_mod b p; rw [Nat.mul_sub]; omega⟩
theorem fermat {p a : Nat} (hp : Pr p) (ha : ¬ p ∣ a) : a ^ (p - 1) % p = 1 := by
  have hp1 := hp.1
  let l := (List.range' 1 (p - 1))
  have hmem : ∀ x ∈ l, 1 ≤ x ∧ x ≤ p - 1 := fun x hx => by
    have := List.mem_range'_1.1 hx; omega
  have hc := hp.coprime ha
  have hcancel : ∀ x y, p ∣ a * x - a * y → p ∣ x - y := fun x y h => by
    rw [← Nat.mul_sub] at h
    exact hc.dvd_of_dvd_mul_left h
  have hinj : ∀ x ∈ l, ∀ y ∈ l, a * x % p = a * y % p → x = y := by
    intro x hx y hy he
    have hx' := hmem x hx; have hy' := hmem y hy
    rcases Nat.le_total x y with hxy | hxy
    · have h1 := hcancel y x (dvd_sub_of_mod_eq he.symm (Nat.mul_le_mul_left a hxy))
      rcases Nat.eq_zero_or_pos (y - x) with e | e
      · omega
      · have := Nat.le_of_dvd e h1; omega
    · have h1 := hcancel x y (dvd_sub_of_mod_eq he (Nat.mul_le_mul_left a hxy))
      rcases Nat.eq_zero_or_pos (x - y) with e | e
      · omega
      · have := Nat.le_of_dvd e h1; omega
  have hnd : (l.map (fun x => a * x % p)).Nodup := by
    have hl : l.Nodup := List.nodup_range'
    unfold List.Nodup at hl ⊢
    rw [List.pairwise_map]
    exact hl.imp_of_mem fun hx hy hne he => hne (hinj _ hx _ hy he)
  have hlen : (l.map (fun x => a * x % p)).length = p - 1 := by simp [l]
  have h1 := prodl_of_nodup (p - 1) _ hnd hlen (fun x hx => by
    obtain ⟨y, hy, rfl⟩ := List.mem_map.1 hx
    have hy' := hmem y hy
    have hlt := Nat.mod_lt (a * y) (show 0 < p by omega)
    refine ⟨?_, by omega⟩
    rcases Nat.eq_zero_or_pos (a * y % p) with e | e
    · have hd := Nat.dvd_of_mod_eq_zero e
      have := hc.dvd_of_dvd_mul_left hd
      have := Nat.le_of_dvd (by omega) this
      omega
    · exact e)
  have h2 := prodl_of_nodup (p - 1) l List.nodup_range' (by simp [l]) hmem
  have h3 := prodl_map_mul l a p
  rw [h1, h2, show l.length = p - 1 by simp [l]] at h3
  have hf := fact_coprime hp (p - 1) (by omega)
  have hpos : 0 < a := by rcases Nat.eq_zero_or_pos a with e | e; exact absurd (e ▸ Nat.dvd_zero p) ha; exact e
  have h1le : 1 ≤ a ^ (p - 1) := Nat.pow_pos hpos
  have h4 : p ∣ a ^ (p - 1) * fact (p - 1) - fact (p - 1) := dvd_sub_of_mod_eq h3.symm (Nat.le_mul_of_pos_left _ h1le)
  have h5 : p ∣ fact (p - 1) * (a ^ (p - 1) - 1) := by
    rw [Nat.mul_sub, Nat.mul_one, Nat.mul_comm]; exact h4
  have h6 := hf.dvd_of_dvd_mul_left h5
  obtain ⟨k, hk⟩ := h6
  have h7 : a ^ (p - 1) = 1 + p * k := by omega
  rw [h7, Nat.add_mul_mod_self_left, Nat.mod_eq_of_lt hp1]

/-! ### Pocklington -/
theorem pow_gcd {a r : Nat} (hr : 1 < r) : ∀ x y : Nat, a ^ x % r = 1 → a ^ y % r = 1 → a ^ (Nat.gcd x y) % r = 1 := by
  intro x y
  induction x, y using Nat.gcd.induction with
  | H0 y => intro _ h; simpa using h
  | H1 x y hx ih =>
    intro h1 h2
    rw [Nat.gcd_rec]
    refine ih ?_ h1
    have h3 : a ^ y = (a ^ x) ^ (y / x) * a ^ (y % x) := by rw [← Nat.pow_mul, ← Nat.pow_add, Nat.div_add_mod]
    rw [h3, Nat.mul_mod, Nat.pow_mod, h1, Nat.one_pow, Nat.mod_eq_of_lt hr, Nat.one_mul, Nat.mod_mod] at h2
    exact h2
theorem pocklington {n q m a : Nat} (hn : 1 < n) (hq : Pr q) (hm : n - 1 = q * m) (hqn : n ≤ q * q) (h1 : a ^ (n - 1) % n = 1)
    (h2 : Nat.gcd (a ^ m % n + (n - 1)) n = 1) : Pr n := by
  apply Classical.byContradiction
  intro hc
  obtain ⟨r, hr, hrn, hrr⟩ := exists_small_factor hn hc
  have hr1 := hr.1
  have h3 : a ^ (n - 1) % r = 1 := by
    rw [← Nat.mod_mod_of_dvd _ hrn, h1, Nat.mod_eq_of_lt hr1]
  have hra : ¬ r ∣ a := by
    intro hd
    have : r ∣ a ^ (n - 1) := Nat.dvd_trans hd ⟨a ^ (n - 2), by rw [← Nat.pow_succ', show (n - 2).succ = n - 1 by omega]⟩
    rw [Nat.mod_eq_zero_of_dvd this] at h3
    omega
  have h4 := fermat hr hra
  have hqr : q ∣ r - 1 := by
    apply Classical.byContradiction
    intro hqr
    have hco := hq.coprime hqr
    have hg : Nat.gcd (n - 1) (r - 1) ∣ m := by
      rw [hm]
      have hd := Nat.gcd_dvd_left (q * m) (r - 1)
      have hd2 := Nat.gcd_dvd_right (q * m) (r - 1)
      have : Nat.Coprime (Nat.gcd (q * m) (r - 1)) q := (Nat.Coprime.coprime_dvd_right hd2 hco).symm
      exact this.dvd_of_dvd_mul_left hd
    obtain ⟨k, hk⟩ := hg
    have h5 := pow_gcd hr1 _ _ h3 h4
    have h6 : a ^ m % r = 1 := by
      rw [hk, Nat.pow_mul, Nat.pow_mod, h5, Nat.one_pow, Nat.mod_eq_of_lt hr1]
    have h7 : r ∣ a ^ m % n + (n - 1) := by
      apply Nat.dvd_of_mod_eq_zero
      rw [Nat.add_mod, Nat.mod_mod_of_dvd _ hrn, h6]
      obtain ⟨s, hs⟩ := hrn
      have : s ≠ 0 := by rintro rfl; omega
      obtain ⟨s, rfl⟩ := Nat.exists_eq_succ_of_ne_zero this
      have : n - 1 = (r - 1) + r * s := by rw [hs, Nat.mul_succ]; omega
      rw [this, Nat.add_mul_mod_self_left, Nat.mod_eq_of_lt (show r - 1 < r by omega), show 1 + (r - 1) = r by omega, Nat.mod_self]
    have h8 := Nat.dvd_gcd h7 hrn
    rw [h2] at h8
    have := Nat.le_of_dvd (by omega) h8
    omega
  have := Nat.le_of_dvd (by omega) hqr
  have : (q + 1) * (q + 1) ≤ r * r := Nat.mul_le_mul (by omega) (by omega)
  have h9 : (q + 1) * (q + 1) = q * q + 2 * q + 1 := by grind
  omega
end Go.Zig
