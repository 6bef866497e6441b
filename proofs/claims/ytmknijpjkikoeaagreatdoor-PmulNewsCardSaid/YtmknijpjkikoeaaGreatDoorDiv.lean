/- math/bits.Div64: quotient and remainder of two words by one. -/
import Derived.Test.YtmknijpjkikoeaaGreatDoorBits
set_option linter.unusedVariables false
set_option linter.unusedSimpArgs false
namespace Go.Zig
open Go.RowKit Go.Proofs

/-- What the halves come to at the first step's begin. -/
structure DivAt (hi lo y Y U L : Int) (s : Nat) : Prop where
  y1 : 9223372036854775808 ≤ Y
  y2 : Y ≤ 18446744073709551615
  u1 : 0 ≤ U
  u2 : U < Y
  l1 : 0 ≤ L
  l2 : L ≤ 18446744073709551615
  eY : Y = y * 2 ^ s
  eU : U * 18446744073709551616 + L = (hi * 18446744073709551616 + lo) * 2 ^ s

theorem shifted (y : Int) (s : Nat) (h0 : 1 ≤ y) (h2 : y ≤ 18446744073709551615) (hl : Lib.bitLen y.toNat = 64 - s) (hs : s ≤ 63) : 9223372036854775808 ≤ y * 2 ^ s ∧ y * 2 ^ s ≤ 18446744073709551615 := by
  obtain ⟨y, rfl⟩ := Int.eq_ofNat_of_zero_le (show 0 ≤ y by omega)
  obtain ⟨a, b, c⟩ := bitLen_range 64 y (by omega) (by omega) (by omega)
  simp only [Int.toNat_natCast] at hl
  rw [hl] at a b
  have h1 : 2 ^ (64 - s - 1) * 2 ^ s ≤ y * 2 ^ s := Nat.mul_le_mul_right _ a
  have h3 : y * 2 ^ s < 2 ^ (64 - s) * 2 ^ s := Nat.mul_lt_mul_of_pos_right b (Nat.two_pow_pos s)
  rw [← Nat.pow_add, show 64 - s - 1 + s = 63 by omega] at h1
  rw [← Nat.pow_add, show 64 - s + s = 64 by omega] at h3
  have h4 : ((y : Int) * 2 ^ s) = ((y * 2 ^ s : Nat) : Int) := by rw [Int.natCast_mul, Int.natCast_pow]; rfl
  rw [h4]
  omega
theorem lo_split (lo : Int) (s : Nat) (hs : s ≤ 63) (h3 : 0 ≤ lo) (h4 : lo ≤ 18446744073709551615) :
    lo / 2 ^ (64 - s) * 18446744073709551616 + (lo * 2 ^ s) % 18446744073709551616 = lo * 2 ^ s ∧ 0 ≤ lo / 2 ^ (64 - s) ∧ lo / 2 ^ (64 - s) < 2 ^ s := by
  have hp : (18446744073709551616 : Int) = 2 ^ (64 - s) * 2 ^ s := by rw [← Int.pow_add, show 64 - s + s = 64 by omega]; rfl
  have hk : (0 : Int) < 2 ^ s := Int.pow_pos (by omega)
  have hj : (0 : Int) < 2 ^ (64 - s) := Int.pow_pos (by omega)
  have h1 := Int.mul_ediv_add_emod (lo * 2 ^ s) 18446744073709551616
  have h2 : (lo * 2 ^ s) / 18446744073709551616 = lo / 2 ^ (64 - s) := by
    rw [hp]; exact Int.mul_ediv_mul_of_pos_left _ _ hk
  rw [h2] at h1
  refine ⟨by omega, Int.ediv_nonneg h3 (by omega), ?_⟩
  rw [Int.ediv_lt_iff_lt_mul hj, Int.mul_comm, ← hp]
  omega
theorem divAt (hi lo y : Int) (s : Nat) (hs : s ≤ 63) (h0 : 0 ≤ hi) (h1 : hi < y) (h2 : y ≤ 18446744073709551615) (h3 : 0 ≤ lo) (h4 : lo ≤ 18446744073709551615) (hl : Lib.bitLen y.toNat = 64 - s) :
    DivAt hi lo y (IntKind.u64.wrap (y * 2 ^ s)) (bits BinOp.or IntKind.u64 (IntKind.u64.wrap (hi * 2 ^ s)) (lo / 2 ^ (64 - s))) (IntKind.u64.wrap (lo * 2 ^ s)) s := by
  obtain ⟨a, b⟩ := shifted y s (by omega) h2 hl hs
  have hk : (0 : Int) < 2 ^ s := Int.pow_pos (by omega)
  have hh : hi * 2 ^ s + 2 ^ s ≤ y * 2 ^ s := by
    have : (hi + 1) * 2 ^ s ≤ y * 2 ^ s := Int.mul_le_mul_of_nonneg_right (by omega) (by omega)
    rw [Int.add_mul] at this; omega
  have hn : 0 ≤ hi * 2 ^ s := Int.mul_nonneg h0 (by omega)
  obtain ⟨c, d, e⟩ := lo_split lo s hs h3 h4
  rw [wrap_fit (y * 2 ^ s) (by omega) b, wrap_fit (hi * 2 ^ s) hn (by omega), or_word _ _ s h0 d (by omega) e hs]
  have hL := IntKind.wrap_u64 (lo * 2 ^ s)
  refine ⟨a, b, by omega, by omega, by omega, by omega, rfl, ?_⟩
  rw [hL, Int.add_mul, Int.add_mul]
  have : hi * 2 ^ s * 18446744073709551616 = hi * 18446744073709551616 * 2 ^ s := by grind
  omega

/-- Half a division, as the machine writes what is left of it. -/
theorem left_word (U v q Y : Int) (h : 0 ≤ U * 4294967296 + v - q * Y) (h' : U * 4294967296 + v - q * Y ≤ 18446744073709551615) :
    IntKind.u64.wrap (IntKind.u64.wrap (IntKind.u64.wrap (U * 4294967296) + v) - IntKind.u64.wrap (q * Y)) = U * 4294967296 + v - q * Y := by
  simp only [IntKind.wrap_u64]
  omega

theorem DivAt.final {hi lo y Y U L q1 r1 q0 r0 : Int} {s : Nat} (d : DivAt hi lo y Y U L s) (hy : 0 < y) (h1 : U * 4294967296 + L / 4294967296 = q1 * Y + r1) (h2 : r1 * 4294967296 + L % 4294967296 = q0 * Y + r0) (h3 : 0 ≤ r0) (h4 : r0 < Y) :
    q1 * 4294967296 + q0 = divQ hi lo y ∧ r0 / 2 ^ s = divR hi lo y := by
  have hk : (0 : Int) < 2 ^ s := Int.pow_pos (by omega)
  obtain ⟨a, b⟩ := two_steps Y U L q1 r1 q0 r0 (by have := d.y1; omega) h1 h2 h3 h4
  obtain ⟨c, e⟩ := scaled (hi * 18446744073709551616 + lo) y (2 ^ s) hk hy
  rw [d.eU, d.eY] at a b
  unfold divQ divR
  exact ⟨by rw [← a, c], by rw [← b, e]⟩
theorem divR_lt (hi lo y : Int) (h : 0 < y) : 0 ≤ divR hi lo y ∧ divR hi lo y < y := ⟨Int.emod_nonneg _ (by omega), Int.emod_lt_of_pos _ h⟩
theorem divQ_word (hi lo y : Int) (h0 : 0 ≤ hi) (h1 : hi < y) (h3 : 0 ≤ lo) (h4 : lo ≤ 18446744073709551615) : 0 ≤ divQ hi lo y ∧ divQ hi lo y ≤ 18446744073709551615 := by
  unfold divQ
  refine ⟨Int.ediv_nonneg (by omega) (by omega), ?_⟩
  apply Int.le_of_lt_add_one
  rw [Int.ediv_lt_iff_lt_mul (by omega)]
  have : (hi + 1) * 18446744073709551616 ≤ y * 18446744073709551616 := Int.mul_le_mul_of_nonneg_right (by omega) (by omega)
  omega

set_option maxHeartbeats 1000000 in
theorem div_low (lo y : Int) (h1 : 0 < y) (h2 : y ≤ 18446744073709551615) (h3 : 0 ≤ lo) (h4 : lo ≤ 18446744073709551615) (w : World) :
    Calls Tryz.prog 121 #[.int .u64 0, .int .u64 lo, .int .u64 y] w fun e w' => e = .returned (.tuple #[.int .u64 (divQ 0 lo y), .int .u64 (divR 0 lo y)]) ∧ ∃ n, w' = w.drewN n := by
  have e1 : divQ 0 lo y = lo / y := by unfold divQ; rw [Int.zero_mul, Int.zero_add]
  have e2 : divR 0 lo y = lo % y := by unfold divR; rw [Int.zero_mul, Int.zero_add]
  have hy1 : 1 ≤ y := h1
  have E1 := Lib.hid e1; clear e1
  have E2 := Lib.hid e2; clear e2
  go_enter Tryz.func121, Tryz.ntmps121
  go_wp2_with fail
  go_quiet (fail)
  go_wp2
  go_ret2
  exact ⟨by rw [E1.out, E2.out]; rfl, _, rfl⟩

set_option maxHeartbeats 4000000 in
theorem div_big (hi lo y : Int) (s : Nat) (hs : s ≤ 63) (h0 : 1 ≤ hi) (h1 : hi < y) (h2 : y ≤ 18446744073709551615) (h3 : 0 ≤ lo) (h4 : lo ≤ 18446744073709551615)
    (hl : Lib.bitLen y.toNat = 64 - s) (w : World) :
    Calls Tryz.prog 121 #[.int .u64 hi, .int .u64 lo, .int .u64 y] w fun e w' => e = .returned (.tuple #[.int .u64 (divQ hi lo y), .int .u64 (divR hi lo y)]) ∧ ∃ n, w' = w.drewN n := by
  have D := divAt hi lo y s hs (by omega) h1 h2 h3 h4 hl
  have hl' : (64 - (Lib.bitLen y.toNat : Int)) = (s : Int) := by omega
  have HL := Lib.hid hl'; clear hl hl'
  go_enter Tryz.func121, Tryz.ntmps121
  go_upto_region 9 with (first | (go_at_call 154; refine (Tryz.bits_LeadingZeros64 _ _ (by omega) (by omega)).mono ?_; rintro e w' ⟨rfl, rfl⟩; rw [HL.out]))
  generalize IntKind.u64.wrap (y * 2 ^ s) = Y at *
  have y1 := D.y1; have y2 := D.y2
  have z1 : ¬ Y / 4294967296 = 0 := by omega
  have z2 : (Y / 4294967296 == 0) = false := by simp; omega
  go_upto_region 11 with fail
  rw [and_low Y (by omega) y2]
  go_upto_region 12 with fail
  generalize bits BinOp.or IntKind.u64 (IntKind.u64.wrap (hi * 2 ^ s)) (lo / 2 ^ (64 - s)) = U at *
  go_upto_region 13 with fail
  generalize IntKind.u64.wrap (lo * 2 ^ s) = L at *
  have u1 := D.u1; have u2 := D.u2; have l1 := D.l1; have l2 := D.l2
  go_upto_region 15 with fail
  rw [and_low L l1 l2]
  generalize hYh : Y / 4294967296 = yh at *
  generalize hYl : Y % 4294967296 = yl at *
  generalize hLh : L / 4294967296 = lh at *
  generalize hLl : L % 4294967296 = ll at *
  have T1 : TriD yh yl U lh := ⟨by omega, by omega, by omega, by omega, u1, by omega, by omega, by omega⟩
  have yh1 := T1.a
  obtain ⟨s1, s2, s3, s4, s5⟩ := T1.start
  have s6 : U / yh * yh ≤ U := by omega
  have s7 : 0 ≤ U / yh * yh := by have := Int.mul_nonneg s2 (show 0 ≤ yh by omega); omega
  have hYe : Y = yh * 4294967296 + yl := by omega
  have hLe : L = lh * 4294967296 + ll := by omega
  have G := Lib.hid (And.intro T1 (And.intro hYe (And.intro hLe (And.intro hLh hLl))))
  clear hYh hYl hLh hLl hYe hLe T1
  have S1 := Lib.hid s1; clear s1
  go_upto_block 0 with fail
  generalize hq : U / yh = q at *
  generalize hr : U - q * yh = r at *
  clear hq hr s6 s7
  go_cut [15, 16] (fun s15 s16 wx => s15 = .int .u64 (triQ yh yl U lh) ∧ w' = wx)
  case first =>
    go_wp2_with fail
    go_loop [15, 16] (fun a b => ∃ q r : Int, a = .int .u64 q ∧ b = .int .u64 r ∧ 0 ≤ q ∧ q ≤ 4294967297 ∧ 0 ≤ r ∧ r ≤ 4294967295 ∧ Hid (Tri yh yl U lh q r)) (fun a _ => (intOf a).toNat)
    case atStart => exact ⟨q, r, rfl, rfl, s2, s3, s4, s5, S1.out⟩
    case round =>
      clear s2 s3 s4 s5 S1
      obtain ⟨q, r, rfl, rfl, q0, q1, r0, r1, ht⟩ := hrel
      have T1 := G.out.1
      have b1 := T1.b; have b2 := T1.c; have b3 := T1.d; have b4 := T1.g; have b5 := T1.h
      clear T1
      have p0 : 0 ≤ q * yl := Int.mul_nonneg q0 b2
      have p1 : q * yl ≤ 18446744073709551615 := by
        have h1 : q * yl ≤ 4294967297 * yl := Int.mul_le_mul_of_nonneg_right q1 b2
        omega
      by_cases c1 : 4294967296 ≤ q
      · by_cases c3 : 4294967296 ≤ r + yh
        · go_wp2
          go_meet
          exact ⟨by have := (ht.out.next G.out.1 (.inl c1)).stop G.out.1 (by omega) c3; rw [← this], rfl⟩
        · go_wp2
          go_round
          case rel => exact ⟨q - 1, r + yh, rfl, rfl, by omega, by omega, by omega, by omega, ht.out.next G.out.1 (.inl c1)⟩
          case measure => simp [intOf]; omega
      · by_cases c2 : 4294967296 * r + lh < q * yl
        · have q2 : 1 ≤ q := by
            rcases Int.lt_or_le q 1 with h | h
            · have : q = 0 := by omega
              subst this
              simp at c2; omega
            · exact h
          by_cases c3 : 4294967296 ≤ r + yh
          · go_wp2
            go_meet
            exact ⟨by have := (ht.out.next G.out.1 (.inr c2)).stop G.out.1 (by omega) c3; rw [← this], rfl⟩
          · go_wp2
            go_round
            case rel => exact ⟨q - 1, r + yh, rfl, rfl, by omega, by omega, by omega, by omega, ht.out.next G.out.1 (.inr c2)⟩
            case measure => simp [intOf]; omega
        · go_wp2
          go_meet
          exact ⟨by have := ht.out.done G.out.1 (by omega); rw [← this], rfl⟩
  case rest =>
    obtain ⟨rfl, rfl⟩ := hcut
    clear s2 s3 s4 s5 S1
    obtain ⟨T1, hYe, hLe, hLh, hLl⟩ := G.out
    have f1 := T1.rest
    have f2 := T1.lt
    have f3 := T1.nonneg
    rw [← hYe] at f1
    generalize triQ yh yl U lh = q1 at *
    have f4 := left_word U lh q1 Y f1.1 (by omega)
    obtain ⟨V, hV⟩ : ∃ V, V = U * 4294967296 + lh - q1 * Y := ⟨_, rfl⟩
    rw [← hV] at f1 f4
    have T2 : TriD yh yl V ll := ⟨T1.a, T1.b, T1.c, T1.d, f1.1, by omega, by omega, by omega⟩
    obtain ⟨s1, s2, s3, s4, s5⟩ := T2.start
    have v1 : 0 ≤ V := f1.1
    have v2 : V < Y := f1.2.1
    have s7 : 0 ≤ V / yh * yh := by have := Int.mul_nonneg s2 (show 0 ≤ yh by omega); omega
    have S1 := Lib.hid s1; clear s1
    have F4 := Lib.hid f4; clear f4
    have HV := Lib.hid hV; clear hV
    have H2 := Lib.hid T2; clear T2
    clear hYe hLe hLh hLl T1 f1
    go_upto_region 22 with fail
    rw [F4.out]
    go_upto_block 2 with fail
    generalize hq : V / yh = q' at *
    generalize hr : V - q' * yh = r' at *
    clear hq hr s7
    go_cut [18, 16] (fun s18 s16 wx => s18 = .int .u64 (triQ yh yl V ll) ∧ w' = wx)
    case first =>
      go_wp2_with fail
      go_loop [18, 16] (fun a b => ∃ q r : Int, a = .int .u64 q ∧ b = .int .u64 r ∧ 0 ≤ q ∧ q ≤ 4294967297 ∧ 0 ≤ r ∧ r ≤ 4294967295 ∧ Hid (Tri yh yl V ll q r)) (fun a _ => (intOf a).toNat)
      case atStart => exact ⟨q', r', rfl, rfl, s2, s3, s4, s5, S1.out⟩
      case round =>
        clear s2 s3 s4 s5 S1
        obtain ⟨q, r, rfl, rfl, q0, q1, r0, r1, ht⟩ := hrel
        have T1 := H2.out
        have b1 := T1.b; have b2 := T1.c; have b3 := T1.d; have b4 := T1.g; have b5 := T1.h
        clear T1
        have p0 : 0 ≤ q * yl := Int.mul_nonneg q0 b2
        have p1 : q * yl ≤ 18446744073709551615 := by
          have h1 : q * yl ≤ 4294967297 * yl := Int.mul_le_mul_of_nonneg_right q1 b2
          omega
        by_cases c1 : 4294967296 ≤ q
        · by_cases c3 : 4294967296 ≤ r + yh
          · go_wp2
            go_meet
            exact ⟨by have := (ht.out.next H2.out (.inl c1)).stop H2.out (by omega) c3; rw [← this], rfl⟩
          · go_wp2
            go_round
            case rel => exact ⟨q - 1, r + yh, rfl, rfl, by omega, by omega, by omega, by omega, ht.out.next H2.out (.inl c1)⟩
            case measure => simp [intOf]; omega
        · by_cases c2 : 4294967296 * r + ll < q * yl
          · have q2 : 1 ≤ q := by
              rcases Int.lt_or_le q 1 with h | h
              · have : q = 0 := by omega
                subst this
                simp at c2; omega
              · exact h
            by_cases c3 : 4294967296 ≤ r + yh
            · go_wp2
              go_meet
              exact ⟨by have := (ht.out.next H2.out (.inr c2)).stop H2.out (by omega) c3; rw [← this], rfl⟩
            · go_wp2
              go_round
              case rel => exact ⟨q - 1, r + yh, rfl, rfl, by omega, by omega, by omega, by omega, ht.out.next H2.out (.inr c2)⟩
              case measure => simp [intOf]; omega
          · go_wp2
            go_meet
            exact ⟨by have := ht.out.done H2.out (by omega); rw [← this], rfl⟩
    case rest =>
      obtain ⟨rfl, rfl⟩ := hcut
      clear s2 s3 s4 s5 S1
      obtain ⟨T1, hYe, hLe, hLh, hLl⟩ := G.out
      have g1 := H2.out.rest
      have g2 := H2.out.lt
      have g3 := H2.out.nonneg
      rw [← hYe] at g1
      generalize triQ yh yl V ll = q0 at *
      have g4 := left_word V ll q0 Y g1.1 (by omega)
      have hfin := D.final (q1 := q1) (r1 := V) (q0 := q0) (r0 := V * 4294967296 + ll - q0 * Y) (by omega) (by have := HV.out; omega) (by omega) g1.1 g1.2.1
      have F := Lib.hid hfin; clear hfin
      have F5 := Lib.hid g4; clear g4
      clear hYe hLe hLh hLl T1 g1
      go_wp2_with fail
      go_ret2
      refine ⟨?_, 0, rfl⟩
      rw [F5.out, F.out.2, F.out.1]
      rfl

/-- Two words by one, the upper one below the divisor. -/
theorem div64 (hi lo y : Int) (h0 : 0 ≤ hi) (h1 : hi < y) (h2 : y ≤ 18446744073709551615) (h3 : 0 ≤ lo) (h4 : lo ≤ 18446744073709551615) (w : World) :
    Calls Tryz.prog 121 #[.int .u64 hi, .int .u64 lo, .int .u64 y] w fun e w' => e = .returned (.tuple #[.int .u64 (divQ hi lo y), .int .u64 (divR hi lo y)]) ∧ ∃ n, w' = w.drewN n := by
  by_cases h : hi = 0
  · subst h
    exact div_low lo y h1 h2 h3 h4 w
  · obtain ⟨a, b, c⟩ := bitLen_range 64 y.toNat (by omega) (by omega) (by omega)
    have hle : Lib.bitLen y.toNat ≤ 64 := by
      rcases Nat.lt_or_ge 64 (Lib.bitLen y.toNat) with hlt | hge
      · have : (2 : Nat) ^ 64 ≤ 2 ^ (Lib.bitLen y.toNat - 1) := Nat.pow_le_pow_right (by omega) (by omega)
        omega
      · exact hge
    exact div_big hi lo y (64 - Lib.bitLen y.toNat) (by omega) (by omega) h1 h2 h3 h4 (by omega) w
end Go.Zig
