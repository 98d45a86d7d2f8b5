/- Powers never fall, and the root of a square is the number, of every numbers. -/
import Derived.Test.YtbkmocebohdgnaaPCurveFallsx1
import Derived.Test.YtbkmocebohdgnaaPCurveFallsx2
import Derived.Test.YtbkmocebohdgnaaEPlain
import Derived.Test.YtbkmocebohdgnaaEShift
namespace Go.Proofs.Ytbkmocebohdgnaa.Pure
open Go.RowKit Go.Proofs.Ytbkmocebohdgnaa.PCurveFalls Go.Proofs.YtbkmocebohdgnaaW.PrintWords Go.Proofs.YtbkmocebohdgnaaW.PrintLast Go.Proofs.YtbkmocebohdgnaaW.PrintMore Go.Proofs.YtbkmocebohdgnaaPlain
set_option linter.unusedVariables false
set_option linter.unusedSimpArgs false

theorem mul64_small (a b : Int) (ha0 : 0 ≤ a) (ha : a < 4294967296) (hb0 : 0 ≤ b) (hb : b < 4294967296) : bits_Mul64.f a b = some (0, a * b) := by
  obtain ⟨hp0, hp1⟩ := mul_u64 ha0 ha hb0 hb
  have m : ∀ x : Int, 0 ≤ x → x < 18446744073709551616 → Go.bits .and .u64 x 4294967295 = x % 4294967296 := fun x h0 h1 => and_mask 32 (by decide) x h0 h1
  have da : a / 4294967296 = 0 := by omega
  have db : b / 4294967296 = 0 := by omega
  unfold bits_Mul64.f
  rw [da, db, m a ha0 (by omega), m b hb0 (by omega), Int.emod_eq_of_lt ha0 ha, Int.emod_eq_of_lt hb0 hb]
  simp only [Int.zero_mul, Int.mul_zero, Int.zero_add, Int.add_zero]
  rw [u64w (n := 0) (by decide) (by decide), u64w hp0 hp1, u64w (n := 0 + a * b / 4294967296) (by omega) (by omega)]
  simp only [Int.zero_add]
  rw [m _ (by omega) (by omega)]
  have e1 : a * b / 4294967296 / 4294967296 = 0 := by omega
  have e2 : a * b / 4294967296 % 4294967296 / 4294967296 = 0 := by omega
  rw [Int.add_zero, u64w (n := a * b / 4294967296 % 4294967296) (by omega) (by omega), e1, e2]
  rw [u64w (n := 0) (by decide) (by decide), u64w (n := 0 + 0) (by decide) (by decide)]
  rfl

theorem root_loop (n : Nat) (b : Nat) : ∀ (k r : Nat), b < k → r % 2 ^ b = 0 → r * r ≤ n → n < (r + 2 ^ b) * (r + 2 ^ b) → r + 2 ^ b ≤ 4294967296 →
    ∃ q : Nat, curve_Root.l0 k (n : Int) (r : Int) (b : Int) = some (q : Int) ∧ q * q ≤ n ∧ n < (q + 1) * (q + 1) ∧ q < 4294967296 := by
  induction b with
  | zero =>
    intro k r hk _ h1 h2 h3
    obtain ⟨k, rfl⟩ : ∃ m, k = m + 1 := ⟨k - 1, by omega⟩
    refine ⟨r, ?_, h1, by simpa using h2, by omega⟩
    simp only [curve_Root.l0]
    rw [if_neg (by decide)]
  | succ b ih =>
    intro k r hk hm h1 h2 h3
    obtain ⟨k, rfl⟩ : ∃ m, k = m + 1 := ⟨k - 1, by omega⟩
    have hb : b < 32 := by
      rcases Nat.lt_or_ge b 32 with h | h
      · exact h
      · have : 2 ^ 33 ≤ 2 ^ (b + 1) := Nat.pow_le_pow_right (by decide) (by omega)
        omega
    have hpow : 2 ^ (b + 1) = 2 ^ b * 2 := Nat.pow_succ 2 b
    have hpos : 0 < 2 ^ b := Nat.two_pow_pos b
    have hup : r + 2 ^ b < 4294967296 := by omega
    have e0 : IntKind.u64.wrap (((b + 1 : Nat) : Int) - 1) = (b : Int) := by rw [u64w] <;> omega
    have e1 : Go.bits .or .u64 (r : Int) (2 ^ b) = ((r + 2 ^ b : Nat) : Int) := by
      rw [or_pow b (r : Int) (by omega) (by omega) (by exact_mod_cast hm) (by omega)]
      simp
    simp only [curve_Root.l0]
    rw [if_pos (by omega), e0, if_pos (by omega), shl_one b (by omega), e1, mul64_small _ _ (by omega) (by omega) (by omega) (by omega)]
    simp only [Option.bind_some]
    rw [if_pos trivial]
    have hmod : (r + 2 ^ b) % 2 ^ b = 0 := by
      have : r % 2 ^ b = 0 := by
        have h := Nat.mod_mod_of_dvd r (show 2 ^ b ∣ 2 ^ (b + 1) from ⟨2, hpow⟩)
        rw [← h, hm]; simp
      simp [this]
    have hmod' : r % 2 ^ b = 0 := by simpa using hmod
    by_cases hle : ((r + 2 ^ b : Nat) : Int) * ((r + 2 ^ b : Nat) : Int) ≤ (n : Int)
    · rw [if_pos hle]
      exact ih k (r + 2 ^ b) (by omega) hmod (by exact_mod_cast hle) (by rw [show r + 2 ^ b + 2 ^ b = r + 2 ^ (b + 1) by omega]; exact h2) (by omega)
    · rw [if_neg hle]
      refine ih k r (by omega) hmod' h1 ?_ (by omega)
      have : ¬ (r + 2 ^ b) * (r + 2 ^ b) ≤ n := fun h => hle (by exact_mod_cast h)
      omega

theorem root_is (n : Nat) (hn : n < 18446744073709551616) (k : Nat) (hk : 40 ≤ k) :
    ∃ q : Nat, curve_Root.f k (n : Int) = some (q : Int) ∧ q * q ≤ n ∧ n < (q + 1) * (q + 1) ∧ q < 4294967296 := by
  have hL := bitLen_le n
  have hlt := bitLen_lt n (by simpa using hn)
  unfold curve_Root.f bits_Len64.f
  rw [if_pos (by omega), if_pos (by omega)]
  simp only [Option.bind_some, Int.toNat_natCast]
  rw [w64 (by omega) (by omega), u64w (n := (Lib.bitLen n : Int) + 1) (by omega) (by omega)]
  have e : IntKind.u64.wrap (Int.tdiv ((Lib.bitLen n : Int) + 1) 2) = (((Lib.bitLen n + 1) / 2 : Nat) : Int) := by
    rw [Int.tdiv_eq_ediv_of_nonneg (by omega), u64w] <;> omega
  rw [e]
  have h32 : 2 ^ ((Lib.bitLen n + 1) / 2) ≤ 2 ^ 32 := Nat.pow_le_pow_right (by decide) (by omega)
  refine root_loop n _ k 0 (by omega) (Nat.zero_mod _) (by omega) ?_ (by omega)
  rw [Nat.zero_add, ← Nat.pow_add]
  exact Nat.lt_of_lt_of_le hlt (Nat.pow_le_pow_right (by decide) (by omega))

theorem inverse_is (n : Nat) (h0 : n ≠ 0) (k : Nat) (hk : 40 ≤ k) :
    ∃ q : Nat, curve_Inverse.f k (n : Int) = some (q : Int) ∧ q * q ≤ 281474976710656 / n ∧ 281474976710656 / n < (q + 1) * (q + 1) ∧ q < 4294967296 := by
  have hd : 281474976710656 / n ≤ 281474976710656 := Nat.div_le_self _ _
  obtain ⟨q, hq, h⟩ := root_is (281474976710656 / n) (by omega) k hk
  refine ⟨q, ?_, h⟩
  unfold curve_Inverse.f
  rw [if_neg (by omega), Int.tdiv_eq_ediv_of_nonneg (by decide)]
  have e : (281474976710656 : Int) / (n : Int) = ((281474976710656 / n : Nat) : Int) := by simp
  rw [e, u64w (by omega) (by omega), hq]
  rfl

theorem shift_is (x a : Int) (hx : -9223372036854775808 ≤ x ∧ x < 9223372036854775808) : round_Shift.f x a = some (sh x (mn (mx a 0) 62).toNat) := by
  have hn0 : 0 ≤ mn (mx a 0) 62 ∧ mn (mx a 0) 62 ≤ 62 := by unfold mn mx; split <;> split <;> omega
  unfold round_Shift.f
  generalize hN : mn (mx a 0) 62 = N at *
  obtain ⟨n, rfl⟩ := Int.eq_ofNat_of_zero_le hn0.1
  rw [Int.toNat_natCast]
  have hn : n ≤ 62 := by omega
  have hlt : 2 ^ n ≤ 2 ^ 62 := Nat.pow_le_pow_right (by decide) hn
  have hp := pow_pos' n
  have hcast : ((2 ^ n : Nat) : Int) = (2 : Int) ^ n := by simp
  have hle : (2 : Int) ^ n ≤ 4611686018427387904 := by rw [← hcast]; omega
  have e1 : IntKind.u64.wrap ((2 : Int) ^ n) = 2 ^ n := u64w (by omega) (by omega)
  have e2 : IntKind.u64.wrap ((2 : Int) ^ n - 1) = 2 ^ n - 1 := u64w (by omega) (by omega)
  have e3 : IntKind.u64.wrap x % 2 ^ n = x % 2 ^ n := by
    rw [IntKind.wrap_u64]
    refine Int.emod_emod_of_dvd x ⟨2 ^ (64 - n), ?_⟩
    rw [← Int.pow_add, show n + (64 - n) = 64 by omega]
    decide
  rw [e1, e2, and_any .u64 (Or.inr rfl) n (by omega), e3]
  have e4 : Go.bits .and .i64 (x / 2 ^ n) 1 = x / 2 ^ n % 2 := and_any .i64 (Or.inl rfl) 1 (by decide) _
  rw [e4]
  have hw : (0 < n → wrap64 (x / 2 ^ n + 1) = x / 2 ^ n + 1) := by
    intro h
    have h2 : (2 : Int) ≤ 2 ^ n := by
      have : 2 ^ 1 ≤ 2 ^ n := Nat.pow_le_pow_right (by decide) h
      rw [← hcast]
      omega
    have hd1 : x / 2 ^ n < 9223372036854775807 := by
      have hm : 9223372036854775807 * 2 ≤ 9223372036854775807 * (2 : Int) ^ n := Int.mul_le_mul_of_nonneg_left h2 (by decide)
      exact Int.ediv_lt_of_lt_mul hp (by omega)
    have hd0 : -9223372036854775808 ≤ x / 2 ^ n := by
      have hm : -9223372036854775808 * (2 : Int) ^ n ≤ -9223372036854775808 * 1 := Int.mul_le_mul_of_nonpos_left (by decide) (by omega)
      exact Int.le_ediv_of_mul_le hp (by omega)
    rw [w64 (by omega) (by omega)]
  unfold sh
  by_cases c1 : x % 2 ^ n > 2 ^ n / 2
  · have h0 : 0 < n := by
      rcases Nat.eq_zero_or_pos n with h | h
      · subst h
        have : x % 2 ^ 0 = 0 := by simp
        rw [this] at c1
        exact absurd c1 (by decide)
      · exact h
    rw [if_pos c1, if_pos c1, hw h0]
  · rw [if_neg c1, if_neg c1]
    by_cases c2 : x % 2 ^ n = 2 ^ n / 2
    · rw [if_pos c2, if_pos c2]
      by_cases h0 : 0 < n
      · rw [if_pos (by omega), if_pos h0, hw h0]
        split <;> rfl
      · rw [if_neg (by omega), if_neg h0]
    · rw [if_neg c2, if_neg c2]

theorem step_is (i : Nat) (h : i < 33) : curve_step.f (i : Int) = some (tb i) := by
  unfold curve_step.f
  rw [if_pos (by omega), if_pos (by omega), Int.toNat_natCast]
  rfl

theorem exp_is (x : Int) (hx : -9223372036854775808 ≤ x ∧ x < 9223372036854775808) : curve_Exp.f x = some (ep x) := by
  unfold curve_Exp.f ep
  by_cases h0 : x ≥ 0
  · rw [if_pos h0, if_pos h0]
  · rw [if_neg h0, if_neg (show ¬ 0 ≤ x by omega)]
    by_cases h1 : x < (-4294967296)
    · rw [if_pos h1]
      unfold pw
      rw [if_pos (by omega)]
    · rw [if_neg h1, w64 (n := -x) (by omega) (by omega), w64 (n := -x * 94548) (by omega) (by omega)]
      obtain ⟨t, ht⟩ : ∃ t : Nat, -x * 94548 / 65536 = (t : Int) := Int.eq_ofNat_of_zero_le (by omega)
      rw [ht, Int.toNat_natCast]
      unfold pw
      by_cases hq : t / 65536 > 31
      · rw [if_pos (by omega), if_pos hq]
      · have e1 : Go.bits .and .i64 (t : Int) 65535 = ((t % 65536 : Nat) : Int) := by
          have := and_any .i64 (Or.inl rfl) 16 (by decide) (t : Int)
          have e : ((2 : Int) ^ 16 - 1) = 65535 := by decide
          have e' : ((2 : Int) ^ 16) = 65536 := by decide
          rw [e, e'] at this
          rw [this]
          simp
        have hf : t % 65536 < 65536 := Nat.mod_lt _ (by decide)
        have hqd : (t : Int) / 65536 = ((t / 65536 : Nat) : Int) := by simp
        rw [if_neg (by omega), if_neg hq, e1, hqd]
        generalize t % 65536 = f at *
        generalize t / 65536 = q at *
        have e2 : Go.bits .and .i64 (f : Int) 2047 = ((f % 2048 : Nat) : Int) := by
          have := and_any .i64 (Or.inl rfl) 11 (by decide) (f : Int)
          have e : ((2 : Int) ^ 11 - 1) = 2047 := by decide
          have e' : ((2 : Int) ^ 11) = 2048 := by decide
          rw [e, e'] at this
          rw [this]
          simp
        have e3 : (f : Int) / 2048 = ((f / 2048 : Nat) : Int) := by simp
        have e4 : wrap64 (((f / 2048 : Nat) : Int) + 1) = ((f / 2048 + 1 : Nat) : Int) := by rw [w64] <;> omega
        rw [e2, e3, e4, step_is _ (by omega), step_is _ (by omega)]
        simp only [Option.bind_some]
        have hr0 := tb_range (f / 2048) (by omega)
        have hr1 := tb_range (f / 2048 + 1) (by omega)
        have hd := tb_falls (f / 2048) (f / 2048 + 1) (by omega) (by omega)
        have hv := vf_range f hf
        have hvf : tb (f / 2048) - sh ((tb (f / 2048) - tb (f / 2048 + 1)) * ((f % 2048 : Nat) : Int)) 11 = vf f := rfl
        have hm0 : 0 ≤ (tb (f / 2048) - tb (f / 2048 + 1)) * ((f % 2048 : Nat) : Int) := Int.mul_nonneg (by omega) (by omega)
        have hm1 : (tb (f / 2048) - tb (f / 2048 + 1)) * ((f % 2048 : Nat) : Int) ≤ 65536 * ((f % 2048 : Nat) : Int) := Int.mul_le_mul_of_nonneg_right (by omega) (by omega)
        rw [w64 (n := tb (f / 2048) - tb (f / 2048 + 1)) (by omega) (by omega), w64 (n := (tb (f / 2048) - tb (f / 2048 + 1)) * ((f % 2048 : Nat) : Int)) (by omega) (by omega), shift_is _ _ (by omega)]
        have n11 : (mn (mx 11 0) 62).toNat = 11 := by decide
        rw [n11]
        simp only [Option.bind_some]
        rw [hvf, w64 (by omega) (by omega), shift_is _ _ (by omega)]
        have nq : (mn (mx (q : Int) 0) 62).toNat = q := by unfold mn mx; split <;> split <;> omega
        rw [nq]
        simp only [Option.bind_some]
        have s0 := sh_nonneg (x := vf f) (by omega) q
        have s1 := sh_self (x := vf f) (by omega) q
        rw [w32 (by omega) (by omega)]

theorem awake_is : ∃ K, ∀ k, K ≤ k → pelotonlaw02_awake.f k = some true := Ev.of pelotonlaw02_awake.mono (k := 100) (by decide +kernel)

theorem CurveFalls : pelotonlaw02_CurveFalls.Pure := by
  intro a b n0 ha hb hn0
  obtain ⟨K, hK⟩ := awake_is
  have ha := wf_i64 ha
  have hb := wf_i64 hb
  have hn0 := wf_u32 hn0
  obtain ⟨n, rfl⟩ := Int.eq_ofNat_of_zero_le hn0.1
  have hn : n < 4294967296 := by omega
  have hmn : mn a b ≤ mx a b ∧ (-9223372036854775808 ≤ mn a b ∧ mn a b < 9223372036854775808) ∧ (-9223372036854775808 ≤ mx a b ∧ mx a b < 9223372036854775808) := by
    unfold mn mx; split <;> split <;> omega
  refine ⟨K + 40, ?_⟩
  unfold pelotonlaw02_CurveFalls.f
  rw [hK _ (by omega)]
  simp only [Option.bind_some]
  rw [if_pos trivial, exp_is _ hmn.2.1, exp_is _ hmn.2.2]
  simp only [Option.bind_some]
  have hr := ep_rises hmn.1
  have h1 := ep_range (mn a b)
  have h2 := ep_range (mx a b)
  have hsq : n * n < 18446744073709551616 := by
    have : n * n ≤ 4294967295 * 4294967295 := Nat.mul_le_mul (by omega) (by omega)
    omega
  have e0 : IntKind.u64.wrap (n : Int) = (n : Int) := u64w (by omega) (by omega)
  have e1 : IntKind.u64.wrap ((n : Int) * (n : Int)) = ((n * n : Nat) : Int) := by rw [← Int.natCast_mul, u64w (by omega) (by omega)]
  rw [if_pos hr, if_pos h1.1, if_pos h2.2, e0, e1]
  obtain ⟨q, hq, q1, q2, _⟩ := root_is (n * n) hsq (K + 40) (by omega)
  have e : q = n := root_one q1 q2 (Nat.le_refl _) (Nat.mul_lt_mul'' (by omega) (by omega))
  subst e
  rw [hq]
  simp only [Option.bind_some]
  rw [if_pos trivial]
  by_cases h0 : (q : Int) = 0
  · rw [if_pos h0]
  · have hm : 1 ≤ q * q := Nat.mul_le_mul (show 1 ≤ q by omega) (show 1 ≤ q by omega)
    have e2 : IntKind.u64.wrap (((q * q : Nat) : Int) - 1) = ((q * q - 1 : Nat) : Int) := by
      generalize q * q = z at *
      rw [u64w] <;> omega
    have e3 : IntKind.u64.wrap ((q : Int) - 1) = ((q - 1 : Nat) : Int) := by rw [u64w] <;> omega
    obtain ⟨p, hp, p1, p2, _⟩ := root_is (q * q - 1) (by omega) (K + 40) (by omega)
    have e : p = q - 1 := by
      obtain ⟨m, rfl⟩ : ∃ m, q = m + 1 := ⟨q - 1, by omega⟩
      have x : (m + 1) * (m + 1) = m * m + 2 * m + 1 := by rw [Nat.add_mul, Nat.mul_add]; omega
      refine root_one p1 p2 ?_ ?_
      · rw [Nat.add_sub_cancel]; omega
      · rw [Nat.add_sub_cancel]; omega
    rw [if_neg h0, e2, hp, e3, e]
    simp

end Go.Proofs.Ytbkmocebohdgnaa.Pure
