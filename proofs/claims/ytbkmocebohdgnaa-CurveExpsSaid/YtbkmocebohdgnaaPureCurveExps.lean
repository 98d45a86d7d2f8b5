/- Powers are the reference's, one by one and several in a call. -/
import Derived.Test.YtbkmocebohdgnaaPCurveExpsx1
import Derived.Test.YtbkmocebohdgnaaPCurveExpsx2
import Derived.Test.YtbkmocebohdgnaaPCurveExpsx3
import Derived.Test.YtbkmocebohdgnaaEPlain
import Derived.Test.YtbkmocebohdgnaaEShift
namespace Go.Proofs.Ytbkmocebohdgnaa.Pure
open Go.RowKit Go.Proofs.Ytbkmocebohdgnaa.PCurveExps Go.Proofs.YtbkmocebohdgnaaW.PrintWords Go.Proofs.YtbkmocebohdgnaaW.PrintLast Go.Proofs.YtbkmocebohdgnaaW.PrintMore Go.Proofs.YtbkmocebohdgnaaPlain
set_option linter.unusedVariables false
set_option linter.unusedSimpArgs false

theorem shift_is (x a : Int) (hx : -9223372036854775808 ≤ x ∧ x < 9223372036854775808) : round_Shift.f x a = some (sh x (mn (mx a 0) 62).toNat) := by
  have hn0 : 0 ≤ mn (mx a 0) 62 ∧ mn (mx a 0) 62 ≤ 62 := by unfold mn mx; split <;> split <;> omega
  unfold round_Shift.f
  generalize hN : mn (mx a 0) 62 = N at *
  obtain ⟨n, rfl⟩ := Int.eq_ofNat_of_zero_le hn0.1
  rw [Int.toNat_natCast]
  have hn : n ≤ 62 := by omega
  have hlt : 2 ^ n ≤ 2 ^ 62 := Nat.pow_le_pow_right (by decide) hn
  have hp := pow_pos' n
  have hcast : ((2 ^ n : Nat) : Int) = (2 : Int) ^ n := by simp
  have hle : (2 : Int) ^ n ≤ 4611686018427387904 := by rw [← hcast]; omega
  have e1 : IntKind.u64.wrap ((2 : Int) ^ n) = 2 ^ n := u64w (by omega) (by omega)
  have e2 : IntKind.u64.wrap ((2 : Int) ^ n - 1) = 2 ^ n - 1 := u64w (by omega) (by omega)
  have e3 : IntKind.u64.wrap x % 2 ^ n = x % 2 ^ n := by
    rw [IntKind.wrap_u64]
    refine Int.emod_emod_of_dvd x ⟨2 ^ (64 - n), ?_⟩
    rw [← Int.pow_add, show n + (64 - n) = 64 by omega]
    decide
  rw [e1, e2, and_any .u64 (Or.inr rfl) n (by omega), e3]
  have e4 : Go.bits .and .i64 (x / 2 ^ n) 1 = x / 2 ^ n % 2 := and_any .i64 (Or.inl rfl) 1 (by decide) _
  rw [e4]
  have hw : (0 < n → wrap64 (x / 2 ^ n + 1) = x / 2 ^ n + 1) := by
    intro h
    have h2 : (2 : Int) ≤ 2 ^ n := by
      have : 2 ^ 1 ≤ 2 ^ n := Nat.pow_le_pow_right (by decide) h
      rw [← hcast]
      omega
    have hd1 : x / 2 ^ n < 9223372036854775807 := by
      have hm : 9223372036854775807 * 2 ≤ 9223372036854775807 * (2 : Int) ^ n := Int.mul_le_mul_of_nonneg_left h2 (by decide)
      exact Int.ediv_lt_of_lt_mul hp (by omega)
    have hd0 : -9223372036854775808 ≤ x / 2 ^ n := by
      have hm : -9223372036854775808 * (2 : Int) ^ n ≤ -9223372036854775808 * 1 := Int.mul_le_mul_of_nonpos_left (by decide) (by omega)
      exact Int.le_ediv_of_mul_le hp (by omega)
    rw [w64 (by omega) (by omega)]
  unfold sh
  by_cases c1 : x % 2 ^ n > 2 ^ n / 2
  · have h0 : 0 < n := by
      rcases Nat.eq_zero_or_pos n with h | h
      · subst h
        have : x % 2 ^ 0 = 0 := by simp
        rw [this] at c1
        exact absurd c1 (by decide)
      · exact h
    rw [if_pos c1, if_pos c1, hw h0]
  · rw [if_neg c1, if_neg c1]
    by_cases c2 : x % 2 ^ n = 2 ^ n / 2
    · rw [if_pos c2, if_pos c2]
      by_cases h0 : 0 < n
      · rw [if_pos (by omega), if_pos h0, hw h0]
        split <;> rfl
      · rw [if_neg (by omega), if_neg h0]
    · rw [if_neg c2, if_neg c2]

theorem step_is (i : Nat) (h : i < 33) : curve_step.f (i : Int) = some (tb i) := by
  unfold curve_step.f
  rw [if_pos (by omega), if_pos (by omega), Int.toNat_natCast]
  rfl

theorem exp_is (x : Int) (hx : -9223372036854775808 ≤ x ∧ x < 9223372036854775808) : curve_Exp.f x = some (ep x) := by
  unfold curve_Exp.f ep
  by_cases h0 : x ≥ 0
  · rw [if_pos h0, if_pos h0]
  · rw [if_neg h0, if_neg (show ¬ 0 ≤ x by omega)]
    by_cases h1 : x < (-4294967296)
    · rw [if_pos h1]
      unfold pw
      rw [if_pos (by omega)]
    · rw [if_neg h1, w64 (n := -x) (by omega) (by omega), w64 (n := -x * 94548) (by omega) (by omega)]
      obtain ⟨t, ht⟩ : ∃ t : Nat, -x * 94548 / 65536 = (t : Int) := Int.eq_ofNat_of_zero_le (by omega)
      rw [ht, Int.toNat_natCast]
      unfold pw
      by_cases hq : t / 65536 > 31
      · rw [if_pos (by omega), if_pos hq]
      · have e1 : Go.bits .and .i64 (t : Int) 65535 = ((t % 65536 : Nat) : Int) := by
          have := and_any .i64 (Or.inl rfl) 16 (by decide) (t : Int)
          have e : ((2 : Int) ^ 16 - 1) = 65535 := by decide
          have e' : ((2 : Int) ^ 16) = 65536 := by decide
          rw [e, e'] at this
          rw [this]
          simp
        have hf : t % 65536 < 65536 := Nat.mod_lt _ (by decide)
        have hqd : (t : Int) / 65536 = ((t / 65536 : Nat) : Int) := by simp
        rw [if_neg (by omega), if_neg hq, e1, hqd]
        generalize t % 65536 = f at *
        generalize t / 65536 = q at *
        have e2 : Go.bits .and .i64 (f : Int) 2047 = ((f % 2048 : Nat) : Int) := by
          have := and_any .i64 (Or.inl rfl) 11 (by decide) (f : Int)
          have e : ((2 : Int) ^ 11 - 1) = 2047 := by decide
          have e' : ((2 : Int) ^ 11) = 2048 := by decide
          rw [e, e'] at this
          rw [this]
          simp
        have e3 : (f : Int) / 2048 = ((f / 2048 : Nat) : Int) := by simp
        have e4 : wrap64 (((f / 2048 : Nat) : Int) + 1) = ((f / 2048 + 1 : Nat) : Int) := by rw [w64] <;> omega
        rw [e2, e3, e4, step_is _ (by omega), step_is _ (by omega)]
        simp only [Option.bind_some]
        have hr0 := tb_range (f / 2048) (by omega)
        have hr1 := tb_range (f / 2048 + 1) (by omega)
        have hd := tb_falls (f / 2048) (f / 2048 + 1) (by omega) (by omega)
        have hv := vf_range f hf
        have hvf : tb (f / 2048) - sh ((tb (f / 2048) - tb (f / 2048 + 1)) * ((f % 2048 : Nat) : Int)) 11 = vf f := rfl
        have hm0 : 0 ≤ (tb (f / 2048) - tb (f / 2048 + 1)) * ((f % 2048 : Nat) : Int) := Int.mul_nonneg (by omega) (by omega)
        have hm1 : (tb (f / 2048) - tb (f / 2048 + 1)) * ((f % 2048 : Nat) : Int) ≤ 65536 * ((f % 2048 : Nat) : Int) := Int.mul_le_mul_of_nonneg_right (by omega) (by omega)
        rw [w64 (n := tb (f / 2048) - tb (f / 2048 + 1)) (by omega) (by omega), w64 (n := (tb (f / 2048) - tb (f / 2048 + 1)) * ((f % 2048 : Nat) : Int)) (by omega) (by omega), shift_is _ _ (by omega)]
        have n11 : (mn (mx 11 0) 62).toNat = 11 := by decide
        rw [n11]
        simp only [Option.bind_some]
        rw [hvf, w64 (by omega) (by omega), shift_is _ _ (by omega)]
        have nq : (mn (mx (q : Int) 0) 62).toNat = q := by unfold mn mx; split <;> split <;> omega
        rw [nq]
        simp only [Option.bind_some]
        have s0 := sh_nonneg (x := vf f) (by omega) q
        have s1 := sh_self (x := vf f) (by omega) q
        rw [w32 (by omega) (by omega)]

theorem refshift_loop (x : Int) (hx : -9223372036854775808 ≤ x ∧ x < 9223372036854775808) (n : Nat) (hn : 0 < n) (hn2 : n ≤ 62) (d : Nat) : ∀ (k i : Nat), i + d = n → d < k →
    pelotonref01_Shift.l0 k x (n : Int) (2 ^ i) (i : Int) = some (sh x n) := by
  induction d with
  | zero =>
    intro k i hi hk
    obtain ⟨k, rfl⟩ : ∃ m, k = m + 1 := ⟨k - 1, by omega⟩
    obtain rfl : i = n := by omega
    have hp := pow_pos' i
    obtain ⟨m, rfl⟩ : ∃ m, i = m + 1 := ⟨i - 1, by omega⟩
    have hpm := pow_pos' m
    have hps : (2 : Int) ^ (m + 1) = 2 ^ m * 2 := Int.pow_succ 2 m
    have hle : (2 : Int) ^ (m + 1) ≤ 4611686018427387904 := by
      have : 2 ^ (m + 1) ≤ 2 ^ 62 := Nat.pow_le_pow_right (by decide) hn2
      have hcast : ((2 ^ (m + 1) : Nat) : Int) = (2 : Int) ^ (m + 1) := by simp
      rw [← hcast]
      omega
    have hfl : -4611686018427387904 ≤ x / 2 ^ (m + 1) ∧ x / 2 ^ (m + 1) < 4611686018427387904 := by
      refine ⟨Int.le_ediv_of_mul_le hp ?_, Int.ediv_lt_of_lt_mul hp ?_⟩
      · have hm : -4611686018427387904 * (2 : Int) ^ (m + 1) ≤ -4611686018427387904 * 2 := Int.mul_le_mul_of_nonpos_left (by decide) (by omega)
        omega
      · have hm : 4611686018427387904 * 2 ≤ 4611686018427387904 * (2 : Int) ^ (m + 1) := Int.mul_le_mul_of_nonneg_left (by omega) (by decide)
        omega
    have hdm := Int.mul_tdiv_add_tmod x (2 ^ (m + 1))
    have hlt := Int.tmod_lt_of_pos x hp
    have hgt : -(2 ^ (m + 1)) < Int.tmod x (2 ^ (m + 1)) := by
      rcases Int.le_total 0 x with h | h
      · have := Int.tmod_nonneg (2 ^ (m + 1)) h
        omega
      · have h1 : Int.tmod (-x) (2 ^ (m + 1)) = - Int.tmod x (2 ^ (m + 1)) := Int.neg_tmod x _
        have := Int.tmod_lt_of_pos (-x) hp
        omega
    simp only [pelotonref01_Shift.l0]
    rw [if_neg (by omega), if_neg (by omega)]
    unfold sh
    have hh : (2 : Int) ^ (m + 1) / 2 = 2 ^ m := by rw [hps]; omega
    rw [hh]
    have par : ∀ z : Int, (Int.tmod z 2 = 0) ↔ ¬ z % 2 = 1 := by
      intro z
      rw [← Int.dvd_iff_tmod_eq_zero, Int.dvd_iff_emod_eq_zero]
      omega
    by_cases hneg : Int.tmod x (2 ^ (m + 1)) < 0
    · have huq : x / 2 ^ (m + 1) = Int.tdiv x (2 ^ (m + 1)) - 1 ∧ x % 2 ^ (m + 1) = Int.tmod x (2 ^ (m + 1)) + 2 ^ (m + 1) := by
        refine (Int.ediv_emod_unique hp).2 ⟨?_, by omega, by omega⟩
        rw [Int.mul_sub, Int.mul_one]
        omega
      rw [if_pos hneg]
      rw [huq.1] at hfl ⊢
      rw [huq.2]
      generalize Int.tdiv x (2 ^ (m + 1)) = q at *
      generalize Int.tmod x (2 ^ (m + 1)) = r at *
      rw [w64 (n := q) (by omega) (by omega), w64 (n := q - 1) (by omega) (by omega), w64 (n := q - 1 + 1) (by omega) (by omega), w64 (n := r + 2 ^ (m + 1)) (by omega) (by omega), w64 (n := 2 ^ (m + 1) - (r + 2 ^ (m + 1))) (by omega) (by omega)]
      by_cases c1 : r + 2 ^ (m + 1) > 2 ^ m
      · rw [if_pos (by omega), if_pos c1]
      · rw [if_neg (by omega), if_neg c1]
        by_cases c2 : r + 2 ^ (m + 1) = 2 ^ m
        · rw [if_pos (show r + 2 ^ (m + 1) = 2 ^ (m + 1) - (r + 2 ^ (m + 1)) by omega), if_pos c2, if_pos (show 0 < m + 1 by omega)]
          by_cases c3 : Int.tmod (q - 1) 2 = 0
          · rw [if_pos c3, if_neg ((par _).1 c3)]
          · rw [if_neg c3, if_pos (Decidable.not_not.1 fun h => c3 ((par _).2 h))]
        · rw [if_neg (by omega), if_neg c2]
    · have huq : x / 2 ^ (m + 1) = Int.tdiv x (2 ^ (m + 1)) ∧ x % 2 ^ (m + 1) = Int.tmod x (2 ^ (m + 1)) := (Int.ediv_emod_unique hp).2 ⟨by omega, by omega, by omega⟩
      rw [if_neg hneg]
      rw [huq.1] at hfl ⊢
      rw [huq.2]
      generalize Int.tdiv x (2 ^ (m + 1)) = q at *
      generalize Int.tmod x (2 ^ (m + 1)) = r at *
      rw [w64 (n := q) (by omega) (by omega), w64 (n := q + 1) (by omega) (by omega), w64 (n := 2 ^ (m + 1) - r) (by omega) (by omega)]
      by_cases c1 : r > 2 ^ m
      · rw [if_pos (by omega), if_pos c1]
      · rw [if_neg (by omega), if_neg c1]
        by_cases c2 : r = 2 ^ m
        · rw [if_pos (show r = 2 ^ (m + 1) - r by omega), if_pos c2, if_pos (show 0 < m + 1 by omega)]
          by_cases c3 : Int.tmod q 2 = 0
          · rw [if_pos c3, if_neg ((par _).1 c3)]
          · rw [if_neg c3, if_pos (Decidable.not_not.1 fun h => c3 ((par _).2 h))]
        · rw [if_neg (by omega), if_neg c2]
  | succ d ih =>
    intro k i hi hk
    obtain ⟨k, rfl⟩ : ∃ m, k = m + 1 := ⟨k - 1, by omega⟩
    have hps : (2 : Int) ^ (i + 1) = 2 ^ i * 2 := Int.pow_succ 2 i
    have hp := pow_pos' i
    have hle : (2 : Int) ^ (i + 1) ≤ 4611686018427387904 := by
      have : 2 ^ (i + 1) ≤ 2 ^ 62 := Nat.pow_le_pow_right (by decide) (by omega)
      have hcast : ((2 ^ (i + 1) : Nat) : Int) = (2 : Int) ^ (i + 1) := by simp
      rw [← hcast]
      omega
    simp only [pelotonref01_Shift.l0]
    rw [if_pos (by omega), w64 (n := 2 ^ i * 2) (by omega) (by omega), ← hps, w64 (n := (i : Int) + 1) (by omega) (by omega)]
    exact ih k (i + 1) (by omega) (by omega)

theorem refshift_is (x a : Int) (hx : -9223372036854775808 ≤ x ∧ x < 9223372036854775808) (k : Nat) (hk : 70 ≤ k) : pelotonref01_Shift.f k x a = some (sh x (mn (mx a 0) 62).toNat) := by
  obtain ⟨k, rfl⟩ : ∃ m, k = m + 1 := ⟨k - 1, by omega⟩
  have key : ∀ b : Int, b ≤ 62 → pelotonref01_Shift.j0 (k + 1) x b = some (sh x (mx b 0).toNat) := by
    intro b hb
    simp only [pelotonref01_Shift.j0]
    by_cases h : b ≤ 0
    · have e : (mx b 0).toNat = 0 := by unfold mx; split <;> omega
      rw [if_pos h, e]
      unfold sh
      have e1 : x % (2 : Int) ^ 0 = 0 := by simp
      have e2 : (2 : Int) ^ 0 / 2 = 0 := by decide
      have e3 : x / (2 : Int) ^ 0 = x := by simp
      rw [e1, e2, e3, if_neg (by decide), if_pos rfl, if_neg (by decide)]
    · obtain ⟨n, rfl⟩ := Int.eq_ofNat_of_zero_le (show 0 ≤ b by omega)
      have e : (mx (n : Int) 0).toNat = n := by unfold mx; split <;> omega
      rw [if_neg h, e]
      have := refshift_loop x hx n (by omega) (by omega) n k 0 (by omega) (by omega)
      simpa using this
  unfold pelotonref01_Shift.f
  by_cases h : a > 62
  · rw [if_pos h, key 62 (by decide)]
    have e : (mx 62 0).toNat = (mn (mx a 0) 62).toNat := by
      have e1 : mx a 0 = a := by unfold mx; rw [if_neg (by omega)]
      have e2 : mn a 62 = 62 := by unfold mn; rw [if_pos (by omega)]
      rw [e1, e2]
      rfl
    rw [e]
  · rw [if_neg h, key a (by omega)]
    have e : (mx a 0).toNat = (mn (mx a 0) 62).toNat := by
      have e1 : mx a 0 ≤ 62 := by unfold mx; split <;> omega
      have e2 : mn (mx a 0) 62 = mx a 0 := by unfold mn; rw [if_neg (by omega)]
      rw [e2]
    rw [← e]

theorem awake_is : ∃ K, ∀ k, K ≤ k → pelotonlaw02_awake.f k = some true := Ev.of pelotonlaw02_awake.mono (k := 100) (by decide +kernel)

theorem refT_is (i : Nat) (h : i < 33) : pelotonref02_T.f (i : Int) = some (tb i) := by
  unfold pelotonref02_T.f
  simp only [Option.bind_some]
  rw [if_pos (by omega), if_pos (by simp; omega)]
  unfold rd
  rw [Int.toNat_natCast]
  rfl

theorem refexp_tail (f q : Nat) (hf : f < 65536) (k : Nat) (hk : 70 ≤ k) :
    ((pelotonref02_T.f ((f / 2048 : Nat) : Int)).bind fun t143 => ((pelotonref02_T.f ((f / 2048 : Nat) : Int)).bind fun t144 => ((pelotonref02_T.f ((f / 2048 + 1 : Nat) : Int)).bind fun t145 => ((pelotonref01_Shift.f k (wrap64 ((wrap64 (t144 - t145)) * ((f % 2048 : Nat) : Int))) 11).bind fun t146 => (if (q : Int) > 31 then (some 0) else ((pelotonref01_Shift.f k (wrap64 (t143 - t146)) (q : Int)).bind fun t147 => (some (wrap32 (t147))))))))) = some (if q > 31 then 0 else sh (vf f) q) := by
  have hr0 := tb_range (f / 2048) (by omega)
  have hr1 := tb_range (f / 2048 + 1) (by omega)
  have hd := tb_falls (f / 2048) (f / 2048 + 1) (by omega) (by omega)
  have hv := vf_range f hf
  have hvf : tb (f / 2048) - sh ((tb (f / 2048) - tb (f / 2048 + 1)) * ((f % 2048 : Nat) : Int)) 11 = vf f := rfl
  have hm0 : 0 ≤ (tb (f / 2048) - tb (f / 2048 + 1)) * ((f % 2048 : Nat) : Int) := Int.mul_nonneg (by omega) (by omega)
  have hm1 : (tb (f / 2048) - tb (f / 2048 + 1)) * ((f % 2048 : Nat) : Int) ≤ 65536 * ((f % 2048 : Nat) : Int) := Int.mul_le_mul_of_nonneg_right (by omega) (by omega)
  rw [refT_is _ (by omega), refT_is _ (by omega)]
  simp only [Option.bind_some]
  rw [w64 (n := tb (f / 2048) - tb (f / 2048 + 1)) (by omega) (by omega), w64 (n := (tb (f / 2048) - tb (f / 2048 + 1)) * ((f % 2048 : Nat) : Int)) (by omega) (by omega), refshift_is _ _ (by omega) k hk]
  have n11 : (mn (mx 11 0) 62).toNat = 11 := by decide
  rw [n11]
  simp only [Option.bind_some]
  by_cases hq : q > 31
  · rw [if_pos (by omega), if_pos hq]
  · rw [if_neg (by omega), if_neg hq, hvf, w64 (by omega) (by omega), refshift_is _ _ (by omega) k hk]
    have nq : (mn (mx (q : Int) 0) 62).toNat = q := by
      have e1 : mx (q : Int) 0 = (q : Int) := by unfold mx; split <;> omega
      have e2 : mn (q : Int) 62 = (q : Int) := by unfold mn; rw [if_neg (by omega)]
      rw [e1, e2]
      rfl
    rw [nq]
    simp only [Option.bind_some]
    have s0 := sh_nonneg (x := vf f) (by omega) q
    have s1 := sh_self (x := vf f) (by omega) q
    rw [w32 (by omega) (by omega)]

theorem small_t (t : Nat) (h : t < 20000000) : wrap64 (t : Int) = (t : Int) ∧ Int.tmod (t : Int) 65536 = ((t % 65536 : Nat) : Int) ∧ Int.tmod (t : Int) 2048 = ((t % 65536 % 2048 : Nat) : Int) ∧ wrap64 (Int.tdiv (t : Int) 65536) = ((t / 65536 : Nat) : Int) := by
  refine ⟨w64 (by omega) (by omega), ?_, ?_, ?_⟩
  · rw [Int.tmod_eq_emod_of_nonneg (by omega)]; omega
  · rw [Int.tmod_eq_emod_of_nonneg (by omega)]; omega
  · rw [Int.tdiv_eq_ediv_of_nonneg (by omega), w64] <;> omega
theorem small_f (f : Nat) (h : f < 65536) : wrap64 (Int.tdiv (f : Int) 2048) = ((f / 2048 : Nat) : Int) ∧ wrap64 (((f / 2048 : Nat) : Int) + 1) = ((f / 2048 + 1 : Nat) : Int) := by
  refine ⟨?_, ?_⟩
  · rw [Int.tdiv_eq_ediv_of_nonneg (by omega), w64] <;> omega
  · rw [w64] <;> omega
theorem small_x (x : Int) (h0 : x ≤ 0) (h1 : -10000000 ≤ x) : ∃ t : Nat, wrap64 (Int.tdiv (wrap64 (wrap64 (-x) * 94548)) 65536) = (t : Int) ∧ t < 20000000 ∧ (-x * 94548 / 65536).toNat = t := by
  refine ⟨(-x * 94548 / 65536).toNat, ?_, by omega, rfl⟩
  rw [w64 (n := -x) (by omega) (by omega), w64 (n := -x * 94548) (by omega) (by omega), Int.tdiv_eq_ediv_of_nonneg (by omega), w64 (by omega) (by omega)]
  omega

theorem refexp_is (x : Int) (k : Nat) (hk : 70 ≤ k) : pelotonref02_Exp.f k x = some (ep x) := by
  unfold pelotonref02_Exp.f
  by_cases h0 : x > 0
  · have e : ep x = 65536 := by unfold ep; rw [if_pos (by omega)]
    rw [if_pos h0, e]
  · rw [if_neg h0]
    have e : ep x = pw ((-x * 94548 / 65536).toNat) := by
      unfold ep
      split
      · have : x = 0 := by omega
        subst this
        decide +kernel
      · rfl
    rw [e]
    by_cases h1 : x < (-10000000)
    · rw [if_pos h1]
      unfold pw
      rw [if_pos (by omega)]
    · obtain ⟨t, ht, hb, hn⟩ := small_x x (by omega) (by omega)
      rw [if_neg h1, ht, hn]
      clear ht hn e h1 h0
      obtain ⟨t1, t2, t3, t4⟩ := small_t t hb
      rw [t2, t3, t4]
      have hf : t % 65536 < 65536 := Nat.mod_lt _ (by decide)
      unfold pw
      generalize t % 65536 = f at *
      generalize t / 65536 = q at *
      obtain ⟨f1, f2⟩ := small_f f hf
      rw [f1, f2]
      exact refexp_tail f q hf k hk

theorem exps_loop (xs : List Int) (hx : ∀ x ∈ xs, -9223372036854775808 ≤ x ∧ x < 9223372036854775808) (hl : xs.length ≤ 1000) (d : Nat) : ∀ (k i : Nat), i + d = xs.length → d < k →
    curve_Exps.l0 k ((xs.take i).map ep ++ List.replicate d 0) xs (xs.length : Int) (i : Int) = some (xs.map ep) := by
  induction d with
  | zero =>
    intro k i hi hk
    obtain ⟨k, rfl⟩ : ∃ m, k = m + 1 := ⟨k - 1, by omega⟩
    simp only [curve_Exps.l0]
    rw [if_neg (by omega), List.take_of_length_le (by omega)]
    simp
  | succ d ih =>
    intro k i hi hk
    obtain ⟨k, rfl⟩ : ∃ m, k = m + 1 := ⟨k - 1, by omega⟩
    have hlt : i < xs.length := by omega
    have ih' := ih k (i + 1) (by omega) (by omega)
    rw [take_map_succ _ _ _ hlt, List.append_assoc, List.singleton_append] at ih'
    have hw : wrap64 ((i : Int) + 1) = ((i + 1 : Nat) : Int) := by rw [w64] <;> omega
    have e := set_zeros ((xs.take i).map ep) d 0 (ep xs[i])
    rw [List.length_map, List.length_take, Nat.min_eq_left (by omega)] at e
    simp only [curve_Exps.l0]
    rw [if_pos (by omega), if_pos (by omega), if_pos (by omega), rd_at _ _ hlt, hw, exp_is _ (hx _ (List.getElem_mem hlt))]
    simp only [Option.bind_some]
    rw [if_pos (by simp; omega), Int.toNat_natCast, e]
    exact ih'
theorem exps_is (xs : List Int) (hx : ∀ x ∈ xs, -9223372036854775808 ≤ x ∧ x < 9223372036854775808) (hl : xs.length ≤ 1000) (k : Nat) (hk : xs.length < k) : curve_Exps.f k xs = some (xs.map ep) := by
  unfold curve_Exps.f
  rw [if_pos (by omega), if_pos (by omega), Int.toNat_natCast]
  have := exps_loop xs hx hl xs.length k 0 (by omega) hk
  simpa using this

theorem law_loop (xs : List Int) (hx : ∀ x ∈ xs, -9223372036854775808 ≤ x ∧ x < 9223372036854775808) (hl : xs.length ≤ 1000) (d : Nat) : ∀ (k i : Nat), i + d = xs.length → d + 100 < k →
    pelotonlaw02_CurveExps.l0 k xs (xs.map ep) (i : Int) = some true := by
  induction d with
  | zero =>
    intro k i hi hk
    obtain ⟨k, rfl⟩ : ∃ m, k = m + 1 := ⟨k - 1, by omega⟩
    simp only [pelotonlaw02_CurveExps.l0]
    rw [if_neg (by omega)]
  | succ d ih =>
    intro k i hi hk
    obtain ⟨k, rfl⟩ : ∃ m, k = m + 1 := ⟨k - 1, by omega⟩
    have hlt : i < xs.length := by omega
    have hxi := hx _ (List.getElem_mem hlt)
    have hw : wrap64 ((i : Int) + 1) = ((i + 1 : Nat) : Int) := by rw [w64] <;> omega
    simp only [pelotonlaw02_CurveExps.l0]
    rw [if_pos (by omega), if_pos (by omega), rd_at _ _ hlt, refexp_is _ k (by omega)]
    simp only [Option.bind_some]
    rw [if_pos (by simp; omega), rd_at _ _ (by rw [List.length_map]; exact hlt), List.getElem_map, if_pos rfl, exp_is _ hxi]
    simp only [Option.bind_some]
    rw [if_pos trivial, hw]
    exact ih k (i + 1) (by omega) (by omega)

theorem CurveExps : pelotonlaw02_CurveExps.Pure := by
  intro xs _ _ hwx
  obtain ⟨K, hK⟩ := awake_is
  have hx : ∀ x ∈ xs, -9223372036854775808 ≤ x ∧ x < 9223372036854775808 := fun x h => wf_i64 (hwx x h)
  refine ⟨K + 1000, ?_⟩
  unfold pelotonlaw02_CurveExps.f
  rw [hK _ (by omega)]
  simp only [Option.bind_some]
  rw [if_pos trivial]
  obtain ⟨k, hk⟩ : ∃ m, K + 1000 = m + 1 := ⟨K + 999, rfl⟩
  rw [hk]
  simp only [pelotonlaw02_CurveExps.j0]
  by_cases h : (xs.length : Int) > 100
  · rw [decide_eq_true h, if_pos rfl, hK _ (by omega)]
    rfl
  · rw [decide_eq_false h, if_neg (by decide), exps_is xs hx (by omega) k (by omega)]
    simp only [Option.bind_some]
    rw [if_pos (by rw [List.length_map])]
    exact law_loop xs hx (by omega) xs.length k 0 (by omega) (by omega)

end Go.Proofs.Ytbkmocebohdgnaa.Pure
