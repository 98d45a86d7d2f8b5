/- Softmax weights are the reference's, of any numbers and scales. -/
import Derived.Test.YtmpdkjcobpghaaaPNormWeightsx1
import Derived.Test.YtmpdkjcobpghaaaPNormWeightsx2
import Derived.Test.YtmpdkjcobpghaaaPNormWeightsx3
import Derived.Test.YtmpdkjcobpghaaaPNormWeightsx4
import Derived.Test.YtmpdkjcobpghaaaPNormWeightsx5
import Derived.Test.YtmpdkjcobpghaaaPNormWeightsx6
import Derived.Test.YtmpdkjcobpghaaaEPlain
import Derived.Test.YtmpdkjcobpghaaaEShift
import Derived.Test.YtmpdkjcobpghaaaESNorm
namespace Go.Proofs.Ytmpdkjcobpghaaa.Pure
open Go.RowKit Go.Proofs.Ytmpdkjcobpghaaa.PNormWeights Go.Proofs.YtmpdkjcobpghaaaW.PrintWords Go.Proofs.YtmpdkjcobpghaaaW.PrintLast Go.Proofs.YtmpdkjcobpghaaaW.PrintMore Go.Proofs.YtmpdkjcobpghaaaPlain
set_option linter.unusedVariables false
set_option linter.unusedSimpArgs false

theorem shift_is (x a : Int) (hx : -9223372036854775808 ≤ x ∧ x < 9223372036854775808) : round_Shift.f x a = some (sh x (mn (mx a 0) 62).toNat) := by
  have hn0 : 0 ≤ mn (mx a 0) 62 ∧ mn (mx a 0) 62 ≤ 62 := by unfold mn mx; split <;> split <;> omega
  unfold round_Shift.f
  generalize hN : mn (mx a 0) 62 = N at *
  obtain ⟨n, rfl⟩ := Int.eq_ofNat_of_zero_le hn0.1
  rw [Int.toNat_natCast]
  have hn : n ≤ 62 := by omega
  have hlt : 2 ^ n ≤ 2 ^ 62 := Nat.pow_le_pow_right (by decide) hn
  have hp := pow_pos' n
  have hcast : ((2 ^ n : Nat) : Int) = (2 : Int) ^ n := by simp
  have hle : (2 : Int) ^ n ≤ 4611686018427387904 := by rw [← hcast]; omega
  have e1 : IntKind.u64.wrap ((2 : Int) ^ n) = 2 ^ n := u64w (by omega) (by omega)
  have e2 : IntKind.u64.wrap ((2 : Int) ^ n - 1) = 2 ^ n - 1 := u64w (by omega) (by omega)
  have e3 : IntKind.u64.wrap x % 2 ^ n = x % 2 ^ n := by
    rw [IntKind.wrap_u64]
    refine Int.emod_emod_of_dvd x ⟨2 ^ (64 - n), ?_⟩
    rw [← Int.pow_add, show n + (64 - n) = 64 by omega]
    decide
  rw [e1, e2, and_any .u64 (Or.inr rfl) n (by omega), e3]
  have e4 : Go.bits .and .i64 (x / 2 ^ n) 1 = x / 2 ^ n % 2 := and_any .i64 (Or.inl rfl) 1 (by decide) _
  rw [e4]
  have hw : (0 < n → wrap64 (x / 2 ^ n + 1) = x / 2 ^ n + 1) := by
    intro h
    have h2 : (2 : Int) ≤ 2 ^ n := by
      have : 2 ^ 1 ≤ 2 ^ n := Nat.pow_le_pow_right (by decide) h
      rw [← hcast]
      omega
    have hd1 : x / 2 ^ n < 9223372036854775807 := by
      have hm : 9223372036854775807 * 2 ≤ 9223372036854775807 * (2 : Int) ^ n := Int.mul_le_mul_of_nonneg_left h2 (by decide)
      exact Int.ediv_lt_of_lt_mul hp (by omega)
    have hd0 : -9223372036854775808 ≤ x / 2 ^ n := by
      have hm : -9223372036854775808 * (2 : Int) ^ n ≤ -9223372036854775808 * 1 := Int.mul_le_mul_of_nonpos_left (by decide) (by omega)
      exact Int.le_ediv_of_mul_le hp (by omega)
    rw [w64 (by omega) (by omega)]
  unfold sh
  by_cases c1 : x % 2 ^ n > 2 ^ n / 2
  · have h0 : 0 < n := by
      rcases Nat.eq_zero_or_pos n with h | h
      · subst h
        have : x % 2 ^ 0 = 0 := by simp
        rw [this] at c1
        exact absurd c1 (by decide)
      · exact h
    rw [if_pos c1, if_pos c1, hw h0]
  · rw [if_neg c1, if_neg c1]
    by_cases c2 : x % 2 ^ n = 2 ^ n / 2
    · rw [if_pos c2, if_pos c2]
      by_cases h0 : 0 < n
      · rw [if_pos (by omega), if_pos h0, hw h0]
        split <;> rfl
      · rw [if_neg (by omega), if_neg h0]
    · rw [if_neg c2, if_neg c2]

theorem step_is (i : Nat) (h : i < 33) : curve_step.f (i : Int) = some (tb i) := by
  unfold curve_step.f
  rw [if_pos (by omega), if_pos (by omega), Int.toNat_natCast]
  rfl

theorem exp_is (x : Int) (hx : -9223372036854775808 ≤ x ∧ x < 9223372036854775808) : curve_Exp.f x = some (ep x) := by
  unfold curve_Exp.f ep
  by_cases h0 : x ≥ 0
  · rw [if_pos h0, if_pos h0]
  · rw [if_neg h0, if_neg (show ¬ 0 ≤ x by omega)]
    by_cases h1 : x < (-4294967296)
    · rw [if_pos h1]
      unfold pw
      rw [if_pos (by omega)]
    · rw [if_neg h1, w64 (n := -x) (by omega) (by omega), w64 (n := -x * 94548) (by omega) (by omega)]
      obtain ⟨t, ht⟩ : ∃ t : Nat, -x * 94548 / 65536 = (t : Int) := Int.eq_ofNat_of_zero_le (by omega)
      rw [ht, Int.toNat_natCast]
      unfold pw
      by_cases hq : t / 65536 > 31
      · rw [if_pos (by omega), if_pos hq]
      · have e1 : Go.bits .and .i64 (t : Int) 65535 = ((t % 65536 : Nat) : Int) := by
          have := and_any .i64 (Or.inl rfl) 16 (by decide) (t : Int)
          have e : ((2 : Int) ^ 16 - 1) = 65535 := by decide
          have e' : ((2 : Int) ^ 16) = 65536 := by decide
          rw [e, e'] at this
          rw [this]
          simp
        have hf : t % 65536 < 65536 := Nat.mod_lt _ (by decide)
        have hqd : (t : Int) / 65536 = ((t / 65536 : Nat) : Int) := by simp
        rw [if_neg (by omega), if_neg hq, e1, hqd]
        generalize t % 65536 = f at *
        generalize t / 65536 = q at *
        have e2 : Go.bits .and .i64 (f : Int) 2047 = ((f % 2048 : Nat) : Int) := by
          have := and_any .i64 (Or.inl rfl) 11 (by decide) (f : Int)
          have e : ((2 : Int) ^ 11 - 1) = 2047 := by decide
          have e' : ((2 : Int) ^ 11) = 2048 := by decide
          rw [e, e'] at this
          rw [this]
          simp
        have e3 : (f : Int) / 2048 = ((f / 2048 : Nat) : Int) := by simp
        have e4 : wrap64 (((f / 2048 : Nat) : Int) + 1) = ((f / 2048 + 1 : Nat) : Int) := by rw [w64] <;> omega
        rw [e2, e3, e4, step_is _ (by omega), step_is _ (by omega)]
        simp only [Option.bind_some]
        have hr0 := tb_range (f / 2048) (by omega)
        have hr1 := tb_range (f / 2048 + 1) (by omega)
        have hd := tb_falls (f / 2048) (f / 2048 + 1) (by omega) (by omega)
        have hv := vf_range f hf
        have hvf : tb (f / 2048) - sh ((tb (f / 2048) - tb (f / 2048 + 1)) * ((f % 2048 : Nat) : Int)) 11 = vf f := rfl
        have hm0 : 0 ≤ (tb (f / 2048) - tb (f / 2048 + 1)) * ((f % 2048 : Nat) : Int) := Int.mul_nonneg (by omega) (by omega)
        have hm1 : (tb (f / 2048) - tb (f / 2048 + 1)) * ((f % 2048 : Nat) : Int) ≤ 65536 * ((f % 2048 : Nat) : Int) := Int.mul_le_mul_of_nonneg_right (by omega) (by omega)
        rw [w64 (n := tb (f / 2048) - tb (f / 2048 + 1)) (by omega) (by omega), w64 (n := (tb (f / 2048) - tb (f / 2048 + 1)) * ((f % 2048 : Nat) : Int)) (by omega) (by omega), shift_is _ _ (by omega)]
        have n11 : (mn (mx 11 0) 62).toNat = 11 := by decide
        rw [n11]
        simp only [Option.bind_some]
        rw [hvf, w64 (by omega) (by omega), shift_is _ _ (by omega)]
        have nq : (mn (mx (q : Int) 0) 62).toNat = q := by unfold mn mx; split <;> split <;> omega
        rw [nq]
        simp only [Option.bind_some]
        have s0 := sh_nonneg (x := vf f) (by omega) q
        have s1 := sh_self (x := vf f) (by omega) q
        rw [w32 (by omega) (by omega)]

theorem refshift_loop (x : Int) (hx : -9223372036854775808 ≤ x ∧ x < 9223372036854775808) (n : Nat) (hn : 0 < n) (hn2 : n ≤ 62) (d : Nat) : ∀ (k i : Nat), i + d = n → d < k →
    pelotonref01_Shift.l0 k x (n : Int) (2 ^ i) (i : Int) = some (sh x n) := by
  induction d with
  | zero =>
    intro k i hi hk
    obtain ⟨k, rfl⟩ : ∃ m, k = m + 1 := ⟨k - 1, by omega⟩
    obtain rfl : i = n := by omega
    have hp := pow_pos' i
    obtain ⟨m, rfl⟩ : ∃ m, i = m + 1 := ⟨i - 1, by omega⟩
    have hpm := pow_pos' m
    have hps : (2 : Int) ^ (m + 1) = 2 ^ m * 2 := Int.pow_succ 2 m
    have hle : (2 : Int) ^ (m + 1) ≤ 4611686018427387904 := by
      have : 2 ^ (m + 1) ≤ 2 ^ 62 := Nat.pow_le_pow_right (by decide) hn2
      have hcast : ((2 ^ (m + 1) : Nat) : Int) = (2 : Int) ^ (m + 1) := by simp
      rw [← hcast]
      omega
    have hfl : -4611686018427387904 ≤ x / 2 ^ (m + 1) ∧ x / 2 ^ (m + 1) < 4611686018427387904 := by
      refine ⟨Int.le_ediv_of_mul_le hp ?_, Int.ediv_lt_of_lt_mul hp ?_⟩
      · have hm : -4611686018427387904 * (2 : Int) ^ (m + 1) ≤ -4611686018427387904 * 2 := Int.mul_le_mul_of_nonpos_left (by decide) (by omega)
        omega
      · have hm : 4611686018427387904 * 2 ≤ 4611686018427387904 * (2 : Int) ^ (m + 1) := Int.mul_le_mul_of_nonneg_left (by omega) (by decide)
        omega
    have hdm := Int.mul_tdiv_add_tmod x (2 ^ (m + 1))
    have hlt := Int.tmod_lt_of_pos x hp
    have hgt : -(2 ^ (m + 1)) < Int.tmod x (2 ^ (m + 1)) := by
      rcases Int.le_total 0 x with h | h
      · have := Int.tmod_nonneg (2 ^ (m + 1)) h
        omega
      · have h1 : Int.tmod (-x) (2 ^ (m + 1)) = - Int.tmod x (2 ^ (m + 1)) := Int.neg_tmod x _
        have := Int.tmod_lt_of_pos (-x) hp
        omega
    simp only [pelotonref01_Shift.l0]
    rw [if_neg (by omega), if_neg (by omega)]
    unfold sh
    have hh : (2 : Int) ^ (m + 1) / 2 = 2 ^ m := by rw [hps]; omega
    rw [hh]
    have par : ∀ z : Int, (Int.tmod z 2 = 0) ↔ ¬ z % 2 = 1 := by
      intro z
      rw [← Int.dvd_iff_tmod_eq_zero, Int.dvd_iff_emod_eq_zero]
      omega
    by_cases hneg : Int.tmod x (2 ^ (m + 1)) < 0
    · have huq : x / 2 ^ (m + 1) = Int.tdiv x (2 ^ (m + 1)) - 1 ∧ x % 2 ^ (m + 1) = Int.tmod x (2 ^ (m + 1)) + 2 ^ (m + 1) := by
        refine (Int.ediv_emod_unique hp).2 ⟨?_, by omega, by omega⟩
        rw [Int.mul_sub, Int.mul_one]
        omega
      rw [if_pos hneg]
      rw [huq.1] at hfl ⊢
      rw [huq.2]
      generalize Int.tdiv x (2 ^ (m + 1)) = q at *
      generalize Int.tmod x (2 ^ (m + 1)) = r at *
      rw [w64 (n := q) (by omega) (by omega), w64 (n := q - 1) (by omega) (by omega), w64 (n := q - 1 + 1) (by omega) (by omega), w64 (n := r + 2 ^ (m + 1)) (by omega) (by omega), w64 (n := 2 ^ (m + 1) - (r + 2 ^ (m + 1))) (by omega) (by omega)]
      by_cases c1 : r + 2 ^ (m + 1) > 2 ^ m
      · rw [if_pos (by omega), if_pos c1]
      · rw [if_neg (by omega), if_neg c1]
        by_cases c2 : r + 2 ^ (m + 1) = 2 ^ m
        · rw [if_pos (show r + 2 ^ (m + 1) = 2 ^ (m + 1) - (r + 2 ^ (m + 1)) by omega), if_pos c2, if_pos (show 0 < m + 1 by omega)]
          by_cases c3 : Int.tmod (q - 1) 2 = 0
          · rw [if_pos c3, if_neg ((par _).1 c3)]
          · rw [if_neg c3, if_pos (Decidable.not_not.1 fun h => c3 ((par _).2 h))]
        · rw [if_neg (by omega), if_neg c2]
    · have huq : x / 2 ^ (m + 1) = Int.tdiv x (2 ^ (m + 1)) ∧ x % 2 ^ (m + 1) = Int.tmod x (2 ^ (m + 1)) := (Int.ediv_emod_unique hp).2 ⟨by omega, by omega, by omega⟩
      rw [if_neg hneg]
      rw [huq.1] at hfl ⊢
      rw [huq.2]
      generalize Int.tdiv x (2 ^ (m + 1)) = q at *
      generalize Int.tmod x (2 ^ (m + 1)) = r at *
      rw [w64 (n := q) (by omega) (by omega), w64 (n := q + 1) (by omega) (by omega), w64 (n := 2 ^ (m + 1) - r) (by omega) (by omega)]
      by_cases c1 : r > 2 ^ m
      · rw [if_pos (by omega), if_pos c1]
      · rw [if_neg (by omega), if_neg c1]
        by_cases c2 : r = 2 ^ m
        · rw [if_pos (show r = 2 ^ (m + 1) - r by omega), if_pos c2, if_pos (show 0 < m + 1 by omega)]
          by_cases c3 : Int.tmod q 2 = 0
          · rw [if_pos c3, if_neg ((par _).1 c3)]
          · rw [if_neg c3, if_pos (Decidable.not_not.1 fun h => c3 ((par _).2 h))]
        · rw [if_neg (by omega), if_neg c2]
  | succ d ih =>
    intro k i hi hk
    obtain ⟨k, rfl⟩ : ∃ m, k = m + 1 := ⟨k - 1, by omega⟩
    have hps : (2 : Int) ^ (i + 1) = 2 ^ i * 2 := Int.pow_succ 2 i
    have hp := pow_pos' i
    have hle : (2 : Int) ^ (i + 1) ≤ 4611686018427387904 := by
      have : 2 ^ (i + 1) ≤ 2 ^ 62 := Nat.pow_le_pow_right (by decide) (by omega)
      have hcast : ((2 ^ (i + 1) : Nat) : Int) = (2 : Int) ^ (i + 1) := by simp
      rw [← hcast]
      omega
    simp only [pelotonref01_Shift.l0]
    rw [if_pos (by omega), w64 (n := 2 ^ i * 2) (by omega) (by omega), ← hps, w64 (n := (i : Int) + 1) (by omega) (by omega)]
    exact ih k (i + 1) (by omega) (by omega)

theorem refshift_is (x a : Int) (hx : -9223372036854775808 ≤ x ∧ x < 9223372036854775808) (k : Nat) (hk : 70 ≤ k) : pelotonref01_Shift.f k x a = some (sh x (mn (mx a 0) 62).toNat) := by
  obtain ⟨k, rfl⟩ : ∃ m, k = m + 1 := ⟨k - 1, by omega⟩
  have key : ∀ b : Int, b ≤ 62 → pelotonref01_Shift.j0 (k + 1) x b = some (sh x (mx b 0).toNat) := by
    intro b hb
    simp only [pelotonref01_Shift.j0]
    by_cases h : b ≤ 0
    · have e : (mx b 0).toNat = 0 := by unfold mx; split <;> omega
      rw [if_pos h, e]
      unfold sh
      have e1 : x % (2 : Int) ^ 0 = 0 := by simp
      have e2 : (2 : Int) ^ 0 / 2 = 0 := by decide
      have e3 : x / (2 : Int) ^ 0 = x := by simp
      rw [e1, e2, e3, if_neg (by decide), if_pos rfl, if_neg (by decide)]
    · obtain ⟨n, rfl⟩ := Int.eq_ofNat_of_zero_le (show 0 ≤ b by omega)
      have e : (mx (n : Int) 0).toNat = n := by unfold mx; split <;> omega
      rw [if_neg h, e]
      have := refshift_loop x hx n (by omega) (by omega) n k 0 (by omega) (by omega)
      simpa using this
  unfold pelotonref01_Shift.f
  by_cases h : a > 62
  · rw [if_pos h, key 62 (by decide)]
    have e : (mx 62 0).toNat = (mn (mx a 0) 62).toNat := by
      have e1 : mx a 0 = a := by unfold mx; rw [if_neg (by omega)]
      have e2 : mn a 62 = 62 := by unfold mn; rw [if_pos (by omega)]
      rw [e1, e2]
      rfl
    rw [e]
  · rw [if_neg h, key a (by omega)]
    have e : (mx a 0).toNat = (mn (mx a 0) 62).toNat := by
      have e1 : mx a 0 ≤ 62 := by unfold mx; split <;> omega
      have e2 : mn (mx a 0) 62 = mx a 0 := by unfold mn; rw [if_neg (by omega)]
      rw [e2]
    rw [← e]

theorem refT_is (i : Nat) (h : i < 33) : pelotonref02_T.f (i : Int) = some (tb i) := by
  unfold pelotonref02_T.f
  simp only [Option.bind_some]
  rw [if_pos (by omega), if_pos (by simp; omega)]
  unfold rd
  rw [Int.toNat_natCast]
  rfl

theorem refexp_tail (f q : Nat) (hf : f < 65536) (k : Nat) (hk : 70 ≤ k) :
    ((pelotonref02_T.f ((f / 2048 : Nat) : Int)).bind fun t143 => ((pelotonref02_T.f ((f / 2048 : Nat) : Int)).bind fun t144 => ((pelotonref02_T.f ((f / 2048 + 1 : Nat) : Int)).bind fun t145 => ((pelotonref01_Shift.f k (wrap64 ((wrap64 (t144 - t145)) * ((f % 2048 : Nat) : Int))) 11).bind fun t146 => (if (q : Int) > 31 then (some 0) else ((pelotonref01_Shift.f k (wrap64 (t143 - t146)) (q : Int)).bind fun t147 => (some (wrap32 (t147))))))))) = some (if q > 31 then 0 else sh (vf f) q) := by
  have hr0 := tb_range (f / 2048) (by omega)
  have hr1 := tb_range (f / 2048 + 1) (by omega)
  have hd := tb_falls (f / 2048) (f / 2048 + 1) (by omega) (by omega)
  have hv := vf_range f hf
  have hvf : tb (f / 2048) - sh ((tb (f / 2048) - tb (f / 2048 + 1)) * ((f % 2048 : Nat) : Int)) 11 = vf f := rfl
  have hm0 : 0 ≤ (tb (f / 2048) - tb (f / 2048 + 1)) * ((f % 2048 : Nat) : Int) := Int.mul_nonneg (by omega) (by omega)
  have hm1 : (tb (f / 2048) - tb (f / 2048 + 1)) * ((f % 2048 : Nat) : Int) ≤ 65536 * ((f % 2048 : Nat) : Int) := Int.mul_le_mul_of_nonneg_right (by omega) (by omega)
  rw [refT_is _ (by omega), refT_is _ (by omega)]
  simp only [Option.bind_some]
  rw [w64 (n := tb (f / 2048) - tb (f / 2048 + 1)) (by omega) (by omega), w64 (n := (tb (f / 2048) - tb (f / 2048 + 1)) * ((f % 2048 : Nat) : Int)) (by omega) (by omega), refshift_is _ _ (by omega) k hk]
  have n11 : (mn (mx 11 0) 62).toNat = 11 := by decide
  rw [n11]
  simp only [Option.bind_some]
  by_cases hq : q > 31
  · rw [if_pos (by omega), if_pos hq]
  · rw [if_neg (by omega), if_neg hq, hvf, w64 (by omega) (by omega), refshift_is _ _ (by omega) k hk]
    have nq : (mn (mx (q : Int) 0) 62).toNat = q := by
      have e1 : mx (q : Int) 0 = (q : Int) := by unfold mx; split <;> omega
      have e2 : mn (q : Int) 62 = (q : Int) := by unfold mn; rw [if_neg (by omega)]
      rw [e1, e2]
      rfl
    rw [nq]
    simp only [Option.bind_some]
    have s0 := sh_nonneg (x := vf f) (by omega) q
    have s1 := sh_self (x := vf f) (by omega) q
    rw [w32 (by omega) (by omega)]

theorem small_t (t : Nat) (h : t < 20000000) : wrap64 (t : Int) = (t : Int) ∧ Int.tmod (t : Int) 65536 = ((t % 65536 : Nat) : Int) ∧ Int.tmod (t : Int) 2048 = ((t % 65536 % 2048 : Nat) : Int) ∧ wrap64 (Int.tdiv (t : Int) 65536) = ((t / 65536 : Nat) : Int) := by
  refine ⟨w64 (by omega) (by omega), ?_, ?_, ?_⟩
  · rw [Int.tmod_eq_emod_of_nonneg (by omega)]; omega
  · rw [Int.tmod_eq_emod_of_nonneg (by omega)]; omega
  · rw [Int.tdiv_eq_ediv_of_nonneg (by omega), w64] <;> omega
theorem small_f (f : Nat) (h : f < 65536) : wrap64 (Int.tdiv (f : Int) 2048) = ((f / 2048 : Nat) : Int) ∧ wrap64 (((f / 2048 : Nat) : Int) + 1) = ((f / 2048 + 1 : Nat) : Int) := by
  refine ⟨?_, ?_⟩
  · rw [Int.tdiv_eq_ediv_of_nonneg (by omega), w64] <;> omega
  · rw [w64] <;> omega
theorem small_x (x : Int) (h0 : x ≤ 0) (h1 : -10000000 ≤ x) : ∃ t : Nat, wrap64 (Int.tdiv (wrap64 (wrap64 (-x) * 94548)) 65536) = (t : Int) ∧ t < 20000000 ∧ (-x * 94548 / 65536).toNat = t := by
  refine ⟨(-x * 94548 / 65536).toNat, ?_, by omega, rfl⟩
  rw [w64 (n := -x) (by omega) (by omega), w64 (n := -x * 94548) (by omega) (by omega), Int.tdiv_eq_ediv_of_nonneg (by omega), w64 (by omega) (by omega)]
  omega

theorem refexp_is (x : Int) (k : Nat) (hk : 70 ≤ k) : pelotonref02_Exp.f k x = some (ep x) := by
  unfold pelotonref02_Exp.f
  by_cases h0 : x > 0
  · have e : ep x = 65536 := by unfold ep; rw [if_pos (by omega)]
    rw [if_pos h0, e]
  · rw [if_neg h0]
    have e : ep x = pw ((-x * 94548 / 65536).toNat) := by
      unfold ep
      split
      · have : x = 0 := by omega
        subst this
        decide +kernel
      · rfl
    rw [e]
    by_cases h1 : x < (-10000000)
    · rw [if_pos h1]
      unfold pw
      rw [if_pos (by omega)]
    · obtain ⟨t, ht, hb, hn⟩ := small_x x (by omega) (by omega)
      rw [if_neg h1, ht, hn]
      clear ht hn e h1 h0
      obtain ⟨t1, t2, t3, t4⟩ := small_t t hb
      rw [t2, t3, t4]
      have hf : t % 65536 < 65536 := Nat.mod_lt _ (by decide)
      unfold pw
      generalize t % 65536 = f at *
      generalize t / 65536 = q at *
      obtain ⟨f1, f2⟩ := small_f f hf
      rw [f1, f2]
      exact refexp_tail f q hf k hk

theorem shares_l1 (total : Int) (xs : List Int) (ht : -2147483648 ≤ total ∧ total < 2147483648) (hx : ∀ x ∈ xs, -2147483648 ≤ x ∧ x < 2147483648) (hl : xs.length ≤ 1000) (d : Nat) :
    ∀ (k i : Nat), i + d = xs.length → d < k →
      curve_Shares.l1 k total ((xs.take i).map (share total (wsum xs)) ++ List.replicate d 0) (wsum xs) xs (xs.length : Int) (i : Int) = some (xs.map (share total (wsum xs))) := by
  have hsum := wsum_le xs 2147483647 (by decide) fun x h => by have := hx x h; omega
  have hs0 := wsum_nonneg xs
  induction d with
  | zero =>
    intro k i hi hk
    obtain ⟨k, rfl⟩ : ∃ m, k = m + 1 := ⟨k - 1, by omega⟩
    simp only [curve_Shares.l1]
    rw [if_neg (by omega), List.take_of_length_le (by omega)]
    simp
  | succ d ih =>
    intro k i hi hk
    obtain ⟨k, rfl⟩ : ∃ m, k = m + 1 := ⟨k - 1, by omega⟩
    have hlt : i < xs.length := by omega
    have ih' := ih k (i + 1) (by omega) (by omega)
    rw [take_map_succ _ _ _ hlt, List.append_assoc, List.singleton_append] at ih'
    have hxi := hx xs[i] (List.getElem_mem hlt)
    have hge := wsum_ge xs xs[i] (List.getElem_mem hlt)
    have hw : wrap64 ((i : Int) + 1) = ((i + 1 : Nat) : Int) := by rw [w64] <;> omega
    simp only [curve_Shares.l1]
    rw [if_pos (by omega), if_pos (by omega), if_pos (by omega), rd_at _ _ hlt, hw]
    have hset : ∀ v : Int, ((xs.take i).map (share total (wsum xs)) ++ List.replicate (d + 1) 0).set i v = (xs.take i).map (share total (wsum xs)) ++ v :: List.replicate d 0 := by
      intro v
      have e := set_zeros ((xs.take i).map (share total (wsum xs))) d 0 v
      rwa [List.length_map, List.length_take, Nat.min_eq_left (by omega)] at e
    by_cases h1 : xs[i] > 0
    · by_cases h2 : total > 0
      · have hp : pos xs[i] = xs[i] := by unfold pos; rw [if_pos h1]
        rw [hp] at hge
        have hq := quot_le h1 h2 hge
        have e : wrap32 (IntKind.u64.wrap (Int.tdiv (IntKind.u64.wrap (IntKind.u64.wrap xs[i] * IntKind.u64.wrap total)) (wsum xs))) = share total (wsum xs) xs[i] := by
          have hm : 0 ≤ xs[i] * total ∧ xs[i] * total < 18446744073709551616 := mul_u64 (by omega) (by omega) (by omega) (by omega)
          rw [u64w (n := xs[i]) (by omega) (by omega), u64w (n := total) (by omega) (by omega), u64w (n := xs[i] * total) hm.1 hm.2, Int.tdiv_eq_ediv_of_nonneg hm.1]
          unfold share
          rw [if_pos h1, if_pos h2]
          generalize xs[i] * total / wsum xs = q at hq ⊢
          rw [u64w (by omega) (by omega), w32 (by omega) (by omega)]
        rw [if_pos h1, if_pos h2, if_neg (by omega), if_pos (by simp; omega), Int.toNat_natCast, hset, e]
        exact ih'
      · have e : share total (wsum xs) xs[i] = 0 := by unfold share; rw [if_pos h1, if_neg (by omega)]
        rw [if_pos h1, if_neg h2]
        rw [e] at ih'
        exact ih'
    · have e : share total (wsum xs) xs[i] = 0 := by unfold share; rw [if_neg (by omega)]
      rw [if_neg h1]
      rw [e] at ih'
      exact ih'

theorem shares_l0 (total : Int) (xs : List Int) (ht : -2147483648 ≤ total ∧ total < 2147483648) (hx : ∀ x ∈ xs, -2147483648 ≤ x ∧ x < 2147483648) (hl : xs.length ≤ 1000) (d : Nat) :
    ∀ (k i : Nat), i + d = xs.length → d + xs.length + 1 < k →
      curve_Shares.l0 k total xs (List.replicate xs.length 0) (wsum (xs.take i)) xs (xs.length : Int) (i : Int) = some (xs.map (share total (wsum xs))) := by
  have hsum := wsum_le xs 2147483647 (by decide) fun x h => by have := hx x h; omega
  induction d with
  | zero =>
    intro k i hi hk
    obtain ⟨k, rfl⟩ : ∃ m, k = m + 1 := ⟨k - 1, by omega⟩
    have := shares_l1 total xs ht hx hl xs.length k 0 (by omega) (by omega)
    simp only [curve_Shares.l0]
    rw [if_neg (by omega), List.take_of_length_le (by omega)]
    simpa using this
  | succ d ih =>
    intro k i hi hk
    obtain ⟨k, rfl⟩ : ∃ m, k = m + 1 := ⟨k - 1, by omega⟩
    have hlt : i < xs.length := by omega
    have hxi := hx xs[i] (List.getElem_mem hlt)
    have hw : wrap64 ((i : Int) + 1) = ((i + 1 : Nat) : Int) := by rw [w64] <;> omega
    have hn := wsum_nonneg (xs.take i)
    have hle := wsum_take_le xs (i + 1)
    have hs := wsum_take_succ xs i hlt
    have hm : mx xs[i] 0 = pos xs[i] := by unfold mx pos; split <;> split <;> omega
    have hp := pos_nonneg xs[i]
    have hpb : pos xs[i] ≤ 2147483647 := by unfold pos; split <;> omega
    simp only [curve_Shares.l0]
    rw [if_pos (by omega), if_pos (by omega), if_pos (by omega), rd_at _ _ hlt, hw, hm, u64w (n := pos xs[i]) (by omega) (by omega), u64w (by omega) (by omega), ← hs]
    exact ih k (i + 1) (by omega) (by omega)

theorem shares_is (total : Int) (xs : List Int) (ht : -2147483648 ≤ total ∧ total < 2147483648) (hx : ∀ x ∈ xs, -2147483648 ≤ x ∧ x < 2147483648) (hl : xs.length ≤ 1000) (k : Nat) (hk : 2 * xs.length + 2 ≤ k) :
    curve_Shares.f k total xs = some (xs.map (share total (wsum xs))) := by
  unfold curve_Shares.f
  rw [if_pos (by omega), if_pos (by omega), Int.toNat_natCast]
  have := shares_l0 total xs ht hx hl xs.length k 0 (by omega) (by omega)
  simpa [wsum] using this

theorem ref_l1 (total : Int) (xs : List Int) (ht : -2147483648 ≤ total ∧ total < 2147483648) (hx : ∀ x ∈ xs, -2147483648 ≤ x ∧ x < 2147483648) (hl : xs.length ≤ 1000) (d : Nat) :
    ∀ (k i : Nat), i + d = xs.length → d < k →
      pelotonref02_Shares.l1 k total xs (wsum xs) ((xs.take i).map (share total (wsum xs))) (i : Int) = some (xs.map (share total (wsum xs))) := by
  have hsum := wsum_le xs 2147483647 (by decide) fun x h => by have := hx x h; omega
  have hs0 := wsum_nonneg xs
  induction d with
  | zero =>
    intro k i hi hk
    obtain ⟨k, rfl⟩ : ∃ m, k = m + 1 := ⟨k - 1, by omega⟩
    simp only [pelotonref02_Shares.l1]
    rw [if_neg (by omega), List.take_of_length_le (by omega)]
  | succ d ih =>
    intro k i hi hk
    obtain ⟨k, rfl⟩ : ∃ m, k = m + 1 := ⟨k - 1, by omega⟩
    have hlt : i < xs.length := by omega
    have ih' := ih k (i + 1) (by omega) (by omega)
    rw [take_map_succ _ _ _ hlt] at ih'
    have hxi := hx xs[i] (List.getElem_mem hlt)
    have hge := wsum_ge xs xs[i] (List.getElem_mem hlt)
    have hw : wrap64 ((i : Int) + 1) = ((i + 1 : Nat) : Int) := by rw [w64] <;> omega
    have hlen : ((xs.take i).map (share total (wsum xs))).length < 35184372088832 := by simp; omega
    simp only [pelotonref02_Shares.l1]
    rw [if_pos (by omega), if_pos (by omega), rd_at _ _ hlt, hw]
    by_cases h1 : xs[i] > 0
    · by_cases h2 : total > 0
      · have hp : pos xs[i] = xs[i] := by unfold pos; rw [if_pos h1]
        rw [hp] at hge
        have hq := quot_le h1 h2 hge
        have e : wrap32 (wrap64 (Int.tdiv (wrap64 (wrap64 xs[i] * wrap64 total)) (wsum xs))) = share total (wsum xs) xs[i] := by
          have hm0 : 0 ≤ xs[i] * total := Int.mul_nonneg (by omega) (by omega)
          have hm1 : xs[i] * total ≤ 2147483647 * total := Int.mul_le_mul_of_nonneg_right (by omega) (by omega)
          rw [w64 (n := xs[i]) (by omega) (by omega), w64 (n := total) (by omega) (by omega), w64 (n := xs[i] * total) (by omega) (by omega), Int.tdiv_eq_ediv_of_nonneg hm0]
          unfold share
          rw [if_pos h1, if_pos h2]
          generalize xs[i] * total / wsum xs = q at hq ⊢
          rw [w64 (by omega) (by omega), w32 (by omega) (by omega)]
        rw [if_pos h1, if_pos h2, if_neg (by omega), if_pos hlen, e]
        exact ih'
      · have e : share total (wsum xs) xs[i] = 0 := by unfold share; rw [if_pos h1, if_neg (by omega)]
        rw [if_pos h1, if_neg h2, if_pos hlen]
        rw [e] at ih'
        exact ih'
    · have e : share total (wsum xs) xs[i] = 0 := by unfold share; rw [if_neg (by omega)]
      rw [if_neg h1, if_pos hlen]
      rw [e] at ih'
      exact ih'

theorem ref_l0 (total : Int) (xs : List Int) (ht : -2147483648 ≤ total ∧ total < 2147483648) (hx : ∀ x ∈ xs, -2147483648 ≤ x ∧ x < 2147483648) (hl : xs.length ≤ 1000) (d : Nat) :
    ∀ (k i : Nat), i + d = xs.length → d + xs.length + 1 < k →
      pelotonref02_Shares.l0 k total xs (wsum (xs.take i)) (i : Int) = some (xs.map (share total (wsum xs))) := by
  have hsum := wsum_le xs 2147483647 (by decide) fun x h => by have := hx x h; omega
  induction d with
  | zero =>
    intro k i hi hk
    obtain ⟨k, rfl⟩ : ∃ m, k = m + 1 := ⟨k - 1, by omega⟩
    have := ref_l1 total xs ht hx hl xs.length k 0 (by omega) (by omega)
    simp only [pelotonref02_Shares.l0]
    rw [if_neg (by omega), List.take_of_length_le (by omega)]
    simpa using this
  | succ d ih =>
    intro k i hi hk
    obtain ⟨k, rfl⟩ : ∃ m, k = m + 1 := ⟨k - 1, by omega⟩
    have hlt : i < xs.length := by omega
    have hxi := hx xs[i] (List.getElem_mem hlt)
    have hw : wrap64 ((i : Int) + 1) = ((i + 1 : Nat) : Int) := by rw [w64] <;> omega
    have hn := wsum_nonneg (xs.take i)
    have hle := wsum_take_le xs (i + 1)
    have hs := wsum_take_succ xs i hlt
    have ih' := ih k (i + 1) (by omega) (by omega)
    simp only [pelotonref02_Shares.l0]
    rw [if_pos (by omega), if_pos (by omega), rd_at _ _ hlt, hw]
    by_cases h1 : xs[i] > 0
    · have hp : pos xs[i] = xs[i] := by unfold pos; rw [if_pos h1]
      rw [hp] at hs
      rw [if_pos h1, w64 (n := xs[i]) (by omega) (by omega), w64 (by omega) (by omega), ← hs]
      exact ih'
    · have hp : pos xs[i] = 0 := by unfold pos; rw [if_neg (by omega)]
      rw [hp, Int.add_zero] at hs
      rw [if_neg h1, ← hs]
      exact ih'

theorem ref_is (total : Int) (xs : List Int) (ht : -2147483648 ≤ total ∧ total < 2147483648) (hx : ∀ x ∈ xs, -2147483648 ≤ x ∧ x < 2147483648) (hl : xs.length ≤ 1000) (k : Nat) (hk : 2 * xs.length + 2 ≤ k) :
    pelotonref02_Shares.f k total xs = some (xs.map (share total (wsum xs))) := by
  unfold pelotonref02_Shares.f
  have := ref_l0 total xs ht hx hl xs.length k 0 (by omega) (by omega)
  simpa [wsum] using this

theorem top_take (xs : List Int) (t : Int) (i : Nat) (h : i < xs.length) (ht : IsTop t (xs.take i)) : IsTop (mx t xs[i]) (xs.take (i + 1)) := by
  rw [take_step xs i h]
  unfold mx
  refine ⟨?_, fun y hy => ?_⟩
  · split
    · exact List.mem_append_right _ (List.mem_singleton.2 rfl)
    · exact List.mem_append_left _ ht.1
  · rcases List.mem_append.1 hy with hy | hy
    · have := ht.2 y hy
      split <;> omega
    · have := List.mem_singleton.1 hy
      subst this
      split <;> omega
theorem max_loop (xs : List Int) (hl : xs.length ≤ 1000) (d : Nat) : ∀ (k i : Nat) (t : Int), i + d = xs.length → d < k → IsTop t (xs.take i) → ∃ u, slices_Max_int32_int32.l0 k xs t (i : Int) = some u ∧ IsTop u xs := by
  induction d with
  | zero =>
    intro k i t hi hk ht
    obtain ⟨k, rfl⟩ : ∃ m, k = m + 1 := ⟨k - 1, by omega⟩
    simp only [slices_Max_int32_int32.l0]
    rw [if_neg (by omega)]
    rw [List.take_of_length_le (by omega)] at ht
    exact ⟨t, rfl, ht⟩
  | succ d ih =>
    intro k i t hi hk ht
    obtain ⟨k, rfl⟩ : ∃ m, k = m + 1 := ⟨k - 1, by omega⟩
    have hlt : i < xs.length := by omega
    simp only [slices_Max_int32_int32.l0]
    rw [if_pos (by omega), if_pos (by omega), rd_at _ _ hlt, succ_is i (by omega)]
    exact ih k (i + 1) _ (by omega) (by omega) (top_take xs t i hlt ht)
theorem max_is (xs : List Int) (hl : xs.length ≤ 1000) (h0 : 0 < xs.length) (t : Int) (ht : IsTop t xs) (k : Nat) (hk : xs.length < k) : slices_Max_int32_int32.f k xs = some t := by
  unfold slices_Max_int32_int32.f
  have e : rd xs 0 = xs[0] := rd_at xs 0 h0
  have h1 : IsTop xs[0] (xs.take 1) := by
    rw [take_step xs 0 h0]
    refine ⟨by simp, fun y hy => ?_⟩
    simp at hy
    omega
  obtain ⟨u, hu, hu2⟩ := max_loop xs hl (xs.length - 1) k 1 xs[0] (by omega) (by omega) h1
  have e1 : ((1 : Nat) : Int) = 1 := rfl
  rw [e1] at hu
  rw [if_neg (by omega), if_pos (by omega), e, hu, top_one hu2 ht]
theorem top_has (xs : List Int) (h0 : 0 < xs.length) : ∃ t, IsTop t xs := by
  induction xs with
  | nil => simp at h0
  | cons x xs ih =>
    cases xs with
    | nil => exact ⟨x, by simp, fun y hy => by simp at hy; omega⟩
    | cons z zs =>
      obtain ⟨t, h1, h2⟩ := ih (by simp)
      by_cases h : t ≤ x
      · refine ⟨x, List.mem_cons_self, fun y hy => ?_⟩
        rcases List.mem_cons.1 hy with rfl | hy
        · exact Int.le_refl _
        · have := h2 y hy
          omega
      · refine ⟨t, List.mem_cons_of_mem _ h1, fun y hy => ?_⟩
        rcases List.mem_cons.1 hy with rfl | hy
        · omega
        · exact h2 y hy
theorem pwr_step (x t b n : Int) (hx : -2147483648 ≤ x ∧ x < 2147483648) (ht : -2147483648 ≤ t ∧ t < 2147483648) (hxt : x ≤ t) (hb : -2147483648 ≤ b ∧ b < 2147483648) : ((round_Shift.f (wrap64 ((wrap64 ((wrap64 x) - t)) * (wrap64 b))) n).bind fun t141 => curve_Exp.f t141) = some (pwr t b (mn (mx n 0) 62).toNat x) := by
  have h := diff_range hx ht hxt hb
  rw [w64 (n := x) (by omega) (by omega), w64 (n := b) (by omega) (by omega), w64 (n := x - t) (by omega) (by omega), w64 h.1 h.2, shift_is _ _ h]
  simp only [Option.bind_some]
  rw [exp_is _ (sh_low h _)]
  rfl
theorem bind2 {α β γ : Type} {a : Option α} {f : α → Option β} {v : β} (h : (a.bind f) = some v) (g : β → Option γ) : (a.bind fun x => (f x).bind g) = g v := by
  cases a with
  | none => simp at h
  | some x =>
    simp only [Option.bind_some] at h ⊢
    rw [h]
    rfl
theorem softmax_loop (b n t : Int) (xs : List Int) (hb : -2147483648 ≤ b ∧ b < 2147483648) (hx : ∀ x ∈ xs, -2147483648 ≤ x ∧ x < 2147483648) (ht : IsTop t xs) (hl : xs.length ≤ 1000) (d : Nat) : ∀ (k i : Nat), i + d = xs.length → d + 2 * xs.length + 2 < k →
    norm_Softmax.l0 k b n t ((xs.take i).map (pwr t b (mn (mx n 0) 62).toNat) ++ List.replicate d 0) xs (xs.length : Int) (i : Int) = some (sm t b (mn (mx n 0) 62).toNat xs) := by
  induction d with
  | zero =>
    intro k i hi hk
    obtain ⟨k, rfl⟩ : ∃ m, k = m + 1 := ⟨k - 1, by omega⟩
    have hp : ∀ x ∈ xs.map (pwr t b (mn (mx n 0) 62).toNat), -2147483648 ≤ x ∧ x < 2147483648 := by
      intro x h
      obtain ⟨y, _, rfl⟩ := List.mem_map.1 h
      have := pwr_range t b (mn (mx n 0) 62).toNat y
      omega
    have hs := shares_is 65536 (xs.map (pwr t b (mn (mx n 0) 62).toNat)) (by decide) hp (by rw [List.length_map]; exact hl) k (by rw [List.length_map]; omega)
    simp only [norm_Softmax.l0]
    rw [if_neg (by omega), List.take_of_length_le (by omega), List.replicate_zero, List.append_nil, hs]
    rfl
  | succ d ih =>
    intro k i hi hk
    obtain ⟨k, rfl⟩ : ∃ m, k = m + 1 := ⟨k - 1, by omega⟩
    have hlt : i < xs.length := by omega
    have ih' := ih k (i + 1) (by omega) (by omega)
    rw [take_map_succ _ _ _ hlt, List.append_assoc, List.singleton_append] at ih'
    have e := set_zeros ((xs.take i).map (pwr t b (mn (mx n 0) 62).toNat)) d 0 (pwr t b (mn (mx n 0) 62).toNat xs[i])
    rw [List.length_map, List.length_take, Nat.min_eq_left (by omega)] at e
    have hp := pwr_step xs[i] t b n (hx _ (List.getElem_mem hlt)) (hx _ ht.1) (ht.2 _ (List.getElem_mem hlt)) hb
    simp only [norm_Softmax.l0]
    rw [if_pos (by omega), if_pos (by omega), if_pos (by omega), rd_at _ _ hlt, bind2 hp, if_pos (by simp; omega), Int.toNat_natCast, e, succ_is i (by omega)]
    exact ih'
theorem softmax_is (b n : Int) (xs : List Int) (hb : -2147483648 ≤ b ∧ b < 2147483648) (hx : ∀ x ∈ xs, -2147483648 ≤ x ∧ x < 2147483648) (hl : xs.length ≤ 1000) (t : Int) (ht : IsTop t xs) (k : Nat) (hk : 3 * xs.length + 10 ≤ k) :
    norm_Softmax.f k b n xs = some (sm t b (mn (mx n 0) 62).toNat xs) := by
  have h0 : 0 < xs.length := List.length_pos_of_mem ht.1
  have htr := hx _ ht.1
  unfold norm_Softmax.f
  rw [if_neg (by omega), max_is xs hl h0 t ht k (by omega)]
  simp only [Option.bind_some]
  rw [if_pos (by omega), if_pos (by omega), Int.toNat_natCast, w64 (n := t) (by omega) (by omega)]
  have := softmax_loop b n t xs hb hx ht hl xs.length k 0 (by omega) (by omega)
  simpa using this
theorem softmax_nil (b n : Int) (k : Nat) : norm_Softmax.f k b n [] = some [] := rfl
theorem sm_len (t b : Int) (N : Nat) (xs : List Int) : (sm t b N xs).length = xs.length := by unfold sm; rw [List.length_map, List.length_map]
theorem sm_at (t b : Int) (N : Nat) (xs : List Int) (i : Nat) (h : i < (sm t b N xs).length) (h1 : i < xs.length) : (sm t b N xs)[i] = share 65536 (wsum (xs.map (pwr t b N))) (pwr t b N xs[i]) := by
  have e : (List.map (share 65536 (wsum (xs.map (pwr t b N)))) (xs.map (pwr t b N)))[i]'h = share 65536 (wsum (xs.map (pwr t b N))) (pwr t b N xs[i]) := by
    have e2 : (xs.map (pwr t b N))[i]'(by rw [List.length_map]; exact h1) = pwr t b N xs[i] := List.getElem_map _
    rw [← e2]
    exact List.getElem_map _
  exact e

theorem refstep (x t b n : Int) (hx : -2147483648 ≤ x ∧ x < 2147483648) (ht : -2147483648 ≤ t ∧ t < 2147483648) (hxt : x ≤ t) (hb : -2147483648 ≤ b ∧ b < 2147483648) (k : Nat) (hk : 70 ≤ k) : ((pelotonref01_Shift.f k (wrap64 ((wrap64 ((wrap64 x) - (wrap64 t))) * (wrap64 b))) n).bind fun t141 => pelotonref02_Exp.f k t141) = some (pwr t b (mn (mx n 0) 62).toNat x) := by
  have h := diff_range hx ht hxt hb
  rw [w64 (n := x) (by omega) (by omega), w64 (n := t) (by omega) (by omega), w64 (n := b) (by omega) (by omega), w64 (n := x - t) (by omega) (by omega), w64 h.1 h.2, refshift_is _ _ h k hk]
  simp only [Option.bind_some]
  rw [refexp_is _ k hk]
  rfl
theorem refsoft_l1 (b n t : Int) (xs : List Int) (hb : -2147483648 ≤ b ∧ b < 2147483648) (hx : ∀ x ∈ xs, -2147483648 ≤ x ∧ x < 2147483648) (ht : IsTop t xs) (hl : xs.length ≤ 1000) (i : Nat) (hlt : i < xs.length) (P : List Int) (hP : P.length < 35184372088832) (d : Nat) : ∀ (k j : Nat) (u : Int), j + d = xs.length → d + 100 < k → u ∈ xs → (∀ y ∈ xs.take j, y ≤ u) →
    ∃ k2, k ≤ k2 + d + 1 ∧ pelotonref05_Softmax.l1 k b n xs P (i : Int) u (j : Int) = pelotonref05_Softmax.l0 k2 b n xs (P ++ [pwr t b (mn (mx n 0) 62).toNat xs[i]]) ((i + 1 : Nat) : Int) := by
  induction d with
  | zero =>
    intro k j u hj hk hu hle
    obtain ⟨k, rfl⟩ : ∃ m, k = m + 1 := ⟨k - 1, by omega⟩
    rw [List.take_of_length_le (by omega)] at hle
    have e := top_one ht ⟨hu, hle⟩
    subst e
    have hs := refstep xs[i] t b n (hx _ (List.getElem_mem hlt)) (hx _ ht.1) (ht.2 _ (List.getElem_mem hlt)) hb k (by omega)
    refine ⟨k, by omega, ?_⟩
    simp only [pelotonref05_Softmax.l1]
    rw [if_neg (by omega), if_pos (by omega), if_pos (by omega), rd_at _ _ hlt, bind2 hs, if_pos hP, succ_is i (by omega)]
  | succ d ih =>
    intro k j u hj hk hu hle
    obtain ⟨k, rfl⟩ : ∃ m, k = m + 1 := ⟨k - 1, by omega⟩
    have hjl : j < xs.length := by omega
    simp only [pelotonref05_Softmax.l1]
    rw [if_pos (by omega), if_pos (show (0 : Int) ≤ (j : Int) by omega), rd_at _ _ hjl, succ_is j (by omega)]
    by_cases h : xs[j] > u
    · rw [if_pos h]
      obtain ⟨k2, h1, h2⟩ := ih k (j + 1) xs[j] (by omega) (by omega) (List.getElem_mem hjl) (by
        intro y hy
        rw [take_step _ _ hjl] at hy
        rcases List.mem_append.1 hy with hy | hy
        · have := hle y hy
          omega
        · have := List.mem_singleton.1 hy
          omega)
      exact ⟨k2, by omega, h2⟩
    · rw [if_neg h]
      obtain ⟨k2, h1, h2⟩ := ih k (j + 1) u (by omega) (by omega) hu (by
        intro y hy
        rw [take_step _ _ hjl] at hy
        rcases List.mem_append.1 hy with hy | hy
        · exact hle y hy
        · have := List.mem_singleton.1 hy
          omega)
      exact ⟨k2, by omega, h2⟩
theorem refsoft_l0 (b n t : Int) (xs : List Int) (hb : -2147483648 ≤ b ∧ b < 2147483648) (hx : ∀ x ∈ xs, -2147483648 ≤ x ∧ x < 2147483648) (ht : IsTop t xs) (hl : xs.length ≤ 300) (d : Nat) : ∀ (k i : Nat), i + d = xs.length → 400 * d + 1000 < k →
    pelotonref05_Softmax.l0 k b n xs ((xs.take i).map (pwr t b (mn (mx n 0) 62).toNat)) (i : Int) = some (sm t b (mn (mx n 0) 62).toNat xs) := by
  induction d with
  | zero =>
    intro k i hi hk
    obtain ⟨k, rfl⟩ : ∃ m, k = m + 1 := ⟨k - 1, by omega⟩
    have hp : ∀ x ∈ xs.map (pwr t b (mn (mx n 0) 62).toNat), -2147483648 ≤ x ∧ x < 2147483648 := by
      intro x h
      obtain ⟨y, _, rfl⟩ := List.mem_map.1 h
      have := pwr_range t b (mn (mx n 0) 62).toNat y
      omega
    have hs := ref_is 65536 (xs.map (pwr t b (mn (mx n 0) 62).toNat)) (by decide) hp (by rw [List.length_map]; omega) k (by rw [List.length_map]; omega)
    simp only [pelotonref05_Softmax.l0]
    rw [if_neg (by omega), List.take_of_length_le (by omega), hs]
    rfl
  | succ d ih =>
    intro k i hi hk
    obtain ⟨k, rfl⟩ : ∃ m, k = m + 1 := ⟨k - 1, by omega⟩
    have hlt : i < xs.length := by omega
    have hc : xs.length = 0 + xs.length := by omega
    obtain ⟨k2, h1, h2⟩ := refsoft_l1 b n t xs hb hx ht (by omega) i hlt ((xs.take i).map (pwr t b (mn (mx n 0) 62).toNat)) (by simp; omega) xs.length k 0 xs[i] (by omega) (by omega) (List.getElem_mem hlt) (by simp)
    have hk2 : 400 * d + 1000 < k2 := by
      clear h2 ih ht hx hc
      omega
    have ih' := ih k2 (i + 1) (by omega) hk2
    rw [take_map_succ _ _ _ hlt] at ih'
    simp only [pelotonref05_Softmax.l0]
    rw [if_pos (by omega), if_pos (by omega), rd_at _ _ hlt]
    exact h2.trans ih'
theorem refsoftmax_is (b n : Int) (xs : List Int) (hb : -2147483648 ≤ b ∧ b < 2147483648) (hx : ∀ x ∈ xs, -2147483648 ≤ x ∧ x < 2147483648) (hl : xs.length ≤ 300) (t : Int) (ht : IsTop t xs) (k : Nat) (hk : 200000 ≤ k) :
    pelotonref05_Softmax.f k b n xs = some (sm t b (mn (mx n 0) 62).toNat xs) := by
  unfold pelotonref05_Softmax.f
  have := refsoft_l0 b n t xs hb hx ht hl xs.length k 0 (by omega) (by omega)
  simpa using this
theorem refsoftmax_nil (b n : Int) (k : Nat) (hk : 200 ≤ k) : pelotonref05_Softmax.f k b n [] = some [] := by
  obtain ⟨k, rfl⟩ : ∃ m, k = m + 1 := ⟨k - 1, by omega⟩
  unfold pelotonref05_Softmax.f
  have hs := ref_is 65536 [] (by decide) (by simp) (by simp) k (by simp; omega)
  simp only [pelotonref05_Softmax.l0]
  rw [if_neg (by simp), hs]
  rfl

theorem ints_loop (a : List Int) (hb : a.length < 1000000) (d : Nat) : ∀ (k i : Nat), i + d = a.length → d < k → pelotonref04_Ints.l0 k a a (i : Int) = some true := by
  induction d with
  | zero =>
    intro k i hi hk
    obtain ⟨k, rfl⟩ : ∃ m, k = m + 1 := ⟨k - 1, by omega⟩
    simp only [pelotonref04_Ints.l0]
    rw [if_neg (by omega)]
  | succ d ih =>
    intro k i hi hk
    obtain ⟨k, rfl⟩ : ∃ m, k = m + 1 := ⟨k - 1, by omega⟩
    simp only [pelotonref04_Ints.l0]
    rw [if_pos (by omega), if_pos (by omega), if_pos (by omega), if_pos trivial, succ_is i (by omega)]
    exact ih k (i + 1) (by omega) (by omega)
theorem ints_same (a : List Int) (hb : a.length < 1000000) (k : Nat) (hk : a.length < k) : pelotonref04_Ints.f k a a = some true := by
  unfold pelotonref04_Ints.f
  rw [if_pos rfl]
  exact ints_loop a hb a.length k 0 (by omega) hk

theorem awake_is : ∃ K, ∀ k, K ≤ k → pelotonlaw05_awake.f k = some true := Ev.of pelotonlaw05_awake.mono (k := 200) (by decide +kernel)

theorem NormWeights : pelotonlaw05_NormWeights.Pure := by
  intro b n xs hwb _ _ _ hwx
  obtain ⟨K, hK⟩ := awake_is
  have hb := wf_i32 hwb
  have hx : ∀ x ∈ xs, -2147483648 ≤ x ∧ x < 2147483648 := fun x h => wf_i32 (hwx x h)
  obtain ⟨k, hk⟩ : ∃ m, m = K + 300000 := ⟨_, rfl⟩
  refine ⟨k + 1, ?_⟩
  unfold pelotonlaw05_NormWeights.f
  rw [hK _ (by omega)]
  simp only [Option.bind_some]
  rw [if_pos trivial]
  simp only [pelotonlaw05_NormWeights.j0]
  by_cases h : (xs.length : Int) > 200
  · rw [decide_eq_true h, if_pos rfl, hK _ (by omega)]
    rfl
  · rw [decide_eq_false h, if_neg (by decide)]
    by_cases h0 : 0 < xs.length
    · obtain ⟨t, ht⟩ := top_has xs h0
      have hl := sm_len t b (mn (mx n 0) 62).toNat xs
      rw [softmax_is b n xs hb hx (by omega) t ht k (by omega), refsoftmax_is b n xs hb hx (by omega) t ht k (by omega)]
      simp only [Option.bind_some]
      rw [ints_same _ (by omega) k (by omega)]
      rfl
    · have e : xs = [] := List.eq_nil_of_length_eq_zero (by omega)
      subst e
      rw [softmax_nil, refsoftmax_nil _ _ _ (by omega)]
      simp only [Option.bind_some]
      rw [ints_same _ (by simp) k (by simp; omega)]
      rfl

end Go.Proofs.Ytmpdkjcobpghaaa.Pure
