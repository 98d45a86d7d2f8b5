/- A row brought to one size is the reference's, of any numbers and gains. -/
import Derived.Test.YtmpdkjcobpghaaaPNormNormsx1
import Derived.Test.YtmpdkjcobpghaaaPNormNormsx2
import Derived.Test.YtmpdkjcobpghaaaPNormNormsx3
import Derived.Test.YtmpdkjcobpghaaaPNormNormsx4
import Derived.Test.YtmpdkjcobpghaaaPNormNormsx5
import Derived.Test.YtmpdkjcobpghaaaPNormNormsx6
import Derived.Test.YtmpdkjcobpghaaaEPlain
import Derived.Test.YtmpdkjcobpghaaaEShift
import Derived.Test.YtmpdkjcobpghaaaESNorm
namespace Go.Proofs.Ytmpdkjcobpghaaa.Pure
open Go.RowKit Go.Proofs.Ytmpdkjcobpghaaa.PNormNorms Go.Proofs.YtmpdkjcobpghaaaW.PrintWords Go.Proofs.YtmpdkjcobpghaaaW.PrintLast Go.Proofs.YtmpdkjcobpghaaaW.PrintMore Go.Proofs.YtmpdkjcobpghaaaPlain
set_option linter.unusedVariables false
set_option linter.unusedSimpArgs false

theorem mul64_small (a b : Int) (ha0 : 0 ≤ a) (ha : a < 4294967296) (hb0 : 0 ≤ b) (hb : b < 4294967296) : bits_Mul64.f a b = some (0, a * b) := by
  obtain ⟨hp0, hp1⟩ := mul_u64 ha0 ha hb0 hb
  have m : ∀ x : Int, 0 ≤ x → x < 18446744073709551616 → Go.bits .and .u64 x 4294967295 = x % 4294967296 := fun x h0 h1 => and_mask 32 (by decide) x h0 h1
  have da : a / 4294967296 = 0 := by omega
  have db : b / 4294967296 = 0 := by omega
  unfold bits_Mul64.f
  rw [da, db, m a ha0 (by omega), m b hb0 (by omega), Int.emod_eq_of_lt ha0 ha, Int.emod_eq_of_lt hb0 hb]
  simp only [Int.zero_mul, Int.mul_zero, Int.zero_add, Int.add_zero]
  rw [u64w (n := 0) (by decide) (by decide), u64w hp0 hp1, u64w (n := 0 + a * b / 4294967296) (by omega) (by omega)]
  simp only [Int.zero_add]
  rw [m _ (by omega) (by omega)]
  have e1 : a * b / 4294967296 / 4294967296 = 0 := by omega
  have e2 : a * b / 4294967296 % 4294967296 / 4294967296 = 0 := by omega
  rw [Int.add_zero, u64w (n := a * b / 4294967296 % 4294967296) (by omega) (by omega), e1, e2]
  rw [u64w (n := 0) (by decide) (by decide), u64w (n := 0 + 0) (by decide) (by decide)]
  rfl

theorem root_loop (n : Nat) (b : Nat) : ∀ (k r : Nat), b < k → r % 2 ^ b = 0 → r * r ≤ n → n < (r + 2 ^ b) * (r + 2 ^ b) → r + 2 ^ b ≤ 4294967296 →
    ∃ q : Nat, curve_Root.l0 k (n : Int) (r : Int) (b : Int) = some (q : Int) ∧ q * q ≤ n ∧ n < (q + 1) * (q + 1) ∧ q < 4294967296 := by
  induction b with
  | zero =>
    intro k r hk _ h1 h2 h3
    obtain ⟨k, rfl⟩ : ∃ m, k = m + 1 := ⟨k - 1, by omega⟩
    refine ⟨r, ?_, h1, by simpa using h2, by omega⟩
    simp only [curve_Root.l0]
    rw [if_neg (by decide)]
  | succ b ih =>
    intro k r hk hm h1 h2 h3
    obtain ⟨k, rfl⟩ : ∃ m, k = m + 1 := ⟨k - 1, by omega⟩
    have hb : b < 32 := by
      rcases Nat.lt_or_ge b 32 with h | h
      · exact h
      · have : 2 ^ 33 ≤ 2 ^ (b + 1) := Nat.pow_le_pow_right (by decide) (by omega)
        omega
    have hpow : 2 ^ (b + 1) = 2 ^ b * 2 := Nat.pow_succ 2 b
    have hpos : 0 < 2 ^ b := Nat.two_pow_pos b
    have hup : r + 2 ^ b < 4294967296 := by omega
    have e0 : IntKind.u64.wrap (((b + 1 : Nat) : Int) - 1) = (b : Int) := by rw [u64w] <;> omega
    have e1 : Go.bits .or .u64 (r : Int) (2 ^ b) = ((r + 2 ^ b : Nat) : Int) := by
      rw [or_pow b (r : Int) (by omega) (by omega) (by exact_mod_cast hm) (by omega)]
      simp
    simp only [curve_Root.l0]
    rw [if_pos (by omega), e0, if_pos (by omega), shl_one b (by omega), e1, mul64_small _ _ (by omega) (by omega) (by omega) (by omega)]
    simp only [Option.bind_some]
    rw [if_pos trivial]
    have hmod : (r + 2 ^ b) % 2 ^ b = 0 := by
      have : r % 2 ^ b = 0 := by
        have h := Nat.mod_mod_of_dvd r (show 2 ^ b ∣ 2 ^ (b + 1) from ⟨2, hpow⟩)
        rw [← h, hm]; simp
      simp [this]
    have hmod' : r % 2 ^ b = 0 := by simpa using hmod
    by_cases hle : ((r + 2 ^ b : Nat) : Int) * ((r + 2 ^ b : Nat) : Int) ≤ (n : Int)
    · rw [if_pos hle]
      exact ih k (r + 2 ^ b) (by omega) hmod (by exact_mod_cast hle) (by rw [show r + 2 ^ b + 2 ^ b = r + 2 ^ (b + 1) by omega]; exact h2) (by omega)
    · rw [if_neg hle]
      refine ih k r (by omega) hmod' h1 ?_ (by omega)
      have : ¬ (r + 2 ^ b) * (r + 2 ^ b) ≤ n := fun h => hle (by exact_mod_cast h)
      omega

theorem root_is (n : Nat) (hn : n < 18446744073709551616) (k : Nat) (hk : 40 ≤ k) :
    ∃ q : Nat, curve_Root.f k (n : Int) = some (q : Int) ∧ q * q ≤ n ∧ n < (q + 1) * (q + 1) ∧ q < 4294967296 := by
  have hL := bitLen_le n
  have hlt := bitLen_lt n (by simpa using hn)
  unfold curve_Root.f bits_Len64.f
  rw [if_pos (by omega), if_pos (by omega)]
  simp only [Option.bind_some, Int.toNat_natCast]
  rw [w64 (by omega) (by omega), u64w (n := (Lib.bitLen n : Int) + 1) (by omega) (by omega)]
  have e : IntKind.u64.wrap (Int.tdiv ((Lib.bitLen n : Int) + 1) 2) = (((Lib.bitLen n + 1) / 2 : Nat) : Int) := by
    rw [Int.tdiv_eq_ediv_of_nonneg (by omega), u64w] <;> omega
  rw [e]
  have h32 : 2 ^ ((Lib.bitLen n + 1) / 2) ≤ 2 ^ 32 := Nat.pow_le_pow_right (by decide) (by omega)
  refine root_loop n _ k 0 (by omega) (Nat.zero_mod _) (by omega) ?_ (by omega)
  rw [Nat.zero_add, ← Nat.pow_add]
  exact Nat.lt_of_lt_of_le hlt (Nat.pow_le_pow_right (by decide) (by omega))

theorem inverse_is (n : Nat) (h0 : n ≠ 0) (k : Nat) (hk : 40 ≤ k) :
    ∃ q : Nat, curve_Inverse.f k (n : Int) = some (q : Int) ∧ q * q ≤ 281474976710656 / n ∧ 281474976710656 / n < (q + 1) * (q + 1) ∧ q < 4294967296 := by
  have hd : 281474976710656 / n ≤ 281474976710656 := Nat.div_le_self _ _
  obtain ⟨q, hq, h⟩ := root_is (281474976710656 / n) (by omega) k hk
  refine ⟨q, ?_, h⟩
  unfold curve_Inverse.f
  rw [if_neg (by omega), Int.tdiv_eq_ediv_of_nonneg (by decide)]
  have e : (281474976710656 : Int) / (n : Int) = ((281474976710656 / n : Nat) : Int) := by simp
  rw [e, u64w (by omega) (by omega), hq]
  rfl

theorem above_is (a n m : Nat) (ha : a < 4294967296) (hn : n < 18446744073709551616) (h0 : n ≠ 0) (hm : m < 18446744073709551616) :
    pelotonref02_above.f (a : Int) (n : Int) (m : Int) = some (decide (m < a * a * n)) := by
  unfold pelotonref02_above.f
  by_cases ha0 : a = 0
  · subst ha0
    rw [if_pos (by rfl)]
    simp
  · rw [if_neg (by omega), if_neg (by omega), Int.tdiv_eq_ediv_of_nonneg (a := (m : Int)) (by omega)]
    have h1 : m / n / a < a ↔ m / n < a * a := Nat.div_lt_iff_lt_mul (by omega)
    have h2 : m / n < a * a ↔ m < a * a * n := Nat.div_lt_iff_lt_mul (by omega)
    have hd : m / n ≤ m := Nat.div_le_self _ _
    have hd2 : m / n / a ≤ m / n := Nat.div_le_self _ _
    have e : (m : Int) / (n : Int) = ((m / n : Nat) : Int) := by simp
    have e2 : ((m / n : Nat) : Int) / (a : Int) = ((m / n / a : Nat) : Int) := by simp
    rw [e]
    have h3 := h1.trans h2
    clear h1 h2 e
    generalize m / n / a = y at *
    generalize m / n = x at *
    rw [u64w (n := (x : Int)) (by omega) (by omega), Int.tdiv_eq_ediv_of_nonneg (by omega), e2, u64w (by omega) (by omega)]
    congr 1
    rw [decide_eq_decide, ← h3]
    omega

theorem greatest_loop (n m : Nat) (hn : n < 18446744073709551616) (h0 : n ≠ 0) (hm : m < 18446744073709551616) (d : Nat) : ∀ (k a b : Nat), d < k → a < b → b ≤ 4294967296 → b - a ≤ 2 ^ d → a * a * n ≤ m → m < b * b * n →
    ∃ q : Nat, pelotonref02_greatest.l0 k (n : Int) (m : Int) (a : Int) (b : Int) = some (q : Int) ∧ q * q * n ≤ m ∧ m < (q + 1) * (q + 1) * n := by
  induction d with
  | zero =>
    intro k a b hk hab hb hd h1 h2
    obtain ⟨k, rfl⟩ : ∃ m, k = m + 1 := ⟨k - 1, by omega⟩
    have e : b = a + 1 := by simp at hd; omega
    subst e
    refine ⟨a, ?_, h1, h2⟩
    simp only [pelotonref02_greatest.l0]
    rw [if_neg (by rw [u64w] <;> omega)]
  | succ d ih =>
    intro k a b hk hab hb hd h1 h2
    obtain ⟨k, rfl⟩ : ∃ m, k = m + 1 := ⟨k - 1, by omega⟩
    have hpow : 2 ^ (d + 1) = 2 ^ d * 2 := Nat.pow_succ 2 d
    have hpos : 0 < 2 ^ d := Nat.two_pow_pos d
    simp only [pelotonref02_greatest.l0]
    by_cases hs : b - a ≤ 1
    · have e : b = a + 1 := by omega
      subst e
      refine ⟨a, ?_, h1, h2⟩
      rw [if_neg (by rw [u64w] <;> omega)]
    · rw [if_pos (by rw [u64w] <;> omega)]
      have e : IntKind.u64.wrap (Int.tdiv (IntKind.u64.wrap ((a : Int) + (b : Int))) 2) = (((a + b) / 2 : Nat) : Int) := by
        rw [u64w (n := (a : Int) + (b : Int)) (by omega) (by omega), Int.tdiv_eq_ediv_of_nonneg (by omega), u64w] <;> omega
      rw [e, above_is _ n m (by omega) hn h0 hm]
      simp only [Option.bind_some]
      by_cases hc : m < (a + b) / 2 * ((a + b) / 2) * n
      · rw [decide_eq_true hc, if_pos rfl]
        exact ih k a ((a + b) / 2) (by omega) (by omega) (by omega) (by omega) h1 hc
      · rw [decide_eq_false hc, if_neg (by decide)]
        exact ih k ((a + b) / 2) b (by omega) (by omega) (by omega) (by omega) (by omega) h2

theorem greatest_is (n m : Nat) (hn : n < 18446744073709551616) (h0 : n ≠ 0) (hm : m < 18446744073709551616) (k : Nat) (hk : 40 ≤ k) :
    ∃ q : Nat, pelotonref02_greatest.f k (n : Int) (m : Int) = some (q : Int) ∧ q * q * n ≤ m ∧ m < (q + 1) * (q + 1) * n := by
  unfold pelotonref02_greatest.f
  refine greatest_loop n m hn h0 hm 32 k 0 4294967296 (by omega) (by omega) (by omega) (by decide) (by omega) ?_
  have : 4294967296 * 4294967296 * 1 ≤ 4294967296 * 4294967296 * n := Nat.mul_le_mul_left _ (by omega)
  omega

theorem shift_is (x a : Int) (hx : -9223372036854775808 ≤ x ∧ x < 9223372036854775808) : round_Shift.f x a = some (sh x (mn (mx a 0) 62).toNat) := by
  have hn0 : 0 ≤ mn (mx a 0) 62 ∧ mn (mx a 0) 62 ≤ 62 := by unfold mn mx; split <;> split <;> omega
  unfold round_Shift.f
  generalize hN : mn (mx a 0) 62 = N at *
  obtain ⟨n, rfl⟩ := Int.eq_ofNat_of_zero_le hn0.1
  rw [Int.toNat_natCast]
  have hn : n ≤ 62 := by omega
  have hlt : 2 ^ n ≤ 2 ^ 62 := Nat.pow_le_pow_right (by decide) hn
  have hp := pow_pos' n
  have hcast : ((2 ^ n : Nat) : Int) = (2 : Int) ^ n := by simp
  have hle : (2 : Int) ^ n ≤ 4611686018427387904 := by rw [← hcast]; omega
  have e1 : IntKind.u64.wrap ((2 : Int) ^ n) = 2 ^ n := u64w (by omega) (by omega)
  have e2 : IntKind.u64.wrap ((2 : Int) ^ n - 1) = 2 ^ n - 1 := u64w (by omega) (by omega)
  have e3 : IntKind.u64.wrap x % 2 ^ n = x % 2 ^ n := by
    rw [IntKind.wrap_u64]
    refine Int.emod_emod_of_dvd x ⟨2 ^ (64 - n), ?_⟩
    rw [← Int.pow_add, show n + (64 - n) = 64 by omega]
    decide
  rw [e1, e2, and_any .u64 (Or.inr rfl) n (by omega), e3]
  have e4 : Go.bits .and .i64 (x / 2 ^ n) 1 = x / 2 ^ n % 2 := and_any .i64 (Or.inl rfl) 1 (by decide) _
  rw [e4]
  have hw : (0 < n → wrap64 (x / 2 ^ n + 1) = x / 2 ^ n + 1) := by
    intro h
    have h2 : (2 : Int) ≤ 2 ^ n := by
      have : 2 ^ 1 ≤ 2 ^ n := Nat.pow_le_pow_right (by decide) h
      rw [← hcast]
      omega
    have hd1 : x / 2 ^ n < 9223372036854775807 := by
      have hm : 9223372036854775807 * 2 ≤ 9223372036854775807 * (2 : Int) ^ n := Int.mul_le_mul_of_nonneg_left h2 (by decide)
      exact Int.ediv_lt_of_lt_mul hp (by omega)
    have hd0 : -9223372036854775808 ≤ x / 2 ^ n := by
      have hm : -9223372036854775808 * (2 : Int) ^ n ≤ -9223372036854775808 * 1 := Int.mul_le_mul_of_nonpos_left (by decide) (by omega)
      exact Int.le_ediv_of_mul_le hp (by omega)
    rw [w64 (by omega) (by omega)]
  unfold sh
  by_cases c1 : x % 2 ^ n > 2 ^ n / 2
  · have h0 : 0 < n := by
      rcases Nat.eq_zero_or_pos n with h | h
      · subst h
        have : x % 2 ^ 0 = 0 := by simp
        rw [this] at c1
        exact absurd c1 (by decide)
      · exact h
    rw [if_pos c1, if_pos c1, hw h0]
  · rw [if_neg c1, if_neg c1]
    by_cases c2 : x % 2 ^ n = 2 ^ n / 2
    · rw [if_pos c2, if_pos c2]
      by_cases h0 : 0 < n
      · rw [if_pos (by omega), if_pos h0, hw h0]
        split <;> rfl
      · rw [if_neg (by omega), if_neg h0]
    · rw [if_neg c2, if_neg c2]

theorem step_is (i : Nat) (h : i < 33) : curve_step.f (i : Int) = some (tb i) := by
  unfold curve_step.f
  rw [if_pos (by omega), if_pos (by omega), Int.toNat_natCast]
  rfl

theorem exp_is (x : Int) (hx : -9223372036854775808 ≤ x ∧ x < 9223372036854775808) : curve_Exp.f x = some (ep x) := by
  unfold curve_Exp.f ep
  by_cases h0 : x ≥ 0
  · rw [if_pos h0, if_pos h0]
  · rw [if_neg h0, if_neg (show ¬ 0 ≤ x by omega)]
    by_cases h1 : x < (-4294967296)
    · rw [if_pos h1]
      unfold pw
      rw [if_pos (by omega)]
    · rw [if_neg h1, w64 (n := -x) (by omega) (by omega), w64 (n := -x * 94548) (by omega) (by omega)]
      obtain ⟨t, ht⟩ : ∃ t : Nat, -x * 94548 / 65536 = (t : Int) := Int.eq_ofNat_of_zero_le (by omega)
      rw [ht, Int.toNat_natCast]
      unfold pw
      by_cases hq : t / 65536 > 31
      · rw [if_pos (by omega), if_pos hq]
      · have e1 : Go.bits .and .i64 (t : Int) 65535 = ((t % 65536 : Nat) : Int) := by
          have := and_any .i64 (Or.inl rfl) 16 (by decide) (t : Int)
          have e : ((2 : Int) ^ 16 - 1) = 65535 := by decide
          have e' : ((2 : Int) ^ 16) = 65536 := by decide
          rw [e, e'] at this
          rw [this]
          simp
        have hf : t % 65536 < 65536 := Nat.mod_lt _ (by decide)
        have hqd : (t : Int) / 65536 = ((t / 65536 : Nat) : Int) := by simp
        rw [if_neg (by omega), if_neg hq, e1, hqd]
        generalize t % 65536 = f at *
        generalize t / 65536 = q at *
        have e2 : Go.bits .and .i64 (f : Int) 2047 = ((f % 2048 : Nat) : Int) := by
          have := and_any .i64 (Or.inl rfl) 11 (by decide) (f : Int)
          have e : ((2 : Int) ^ 11 - 1) = 2047 := by decide
          have e' : ((2 : Int) ^ 11) = 2048 := by decide
          rw [e, e'] at this
          rw [this]
          simp
        have e3 : (f : Int) / 2048 = ((f / 2048 : Nat) : Int) := by simp
        have e4 : wrap64 (((f / 2048 : Nat) : Int) + 1) = ((f / 2048 + 1 : Nat) : Int) := by rw [w64] <;> omega
        rw [e2, e3, e4, step_is _ (by omega), step_is _ (by omega)]
        simp only [Option.bind_some]
        have hr0 := tb_range (f / 2048) (by omega)
        have hr1 := tb_range (f / 2048 + 1) (by omega)
        have hd := tb_falls (f / 2048) (f / 2048 + 1) (by omega) (by omega)
        have hv := vf_range f hf
        have hvf : tb (f / 2048) - sh ((tb (f / 2048) - tb (f / 2048 + 1)) * ((f % 2048 : Nat) : Int)) 11 = vf f := rfl
        have hm0 : 0 ≤ (tb (f / 2048) - tb (f / 2048 + 1)) * ((f % 2048 : Nat) : Int) := Int.mul_nonneg (by omega) (by omega)
        have hm1 : (tb (f / 2048) - tb (f / 2048 + 1)) * ((f % 2048 : Nat) : Int) ≤ 65536 * ((f % 2048 : Nat) : Int) := Int.mul_le_mul_of_nonneg_right (by omega) (by omega)
        rw [w64 (n := tb (f / 2048) - tb (f / 2048 + 1)) (by omega) (by omega), w64 (n := (tb (f / 2048) - tb (f / 2048 + 1)) * ((f % 2048 : Nat) : Int)) (by omega) (by omega), shift_is _ _ (by omega)]
        have n11 : (mn (mx 11 0) 62).toNat = 11 := by decide
        rw [n11]
        simp only [Option.bind_some]
        rw [hvf, w64 (by omega) (by omega), shift_is _ _ (by omega)]
        have nq : (mn (mx (q : Int) 0) 62).toNat = q := by unfold mn mx; split <;> split <;> omega
        rw [nq]
        simp only [Option.bind_some]
        have s0 := sh_nonneg (x := vf f) (by omega) q
        have s1 := sh_self (x := vf f) (by omega) q
        rw [w32 (by omega) (by omega)]

theorem refshift_loop (x : Int) (hx : -9223372036854775808 ≤ x ∧ x < 9223372036854775808) (n : Nat) (hn : 0 < n) (hn2 : n ≤ 62) (d : Nat) : ∀ (k i : Nat), i + d = n → d < k →
    pelotonref01_Shift.l0 k x (n : Int) (2 ^ i) (i : Int) = some (sh x n) := by
  induction d with
  | zero =>
    intro k i hi hk
    obtain ⟨k, rfl⟩ : ∃ m, k = m + 1 := ⟨k - 1, by omega⟩
    obtain rfl : i = n := by omega
    have hp := pow_pos' i
    obtain ⟨m, rfl⟩ : ∃ m, i = m + 1 := ⟨i - 1, by omega⟩
    have hpm := pow_pos' m
    have hps : (2 : Int) ^ (m + 1) = 2 ^ m * 2 := Int.pow_succ 2 m
    have hle : (2 : Int) ^ (m + 1) ≤ 4611686018427387904 := by
      have : 2 ^ (m + 1) ≤ 2 ^ 62 := Nat.pow_le_pow_right (by decide) hn2
      have hcast : ((2 ^ (m + 1) : Nat) : Int) = (2 : Int) ^ (m + 1) := by simp
      rw [← hcast]
      omega
    have hfl : -4611686018427387904 ≤ x / 2 ^ (m + 1) ∧ x / 2 ^ (m + 1) < 4611686018427387904 := by
      refine ⟨Int.le_ediv_of_mul_le hp ?_, Int.ediv_lt_of_lt_mul hp ?_⟩
      · have hm : -4611686018427387904 * (2 : Int) ^ (m + 1) ≤ -4611686018427387904 * 2 := Int.mul_le_mul_of_nonpos_left (by decide) (by omega)
        omega
      · have hm : 4611686018427387904 * 2 ≤ 4611686018427387904 * (2 : Int) ^ (m + 1) := Int.mul_le_mul_of_nonneg_left (by omega) (by decide)
        omega
    have hdm := Int.mul_tdiv_add_tmod x (2 ^ (m + 1))
    have hlt := Int.tmod_lt_of_pos x hp
    have hgt : -(2 ^ (m + 1)) < Int.tmod x (2 ^ (m + 1)) := by
      rcases Int.le_total 0 x with h | h
      · have := Int.tmod_nonneg (2 ^ (m + 1)) h
        omega
      · have h1 : Int.tmod (-x) (2 ^ (m + 1)) = - Int.tmod x (2 ^ (m + 1)) := Int.neg_tmod x _
        have := Int.tmod_lt_of_pos (-x) hp
        omega
    simp only [pelotonref01_Shift.l0]
    rw [if_neg (by omega), if_neg (by omega)]
    unfold sh
    have hh : (2 : Int) ^ (m + 1) / 2 = 2 ^ m := by rw [hps]; omega
    rw [hh]
    have par : ∀ z : Int, (Int.tmod z 2 = 0) ↔ ¬ z % 2 = 1 := by
      intro z
      rw [← Int.dvd_iff_tmod_eq_zero, Int.dvd_iff_emod_eq_zero]
      omega
    by_cases hneg : Int.tmod x (2 ^ (m + 1)) < 0
    · have huq : x / 2 ^ (m + 1) = Int.tdiv x (2 ^ (m + 1)) - 1 ∧ x % 2 ^ (m + 1) = Int.tmod x (2 ^ (m + 1)) + 2 ^ (m + 1) := by
        refine (Int.ediv_emod_unique hp).2 ⟨?_, by omega, by omega⟩
        rw [Int.mul_sub, Int.mul_one]
        omega
      rw [if_pos hneg]
      rw [huq.1] at hfl ⊢
      rw [huq.2]
      generalize Int.tdiv x (2 ^ (m + 1)) = q at *
      generalize Int.tmod x (2 ^ (m + 1)) = r at *
      rw [w64 (n := q) (by omega) (by omega), w64 (n := q - 1) (by omega) (by omega), w64 (n := q - 1 + 1) (by omega) (by omega), w64 (n := r + 2 ^ (m + 1)) (by omega) (by omega), w64 (n := 2 ^ (m + 1) - (r + 2 ^ (m + 1))) (by omega) (by omega)]
      by_cases c1 : r + 2 ^ (m + 1) > 2 ^ m
      · rw [if_pos (by omega), if_pos c1]
      · rw [if_neg (by omega), if_neg c1]
        by_cases c2 : r + 2 ^ (m + 1) = 2 ^ m
        · rw [if_pos (show r + 2 ^ (m + 1) = 2 ^ (m + 1) - (r + 2 ^ (m + 1)) by omega), if_pos c2, if_pos (show 0 < m + 1 by omega)]
          by_cases c3 : Int.tmod (q - 1) 2 = 0
          · rw [if_pos c3, if_neg ((par _).1 c3)]
          · rw [if_neg c3, if_pos (Decidable.not_not.1 fun h => c3 ((par _).2 h))]
        · rw [if_neg (by omega), if_neg c2]
    · have huq : x / 2 ^ (m + 1) = Int.tdiv x (2 ^ (m + 1)) ∧ x % 2 ^ (m + 1) = Int.tmod x (2 ^ (m + 1)) := (Int.ediv_emod_unique hp).2 ⟨by omega, by omega, by omega⟩
      rw [if_neg hneg]
      rw [huq.1] at hfl ⊢
      rw [huq.2]
      generalize Int.tdiv x (2 ^ (m + 1)) = q at *
      generalize Int.tmod x (2 ^ (m + 1)) = r at *
      rw [w64 (n := q) (by omega) (by omega), w64 (n := q + 1) (by omega) (by omega), w64 (n := 2 ^ (m + 1) - r) (by omega) (by omega)]
      by_cases c1 : r > 2 ^ m
      · rw [if_pos (by omega), if_pos c1]
      · rw [if_neg (by omega), if_neg c1]
        by_cases c2 : r = 2 ^ m
        · rw [if_pos (show r = 2 ^ (m + 1) - r by omega), if_pos c2, if_pos (show 0 < m + 1 by omega)]
          by_cases c3 : Int.tmod q 2 = 0
          · rw [if_pos c3, if_neg ((par _).1 c3)]
          · rw [if_neg c3, if_pos (Decidable.not_not.1 fun h => c3 ((par _).2 h))]
        · rw [if_neg (by omega), if_neg c2]
  | succ d ih =>
    intro k i hi hk
    obtain ⟨k, rfl⟩ : ∃ m, k = m + 1 := ⟨k - 1, by omega⟩
    have hps : (2 : Int) ^ (i + 1) = 2 ^ i * 2 := Int.pow_succ 2 i
    have hp := pow_pos' i
    have hle : (2 : Int) ^ (i + 1) ≤ 4611686018427387904 := by
      have : 2 ^ (i + 1) ≤ 2 ^ 62 := Nat.pow_le_pow_right (by decide) (by omega)
      have hcast : ((2 ^ (i + 1) : Nat) : Int) = (2 : Int) ^ (i + 1) := by simp
      rw [← hcast]
      omega
    simp only [pelotonref01_Shift.l0]
    rw [if_pos (by omega), w64 (n := 2 ^ i * 2) (by omega) (by omega), ← hps, w64 (n := (i : Int) + 1) (by omega) (by omega)]
    exact ih k (i + 1) (by omega) (by omega)

theorem refshift_is (x a : Int) (hx : -9223372036854775808 ≤ x ∧ x < 9223372036854775808) (k : Nat) (hk : 70 ≤ k) : pelotonref01_Shift.f k x a = some (sh x (mn (mx a 0) 62).toNat) := by
  obtain ⟨k, rfl⟩ : ∃ m, k = m + 1 := ⟨k - 1, by omega⟩
  have key : ∀ b : Int, b ≤ 62 → pelotonref01_Shift.j0 (k + 1) x b = some (sh x (mx b 0).toNat) := by
    intro b hb
    simp only [pelotonref01_Shift.j0]
    by_cases h : b ≤ 0
    · have e : (mx b 0).toNat = 0 := by unfold mx; split <;> omega
      rw [if_pos h, e]
      unfold sh
      have e1 : x % (2 : Int) ^ 0 = 0 := by simp
      have e2 : (2 : Int) ^ 0 / 2 = 0 := by decide
      have e3 : x / (2 : Int) ^ 0 = x := by simp
      rw [e1, e2, e3, if_neg (by decide), if_pos rfl, if_neg (by decide)]
    · obtain ⟨n, rfl⟩ := Int.eq_ofNat_of_zero_le (show 0 ≤ b by omega)
      have e : (mx (n : Int) 0).toNat = n := by unfold mx; split <;> omega
      rw [if_neg h, e]
      have := refshift_loop x hx n (by omega) (by omega) n k 0 (by omega) (by omega)
      simpa using this
  unfold pelotonref01_Shift.f
  by_cases h : a > 62
  · rw [if_pos h, key 62 (by decide)]
    have e : (mx 62 0).toNat = (mn (mx a 0) 62).toNat := by
      have e1 : mx a 0 = a := by unfold mx; rw [if_neg (by omega)]
      have e2 : mn a 62 = 62 := by unfold mn; rw [if_pos (by omega)]
      rw [e1, e2]
      rfl
    rw [e]
  · rw [if_neg h, key a (by omega)]
    have e : (mx a 0).toNat = (mn (mx a 0) 62).toNat := by
      have e1 : mx a 0 ≤ 62 := by unfold mx; split <;> omega
      have e2 : mn (mx a 0) 62 = mx a 0 := by unfold mn; rw [if_neg (by omega)]
      rw [e2]
    rw [← e]

theorem tame_is (x : Int) (hx : -2147483648 ≤ x ∧ x < 2147483648) : norm_tame.f x = some (tm x) := by
  unfold norm_tame.f
  rw [w64 (by omega) (by omega)]
  rfl
theorem sat_is (x : Int) : round_Sat8.f x = some (s8 x) := by
  have h := s8_range x
  unfold round_Sat8.f round_near_int8.f
  simp only [Option.bind_some]
  show some (IntKind.i8.wrap (s8 x)) = some (s8 x)
  rw [i8w h.1 h.2]
theorem sq_sum (s x : Int) (h0 : 0 ≤ s) (h1 : s < 9000000000000000000) : IntKind.u64.wrap (s + IntKind.u64.wrap (wrap64 (tm x * tm x))) = s + tm x * tm x := by
  have h := sq_range x
  generalize tm x * tm x = y at *
  rw [w64 (n := y) (by omega) (by omega), u64w (n := y) (by omega) (by omega), u64w (by omega) (by omega)]
/-- A row's mean square. -/
def ms (xs : List Int) : Int := sqs xs / (xs.length : Int)
theorem ms_range (xs : List Int) (hl : xs.length ≤ 1000) : 0 ≤ ms xs ∧ ms xs < 9000000000000000000 := by
  have h := sqs_range xs
  have h1 : sqs xs / (xs.length : Int) ≤ sqs xs := Int.ediv_le_self _ h.1
  have h2 : 0 ≤ sqs xs / (xs.length : Int) := Int.ediv_nonneg h.1 (by omega)
  have h3 : (xs.length : Int) * 70368744177664 ≤ 1000 * 70368744177664 := by omega
  unfold ms
  omega
theorem ms_is (xs : List Int) (hl : xs.length ≤ 1000) (h0 : 0 < xs.length) : IntKind.u64.wrap (Int.tdiv (sqs xs) (IntKind.u64.wrap (xs.length : Int))) = ms xs := by
  have h := ms_range xs hl
  have hs := sqs_range xs
  rw [u64w (n := (xs.length : Int)) (by omega) (by omega), Int.tdiv_eq_ediv_of_nonneg hs.1]
  unfold ms at *
  rw [u64w (by omega) (by omega)]
theorem len_u (xs : List Int) (hl : xs.length ≤ 1000) : IntKind.u64.wrap (xs.length : Int) = (xs.length : Int) := u64w (by omega) (by omega)
theorem sqs_small (xs : List Int) (hl : xs.length ≤ 1000) (i : Nat) : 0 ≤ sqs (xs.take i) ∧ sqs (xs.take i) < 9000000000000000000 := by
  have h := sqs_range (xs.take i)
  have h1 : (xs.take i).length ≤ 1000 := by rw [List.length_take]; omega
  omega
theorem square_loop (xs : List Int) (hx : ∀ x ∈ xs, -2147483648 ≤ x ∧ x < 2147483648) (hl : xs.length ≤ 1000) (h0 : 0 < xs.length) (d : Nat) : ∀ (k i : Nat), i + d = xs.length → d < k →
    norm_square.l0 k xs (sqs (xs.take i)) xs (xs.length : Int) (i : Int) = some (ms xs) := by
  induction d with
  | zero =>
    intro k i hi hk
    obtain ⟨k, rfl⟩ : ∃ m, k = m + 1 := ⟨k - 1, by omega⟩
    simp only [norm_square.l0]
    rw [if_neg (by omega), List.take_of_length_le (by omega), ms_is xs hl h0, len_u xs hl, if_neg (by omega)]
  | succ d ih =>
    intro k i hi hk
    obtain ⟨k, rfl⟩ : ∃ m, k = m + 1 := ⟨k - 1, by omega⟩
    have hlt : i < xs.length := by omega
    have ih' := ih k (i + 1) (by omega) (by omega)
    rw [sqs_take _ _ hlt] at ih'
    have hs := sqs_small xs hl i
    simp only [norm_square.l0]
    rw [if_pos (by omega), if_pos (by omega), if_pos (by omega), rd_at _ _ hlt, tame_is _ (hx _ (List.getElem_mem hlt))]
    simp only [Option.bind_some]
    rw [sq_sum _ _ hs.1 hs.2, succ_is i (by omega)]
    exact ih'
theorem square_is (xs : List Int) (hx : ∀ x ∈ xs, -2147483648 ≤ x ∧ x < 2147483648) (hl : xs.length ≤ 1000) (h0 : 0 < xs.length) (k : Nat) (hk : xs.length < k) : norm_square.f k xs = some (ms xs) := by
  unfold norm_square.f
  have := square_loop xs hx hl h0 xs.length k 0 (by omega) hk
  simpa [sqs] using this

/-- One by a root. -/
def InvOf (n q : Nat) : Prop := (n = 0 ∧ q = 16777216) ∨ (n ≠ 0 ∧ q * q ≤ 281474976710656 / n ∧ 281474976710656 / n < (q + 1) * (q + 1))
theorem invof_one {n p q : Nat} (h1 : InvOf n p) (h2 : InvOf n q) : p = q := by
  rcases h1 with ⟨a, b⟩ | ⟨a, b, c⟩ <;> rcases h2 with ⟨d, e⟩ | ⟨d, e, f⟩
  · omega
  · exact absurd a d
  · exact absurd d a
  · exact root_one b c e f
theorem invof_small {n q : Nat} (h : InvOf n q) : q ≤ 16777216 := by
  rcases h with ⟨_, b⟩ | ⟨a, b, c⟩
  · omega
  · have hd : 281474976710656 / n ≤ 281474976710656 := Nat.div_le_self _ _
    rcases Nat.lt_or_ge 16777216 q with h | h
    · have : 16777217 * 16777217 ≤ q * q := Nat.mul_le_mul h h
      omega
    · exact h
theorem inv_is (n : Nat) : ∃ q : Nat, InvOf n q ∧ ∀ k, 40 ≤ k → curve_Inverse.f k (n : Int) = some (q : Int) := by
  by_cases h0 : n = 0
  · subst h0
    exact ⟨16777216, Or.inl ⟨rfl, rfl⟩, fun k hk => rfl⟩
  · obtain ⟨q, hq, q1, q2, _⟩ := inverse_is n h0 40 (Nat.le_refl _)
    refine ⟨q, Or.inr ⟨h0, q1, q2⟩, fun k hk => ?_⟩
    obtain ⟨p, hp, p1, p2, _⟩ := inverse_is n h0 k hk
    rw [hp, root_one p1 p2 q1 q2]

/-- A row brought to one size. -/
def nrow (q : Int) (gains xs : List Int) : List Int := List.zipWith (nrm q) xs gains
theorem nrow_len (q : Int) (gains xs : List Int) (h : gains.length = xs.length) : (nrow q gains xs).length = xs.length := by
  unfold nrow
  rw [List.length_zipWith, h, Nat.min_self]
theorem nrow_at (q : Int) (gains xs : List Int) (i : Nat) (h : i < (nrow q gains xs).length) (h1 : i < xs.length) (h2 : i < gains.length) : (nrow q gains xs)[i] = s8 (sh (tm xs[i] * q * gains[i]) 23) := by
  have e : (List.zipWith (nrm q) xs gains)[i]'h = nrm q xs[i] gains[i] := List.getElem_zipWith
  exact e
theorem n23 : (mn (mx 23 0) 62).toNat = 23 := by decide
theorem norm_step (q x g : Int) (hq : 0 ≤ q ∧ q ≤ 16777216) (hg : -128 ≤ g ∧ g < 128) : round_Shift.f (wrap64 ((wrap64 (tm x * q)) * (wrap64 g))) 23 = some (sh (tm x * q * g) 23) := by
  have h := nrm_small q x g hq hg
  rw [w64 (n := g) (by omega) (by omega)]
  generalize hp : tm x * q = p at *
  rw [w64 h.1.1 h.1.2, w64 h.2.1 h.2.2, shift_is _ _ h.2, n23]
theorem norm_loop (q : Int) (hq : 0 ≤ q ∧ q ≤ 16777216) (gains xs : List Int) (hg : ∀ x ∈ gains, -128 ≤ x ∧ x < 128) (hx : ∀ x ∈ xs, -2147483648 ≤ x ∧ x < 2147483648) (hlen : gains.length = xs.length) (hl : xs.length ≤ 1000) (d : Nat) : ∀ (k i : Nat), i + d = xs.length → d < k →
    norm_Norm.l0 k gains q ((nrow q gains xs).take i ++ List.replicate d 0) xs (xs.length : Int) (i : Int) = some (nrow q gains xs, 0) := by
  have hR := nrow_len q gains xs hlen
  induction d with
  | zero =>
    intro k i hi hk
    obtain ⟨k, rfl⟩ : ∃ m, k = m + 1 := ⟨k - 1, by omega⟩
    simp only [norm_Norm.l0]
    rw [if_neg (by omega), List.take_of_length_le (by omega)]
    simp
  | succ d ih =>
    intro k i hi hk
    obtain ⟨k, rfl⟩ : ∃ m, k = m + 1 := ⟨k - 1, by omega⟩
    have hlt : i < xs.length := by omega
    have hlt2 : i < gains.length := by omega
    have hlt3 : i < (nrow q gains xs).length := by omega
    have ih' := ih k (i + 1) (by omega) (by omega)
    have hll : (i : Int) < (((nrow q gains xs).take i ++ List.replicate (d + 1) 0).length : Int) := by simp; omega
    have hst := set_step (nrow q gains xs) i d (by omega)
    simp only [norm_Norm.l0]
    rw [if_pos (by omega), if_pos (by omega), if_pos (by omega), rd_at _ _ hlt, tame_is _ (hx _ (List.getElem_mem hlt))]
    simp only [Option.bind_some]
    rw [if_pos (by omega), rd_at gains _ hlt2, norm_step q xs[i] gains[i] hq (hg _ (List.getElem_mem hlt2))]
    simp only [Option.bind_some]
    rw [sat_is]
    simp only [Option.bind_some]
    rw [if_pos hll, Int.toNat_natCast, ← nrow_at q gains xs i hlt3 hlt hlt2, hst, succ_is i (by omega)]
    exact ih'
theorem norm_is (gains xs : List Int) (hg : ∀ x ∈ gains, -128 ≤ x ∧ x < 128) (hx : ∀ x ∈ xs, -2147483648 ≤ x ∧ x < 2147483648) (hlen : gains.length = xs.length) (hl : xs.length ≤ 1000) :
    ∃ q : Nat, InvOf (ms xs).toNat q ∧ ∀ k, xs.length + 60 ≤ k → norm_Norm.f k gains xs = some (nrow q gains xs, 0) := by
  obtain ⟨q, hq, hk⟩ := inv_is (ms xs).toNat
  refine ⟨q, hq, fun k hk2 => ?_⟩
  obtain ⟨k, rfl⟩ : ∃ m, k = m + 1 := ⟨k - 1, by omega⟩
  have hq2 := invof_small hq
  have hm := ms_range xs hl
  unfold norm_Norm.f
  rw [if_pos (by omega), decide_eq_false (show ¬ (xs.length : Int) > 4096 by omega)]
  simp only [norm_Norm.j0]
  rw [if_neg (by decide)]
  by_cases h0 : (xs.length : Int) = 0
  · rw [if_pos h0]
    have e : nrow q gains xs = [] := List.eq_nil_of_length_eq_zero (by rw [nrow_len _ _ _ hlen]; omega)
    rw [e]
  · rw [if_neg h0, square_is xs hx hl (by omega) k (by omega)]
    simp only [Option.bind_some]
    have e : ms xs = (((ms xs).toNat : Nat) : Int) := by omega
    rw [e, hk k (by omega)]
    simp only [Option.bind_some]
    rw [if_pos (by omega), if_pos (by omega), Int.toNat_natCast, w64 (n := (q : Int)) (by omega) (by omega)]
    have := norm_loop q (by omega) gains xs hg hx hlen hl xs.length k 0 (by omega) (by omega)
    simpa using this

theorem ints_loop (a : List Int) (hb : a.length < 1000000) (d : Nat) : ∀ (k i : Nat), i + d = a.length → d < k → pelotonref04_Ints.l0 k a a (i : Int) = some true := by
  induction d with
  | zero =>
    intro k i hi hk
    obtain ⟨k, rfl⟩ : ∃ m, k = m + 1 := ⟨k - 1, by omega⟩
    simp only [pelotonref04_Ints.l0]
    rw [if_neg (by omega)]
  | succ d ih =>
    intro k i hi hk
    obtain ⟨k, rfl⟩ : ∃ m, k = m + 1 := ⟨k - 1, by omega⟩
    simp only [pelotonref04_Ints.l0]
    rw [if_pos (by omega), if_pos (by omega), if_pos (by omega), if_pos trivial, succ_is i (by omega)]
    exact ih k (i + 1) (by omega) (by omega)
theorem ints_same (a : List Int) (hb : a.length < 1000000) (k : Nat) (hk : a.length < k) : pelotonref04_Ints.f k a a = some true := by
  unfold pelotonref04_Ints.f
  rw [if_pos rfl]
  exact ints_loop a hb a.length k 0 (by omega) hk

theorem bytes_loop (a : List Int) (hb : a.length < 1000000) (d : Nat) : ∀ (k i : Nat), i + d = a.length → d < k → pelotonref04_Bytes.l0 k a a (i : Int) = some true := by
  induction d with
  | zero =>
    intro k i hi hk
    obtain ⟨k, rfl⟩ : ∃ m, k = m + 1 := ⟨k - 1, by omega⟩
    simp only [pelotonref04_Bytes.l0]
    rw [if_neg (by omega)]
  | succ d ih =>
    intro k i hi hk
    obtain ⟨k, rfl⟩ : ∃ m, k = m + 1 := ⟨k - 1, by omega⟩
    simp only [pelotonref04_Bytes.l0]
    rw [if_pos (by omega), if_pos (by omega), if_pos (by omega), if_pos trivial, succ_is i (by omega)]
    exact ih k (i + 1) (by omega) (by omega)
theorem bytes_same (a : List Int) (hb : a.length < 1000000) (k : Nat) (hk : a.length < k) : pelotonref04_Bytes.f k a a = some true := by
  unfold pelotonref04_Bytes.f
  rw [if_pos rfl]
  exact bytes_loop a hb a.length k 0 (by omega) hk

theorem near_is (x lo hi : Int) (h : lo ≤ hi) : pelotonref01_Near.f x lo hi = some (mn (mx x lo) hi) := by
  unfold pelotonref01_Near.f mn mx
  by_cases h1 : x < lo
  · rw [if_pos h1, if_pos h1, if_neg (by omega)]
  · rw [if_neg h1, if_neg h1]
    by_cases h2 : x > hi
    · rw [if_pos h2, if_pos (by omega)]
    · rw [if_neg h2, if_neg (by omega)]
theorem refinv_is (n q : Nat) (hn : n < 18446744073709551616) (h : InvOf n q) (k : Nat) (hk : 40 ≤ k) : pelotonref02_Inverse.f k (n : Int) = some (q : Int) := by
  unfold pelotonref02_Inverse.f
  rcases h with ⟨rfl, rfl⟩ | ⟨h0, q1, q2⟩
  · rfl
  · obtain ⟨b, hb, b1, b2⟩ := greatest_is n 281474976710656 hn h0 (by decide) k hk
    have c1 : b * b ≤ 281474976710656 / n := (Nat.le_div_iff_mul_le (by omega)).2 b1
    have c2 : 281474976710656 / n < (b + 1) * (b + 1) := (Nat.div_lt_iff_lt_mul (by omega)).2 b2
    have e := root_one q1 q2 c1 c2
    subst e
    rw [if_neg (by omega)]
    have : (281474976710656 : Int) = ((281474976710656 : Nat) : Int) := rfl
    rw [this, hb]
    rfl
theorem refnorm_step (q x g : Int) (hq : 0 ≤ q ∧ q ≤ 16777216) (hg : -128 ≤ g ∧ g < 128) (k : Nat) (hk : 70 ≤ k) : pelotonref01_Shift.f k (wrap64 ((wrap64 (tm x * (wrap64 q))) * (wrap64 g))) 23 = some (sh (tm x * q * g) 23) := by
  have h := nrm_small q x g hq hg
  rw [w64 (n := g) (by omega) (by omega), w64 (n := q) (by omega) (by omega)]
  generalize hp : tm x * q = p at *
  rw [w64 h.1.1 h.1.2, w64 h.2.1 h.2.2, refshift_is _ _ h.2 k hk, n23]
theorem refnorm_l1 (q : Nat) (gains xs : List Int) (hq : InvOf (ms xs).toNat q) (hg : ∀ x ∈ gains, -128 ≤ x ∧ x < 128) (hx : ∀ x ∈ xs, -2147483648 ≤ x ∧ x < 2147483648) (hlen : gains.length = xs.length) (hl : xs.length ≤ 1000) (d : Nat) : ∀ (k i : Nat), i + d = xs.length → d + 100 < k →
    pelotonref05_Norm.l1 k gains xs (sqs xs) ((nrow q gains xs).take i) (i : Int) = some (nrow q gains xs) := by
  have hR := nrow_len q gains xs hlen
  have hq2 := invof_small hq
  have hm := ms_range xs hl
  induction d with
  | zero =>
    intro k i hi hk
    obtain ⟨k, rfl⟩ : ∃ m, k = m + 1 := ⟨k - 1, by omega⟩
    simp only [pelotonref05_Norm.l1]
    rw [if_neg (by omega), List.take_of_length_le (by omega)]
  | succ d ih =>
    intro k i hi hk
    obtain ⟨k, rfl⟩ : ∃ m, k = m + 1 := ⟨k - 1, by omega⟩
    have hlt : i < xs.length := by omega
    have hlt2 : i < gains.length := by omega
    have hlt3 : i < (nrow q gains xs).length := by omega
    have hll : ((nrow q gains xs).take i).length < 140737488355328 := by simp; omega
    have hxi := hx _ (List.getElem_mem hlt)
    have hinv := refinv_is (ms xs).toNat q (by omega) hq k (by omega)
    have e : (((ms xs).toNat : Nat) : Int) = ms xs := by omega
    rw [e] at hinv
    have hw := i8w (s8_range (sh (tm xs[i] * q * gains[i]) 23)).1 (s8_range (sh (tm xs[i] * q * gains[i]) 23)).2
    have ih' := ih k (i + 1) (by omega) (by omega)
    rw [take_step _ _ hlt3, nrow_at _ _ _ i hlt3 hlt hlt2] at ih'
    simp only [pelotonref05_Norm.l1]
    rw [if_pos (by omega), ms_is xs hl (by omega), len_u xs hl, if_neg (by omega), hinv]
    clear hinv e
    simp only [Option.bind_some]
    rw [if_pos (show (0 : Int) ≤ (i : Int) from Int.natCast_nonneg _), rd_at xs _ hlt, w64 (n := xs[i]) (by omega) (by omega), near_is _ _ _ (by decide)]
    simp only [Option.bind_some]
    rw [if_pos (show (i : Int) < (gains.length : Int) from Int.ofNat_lt.2 hlt2), rd_at gains _ hlt2]
    have hs := refnorm_step q xs[i] gains[i] ⟨Int.natCast_nonneg _, Int.ofNat_le.2 hq2⟩ (hg _ (List.getElem_mem hlt2)) k (by omega)
    unfold tm at hs
    rw [hs]
    simp only [Option.bind_some]
    rw [near_is _ _ _ (by decide)]
    simp only [Option.bind_some]
    rw [if_pos hll, succ_is i (by omega)]
    unfold s8 tm at hw ih'
    rw [hw]
    exact ih'
theorem refnorm_l0 (q : Nat) (gains xs : List Int) (hq : InvOf (ms xs).toNat q) (hg : ∀ x ∈ gains, -128 ≤ x ∧ x < 128) (hx : ∀ x ∈ xs, -2147483648 ≤ x ∧ x < 2147483648) (hlen : gains.length = xs.length) (hl : xs.length ≤ 1000) (d : Nat) : ∀ (k i : Nat), i + d = xs.length → d + xs.length + 101 < k →
    pelotonref05_Norm.l0 k gains xs (sqs (xs.take i)) (i : Int) = some (nrow q gains xs) := by
  induction d with
  | zero =>
    intro k i hi hk
    obtain ⟨k, rfl⟩ : ∃ m, k = m + 1 := ⟨k - 1, by omega⟩
    simp only [pelotonref05_Norm.l0]
    rw [if_neg (by omega), List.take_of_length_le (by omega)]
    have := refnorm_l1 q gains xs hq hg hx hlen hl xs.length k 0 (by omega) (by omega)
    simpa using this
  | succ d ih =>
    intro k i hi hk
    obtain ⟨k, rfl⟩ : ∃ m, k = m + 1 := ⟨k - 1, by omega⟩
    have hlt : i < xs.length := by omega
    have hxi := hx _ (List.getElem_mem hlt)
    have ih' := ih k (i + 1) (by omega) (by omega)
    rw [sqs_take _ _ hlt] at ih'
    have hs := sqs_small xs hl i
    simp only [pelotonref05_Norm.l0]
    rw [if_pos (by omega), if_pos (by omega), rd_at _ _ hlt, w64 (n := xs[i]) (by omega) (by omega), near_is _ _ _ (by decide)]
    simp only [Option.bind_some]
    have hq := sq_sum (sqs (xs.take i)) xs[i] hs.1 hs.2
    unfold tm at hq ih'
    rw [hq, succ_is i (by omega)]
    exact ih'
theorem refnorm_is (q : Nat) (gains xs : List Int) (hq : InvOf (ms xs).toNat q) (hg : ∀ x ∈ gains, -128 ≤ x ∧ x < 128) (hx : ∀ x ∈ xs, -2147483648 ≤ x ∧ x < 2147483648) (hlen : gains.length = xs.length) (hl : xs.length ≤ 1000) (k : Nat) (hk : 2 * xs.length + 110 ≤ k) :
    pelotonref05_Norm.f k gains xs = some (nrow q gains xs) := by
  unfold pelotonref05_Norm.f
  have := refnorm_l0 q gains xs hq hg hx hlen hl xs.length k 0 (by omega) (by omega)
  simpa [sqs] using this

theorem awake_is : ∃ K, ∀ k, K ≤ k → pelotonlaw05_awake.f k = some true := Ev.of pelotonlaw05_awake.mono (k := 200) (by decide +kernel)

theorem NormNorms : pelotonlaw05_NormNorms.Pure := by
  intro gains xs _ _ hwg _ _ hwx
  obtain ⟨K, hK⟩ := awake_is
  have hg : ∀ x ∈ gains, -128 ≤ x ∧ x < 128 := fun x h => wf_i8 (hwg x h)
  have hx : ∀ x ∈ xs, -2147483648 ≤ x ∧ x < 2147483648 := fun x h => wf_i32 (hwx x h)
  refine ⟨K + 2000, ?_⟩
  unfold pelotonlaw05_NormNorms.f
  rw [hK _ (by omega)]
  simp only [Option.bind_some]
  rw [if_pos trivial]
  obtain ⟨k, hk⟩ : ∃ m, K + 2000 = m + 1 := ⟨K + 1999, rfl⟩
  rw [hk]
  have yes : pelotonlaw05_NormNorms.j0 (k + 1) gains xs true = some true := by
    simp only [pelotonlaw05_NormNorms.j0]
    rw [if_pos trivial, hK _ (by omega)]
    rfl
  by_cases h : (gains.length : Int) > 300
  · rw [if_pos h]
    exact yes
  · rw [if_neg h]
    by_cases h2 : (xs.length : Int) > 300
    · rw [decide_eq_true h2]
      exact yes
    · rw [decide_eq_false h2]
      simp only [pelotonlaw05_NormNorms.j0, Option.bind_some, List.nil_append, List.length_nil]
      rw [if_neg (by decide), if_pos (by omega), if_pos (by omega)]
      by_cases h3 : (gains.length : Int) = (xs.length : Int)
      · obtain ⟨q, hq, hn⟩ := norm_is gains xs hg hx (by omega) (by omega)
        rw [hn k (by omega), ints_same xs (by omega) k (by omega)]
        simp only [Option.bind_some]
        rw [if_pos trivial, if_pos h3, if_pos trivial, refnorm_is q gains xs hq hg hx (by omega) (by omega) k (by omega)]
        simp only [Option.bind_some]
        have hR := nrow_len q gains xs (by omega)
        rw [bytes_same _ (by omega) k (by omega)]
        rfl
      · have e : norm_Norm.f k gains xs = some ([], 30) := by
          obtain ⟨j, rfl⟩ : ∃ m, k = m + 1 := ⟨k - 1, by omega⟩
          unfold norm_Norm.f
          rw [if_neg h3]
          simp only [norm_Norm.j0]
          rw [if_pos trivial]
        rw [e, ints_same xs (by omega) k (by omega)]
        simp only [Option.bind_some]
        rw [if_pos trivial, if_neg h3, if_pos trivial]
        rfl

end Go.Proofs.Ytmpdkjcobpghaaa.Pure
