/- The whole root and one by the root are the reference's, of every number of 64 bits. -/
import Derived.Test.YtbkmocebohdgnaaPCurveRootsx1
import Derived.Test.YtbkmocebohdgnaaPCurveRootsx2
import Derived.Test.YtbkmocebohdgnaaEPlain
namespace Go.Proofs.Ytbkmocebohdgnaa.Pure
open Go.RowKit Go.Proofs.Ytbkmocebohdgnaa.PCurveRoots Go.Proofs.YtbkmocebohdgnaaW.PrintWords Go.Proofs.YtbkmocebohdgnaaW.PrintLast Go.Proofs.YtbkmocebohdgnaaW.PrintMore Go.Proofs.YtbkmocebohdgnaaPlain
set_option linter.unusedVariables false
set_option linter.unusedSimpArgs false

theorem mul64_small (a b : Int) (ha0 : 0 ≤ a) (ha : a < 4294967296) (hb0 : 0 ≤ b) (hb : b < 4294967296) : bits_Mul64.f a b = some (0, a * b) := by
  obtain ⟨hp0, hp1⟩ := mul_u64 ha0 ha hb0 hb
  have m : ∀ x : Int, 0 ≤ x → x < 18446744073709551616 → Go.bits .and .u64 x 4294967295 = x % 4294967296 := fun x h0 h1 => and_mask 32 (by decide) x h0 h1
  have da : a / 4294967296 = 0 := by omega
  have db : b / 4294967296 = 0 := by omega
  unfold bits_Mul64.f
  rw [da, db, m a ha0 (by omega), m b hb0 (by omega), Int.emod_eq_of_lt ha0 ha, Int.emod_eq_of_lt hb0 hb]
  simp only [Int.zero_mul, Int.mul_zero, Int.zero_add, Int.add_zero]
  rw [u64w (n := 0) (by decide) (by decide), u64w hp0 hp1, u64w (n := 0 + a * b / 4294967296) (by omega) (by omega)]
  simp only [Int.zero_add]
  rw [m _ (by omega) (by omega)]
  have e1 : a * b / 4294967296 / 4294967296 = 0 := by omega
  have e2 : a * b / 4294967296 % 4294967296 / 4294967296 = 0 := by omega
  rw [Int.add_zero, u64w (n := a * b / 4294967296 % 4294967296) (by omega) (by omega), e1, e2]
  rw [u64w (n := 0) (by decide) (by decide), u64w (n := 0 + 0) (by decide) (by decide)]
  rfl

theorem root_loop (n : Nat) (b : Nat) : ∀ (k r : Nat), b < k → r % 2 ^ b = 0 → r * r ≤ n → n < (r + 2 ^ b) * (r + 2 ^ b) → r + 2 ^ b ≤ 4294967296 →
    ∃ q : Nat, curve_Root.l0 k (n : Int) (r : Int) (b : Int) = some (q : Int) ∧ q * q ≤ n ∧ n < (q + 1) * (q + 1) ∧ q < 4294967296 := by
  induction b with
  | zero =>
    intro k r hk _ h1 h2 h3
    obtain ⟨k, rfl⟩ : ∃ m, k = m + 1 := ⟨k - 1, by omega⟩
    refine ⟨r, ?_, h1, by simpa using h2, by omega⟩
    simp only [curve_Root.l0]
    rw [if_neg (by decide)]
  | succ b ih =>
    intro k r hk hm h1 h2 h3
    obtain ⟨k, rfl⟩ : ∃ m, k = m + 1 := ⟨k - 1, by omega⟩
    have hb : b < 32 := by
      rcases Nat.lt_or_ge b 32 with h | h
      · exact h
      · have : 2 ^ 33 ≤ 2 ^ (b + 1) := Nat.pow_le_pow_right (by decide) (by omega)
        omega
    have hpow : 2 ^ (b + 1) = 2 ^ b * 2 := Nat.pow_succ 2 b
    have hpos : 0 < 2 ^ b := Nat.two_pow_pos b
    have hup : r + 2 ^ b < 4294967296 := by omega
    have e0 : IntKind.u64.wrap (((b + 1 : Nat) : Int) - 1) = (b : Int) := by rw [u64w] <;> omega
    have e1 : Go.bits .or .u64 (r : Int) (2 ^ b) = ((r + 2 ^ b : Nat) : Int) := by
      rw [or_pow b (r : Int) (by omega) (by omega) (by exact_mod_cast hm) (by omega)]
      simp
    simp only [curve_Root.l0]
    rw [if_pos (by omega), e0, if_pos (by omega), shl_one b (by omega), e1, mul64_small _ _ (by omega) (by omega) (by omega) (by omega)]
    simp only [Option.bind_some]
    rw [if_pos trivial]
    have hmod : (r + 2 ^ b) % 2 ^ b = 0 := by
      have : r % 2 ^ b = 0 := by
        have h := Nat.mod_mod_of_dvd r (show 2 ^ b ∣ 2 ^ (b + 1) from ⟨2, hpow⟩)
        rw [← h, hm]; simp
      simp [this]
    have hmod' : r % 2 ^ b = 0 := by simpa using hmod
    by_cases hle : ((r + 2 ^ b : Nat) : Int) * ((r + 2 ^ b : Nat) : Int) ≤ (n : Int)
    · rw [if_pos hle]
      exact ih k (r + 2 ^ b) (by omega) hmod (by exact_mod_cast hle) (by rw [show r + 2 ^ b + 2 ^ b = r + 2 ^ (b + 1) by omega]; exact h2) (by omega)
    · rw [if_neg hle]
      refine ih k r (by omega) hmod' h1 ?_ (by omega)
      have : ¬ (r + 2 ^ b) * (r + 2 ^ b) ≤ n := fun h => hle (by exact_mod_cast h)
      omega

theorem root_is (n : Nat) (hn : n < 18446744073709551616) (k : Nat) (hk : 40 ≤ k) :
    ∃ q : Nat, curve_Root.f k (n : Int) = some (q : Int) ∧ q * q ≤ n ∧ n < (q + 1) * (q + 1) ∧ q < 4294967296 := by
  have hL := bitLen_le n
  have hlt := bitLen_lt n (by simpa using hn)
  unfold curve_Root.f bits_Len64.f
  rw [if_pos (by omega), if_pos (by omega)]
  simp only [Option.bind_some, Int.toNat_natCast]
  rw [w64 (by omega) (by omega), u64w (n := (Lib.bitLen n : Int) + 1) (by omega) (by omega)]
  have e : IntKind.u64.wrap (Int.tdiv ((Lib.bitLen n : Int) + 1) 2) = (((Lib.bitLen n + 1) / 2 : Nat) : Int) := by
    rw [Int.tdiv_eq_ediv_of_nonneg (by omega), u64w] <;> omega
  rw [e]
  have h32 : 2 ^ ((Lib.bitLen n + 1) / 2) ≤ 2 ^ 32 := Nat.pow_le_pow_right (by decide) (by omega)
  refine root_loop n _ k 0 (by omega) (Nat.zero_mod _) (by omega) ?_ (by omega)
  rw [Nat.zero_add, ← Nat.pow_add]
  exact Nat.lt_of_lt_of_le hlt (Nat.pow_le_pow_right (by decide) (by omega))

theorem inverse_is (n : Nat) (h0 : n ≠ 0) (k : Nat) (hk : 40 ≤ k) :
    ∃ q : Nat, curve_Inverse.f k (n : Int) = some (q : Int) ∧ q * q ≤ 281474976710656 / n ∧ 281474976710656 / n < (q + 1) * (q + 1) ∧ q < 4294967296 := by
  have hd : 281474976710656 / n ≤ 281474976710656 := Nat.div_le_self _ _
  obtain ⟨q, hq, h⟩ := root_is (281474976710656 / n) (by omega) k hk
  refine ⟨q, ?_, h⟩
  unfold curve_Inverse.f
  rw [if_neg (by omega), Int.tdiv_eq_ediv_of_nonneg (by decide)]
  have e : (281474976710656 : Int) / (n : Int) = ((281474976710656 / n : Nat) : Int) := by simp
  rw [e, u64w (by omega) (by omega), hq]
  rfl

theorem above_is (a n m : Nat) (ha : a < 4294967296) (hn : n < 18446744073709551616) (h0 : n ≠ 0) (hm : m < 18446744073709551616) :
    pelotonref02_above.f (a : Int) (n : Int) (m : Int) = some (decide (m < a * a * n)) := by
  unfold pelotonref02_above.f
  by_cases ha0 : a = 0
  · subst ha0
    rw [if_pos (by rfl)]
    simp
  · rw [if_neg (by omega), if_neg (by omega), Int.tdiv_eq_ediv_of_nonneg (a := (m : Int)) (by omega)]
    have h1 : m / n / a < a ↔ m / n < a * a := Nat.div_lt_iff_lt_mul (by omega)
    have h2 : m / n < a * a ↔ m < a * a * n := Nat.div_lt_iff_lt_mul (by omega)
    have hd : m / n ≤ m := Nat.div_le_self _ _
    have hd2 : m / n / a ≤ m / n := Nat.div_le_self _ _
    have e : (m : Int) / (n : Int) = ((m / n : Nat) : Int) := by simp
    have e2 : ((m / n : Nat) : Int) / (a : Int) = ((m / n / a : Nat) : Int) := by simp
    rw [e]
    have h3 := h1.trans h2
    clear h1 h2 e
    generalize m / n / a = y at *
    generalize m / n = x at *
    rw [u64w (n := (x : Int)) (by omega) (by omega), Int.tdiv_eq_ediv_of_nonneg (by omega), e2, u64w (by omega) (by omega)]
    congr 1
    rw [decide_eq_decide, ← h3]
    omega

theorem greatest_loop (n m : Nat) (hn : n < 18446744073709551616) (h0 : n ≠ 0) (hm : m < 18446744073709551616) (d : Nat) : ∀ (k a b : Nat), d < k → a < b → b ≤ 4294967296 → b - a ≤ 2 ^ d → a * a * n ≤ m → m < b * b * n →
    ∃ q : Nat, pelotonref02_greatest.l0 k (n : Int) (m : Int) (a : Int) (b : Int) = some (q : Int) ∧ q * q * n ≤ m ∧ m < (q + 1) * (q + 1) * n := by
  induction d with
  | zero =>
    intro k a b hk hab hb hd h1 h2
    obtain ⟨k, rfl⟩ : ∃ m, k = m + 1 := ⟨k - 1, by omega⟩
    have e : b = a + 1 := by simp at hd; omega
    subst e
    refine ⟨a, ?_, h1, h2⟩
    simp only [pelotonref02_greatest.l0]
    rw [if_neg (by rw [u64w] <;> omega)]
  | succ d ih =>
    intro k a b hk hab hb hd h1 h2
    obtain ⟨k, rfl⟩ : ∃ m, k = m + 1 := ⟨k - 1, by omega⟩
    have hpow : 2 ^ (d + 1) = 2 ^ d * 2 := Nat.pow_succ 2 d
    have hpos : 0 < 2 ^ d := Nat.two_pow_pos d
    simp only [pelotonref02_greatest.l0]
    by_cases hs : b - a ≤ 1
    · have e : b = a + 1 := by omega
      subst e
      refine ⟨a, ?_, h1, h2⟩
      rw [if_neg (by rw [u64w] <;> omega)]
    · rw [if_pos (by rw [u64w] <;> omega)]
      have e : IntKind.u64.wrap (Int.tdiv (IntKind.u64.wrap ((a : Int) + (b : Int))) 2) = (((a + b) / 2 : Nat) : Int) := by
        rw [u64w (n := (a : Int) + (b : Int)) (by omega) (by omega), Int.tdiv_eq_ediv_of_nonneg (by omega), u64w] <;> omega
      rw [e, above_is _ n m (by omega) hn h0 hm]
      simp only [Option.bind_some]
      by_cases hc : m < (a + b) / 2 * ((a + b) / 2) * n
      · rw [decide_eq_true hc, if_pos rfl]
        exact ih k a ((a + b) / 2) (by omega) (by omega) (by omega) (by omega) h1 hc
      · rw [decide_eq_false hc, if_neg (by decide)]
        exact ih k ((a + b) / 2) b (by omega) (by omega) (by omega) (by omega) (by omega) h2

theorem greatest_is (n m : Nat) (hn : n < 18446744073709551616) (h0 : n ≠ 0) (hm : m < 18446744073709551616) (k : Nat) (hk : 40 ≤ k) :
    ∃ q : Nat, pelotonref02_greatest.f k (n : Int) (m : Int) = some (q : Int) ∧ q * q * n ≤ m ∧ m < (q + 1) * (q + 1) * n := by
  unfold pelotonref02_greatest.f
  refine greatest_loop n m hn h0 hm 32 k 0 4294967296 (by omega) (by omega) (by omega) (by decide) (by omega) ?_
  have : 4294967296 * 4294967296 * 1 ≤ 4294967296 * 4294967296 * n := Nat.mul_le_mul_left _ (by omega)
  omega

theorem awake_is : ∃ K, ∀ k, K ≤ k → pelotonlaw02_awake.f k = some true := Ev.of pelotonlaw02_awake.mono (k := 100) (by decide +kernel)

theorem CurveRoots : pelotonlaw02_CurveRoots.Pure := by
  intro a0 hwf
  obtain ⟨K, hK⟩ := awake_is
  have hb : 0 ≤ a0 ∧ a0 < 18446744073709551616 := by
    simp [Lit.wf, IntKind.min, IntKind.max, IntKind.signed, IntKind.bits] at hwf
    omega
  obtain ⟨n, rfl⟩ := Int.eq_ofNat_of_zero_le hb.1
  have hn : n < 18446744073709551616 := by omega
  refine ⟨K + 40, ?_⟩
  unfold pelotonlaw02_CurveRoots.f
  rw [hK _ (by omega)]
  obtain ⟨q, hq, q1, q2, _⟩ := root_is n hn (K + 40) (by omega)
  obtain ⟨p, hp, p1, p2⟩ := greatest_is 1 n (by decide) (by decide) hn (K + 40) (by omega)
  have e : q = p := root_one q1 q2 (by simpa using p1) (by simpa using p2)
  subst e
  have hp' : pelotonref02_Root.f (K + 40) (n : Int) = some (q : Int) := by
    unfold pelotonref02_Root.f
    have : (1 : Int) = ((1 : Nat) : Int) := rfl
    rw [this, hp]
    rfl
  simp only [Option.bind_some]
  rw [if_pos trivial, hq, hp']
  simp only [Option.bind_some]
  rw [if_pos trivial]
  by_cases h0 : n = 0
  · subst h0
    rfl
  · obtain ⟨a, ha, a1, a2, _⟩ := inverse_is n h0 (K + 40) (by omega)
    obtain ⟨b, hb, b1, b2⟩ := greatest_is n 281474976710656 hn h0 (by decide) (K + 40) (by omega)
    have c1 : b * b ≤ 281474976710656 / n := (Nat.le_div_iff_mul_le (by omega)).2 b1
    have c2 : 281474976710656 / n < (b + 1) * (b + 1) := (Nat.div_lt_iff_lt_mul (by omega)).2 b2
    have e := root_one a1 a2 c1 c2
    subst e
    have hb' : pelotonref02_Inverse.f (K + 40) (n : Int) = some (a : Int) := by
      unfold pelotonref02_Inverse.f
      rw [if_neg (by omega)]
      have : (281474976710656 : Int) = ((281474976710656 : Nat) : Int) := rfl
      rw [this, hb]
      rfl
    rw [ha, hb']
    simp

end Go.Proofs.Ytbkmocebohdgnaa.Pure
