/- The whole root and one by the root are the nearest from below. -/
import Derived.Test.YtbkmocebohdgnaaPCurveNearx1
import Derived.Test.YtbkmocebohdgnaaPCurveNearx2
import Derived.Test.YtbkmocebohdgnaaEPlain
namespace Go.Proofs.Ytbkmocebohdgnaa.Pure
open Go.RowKit Go.Proofs.Ytbkmocebohdgnaa.PCurveNear Go.Proofs.YtbkmocebohdgnaaW.PrintWords Go.Proofs.YtbkmocebohdgnaaW.PrintLast Go.Proofs.YtbkmocebohdgnaaW.PrintMore Go.Proofs.YtbkmocebohdgnaaPlain
set_option linter.unusedVariables false
set_option linter.unusedSimpArgs false

theorem mul64_small (a b : Int) (ha0 : 0 ≤ a) (ha : a < 4294967296) (hb0 : 0 ≤ b) (hb : b < 4294967296) : bits_Mul64.f a b = some (0, a * b) := by
  obtain ⟨hp0, hp1⟩ := mul_u64 ha0 ha hb0 hb
  have m : ∀ x : Int, 0 ≤ x → x < 18446744073709551616 → Go.bits .and .u64 x 4294967295 = x % 4294967296 := fun x h0 h1 => and_mask 32 (by decide) x h0 h1
  have da : a / 4294967296 = 0 := by omega
  have db : b / 4294967296 = 0 := by omega
  unfold bits_Mul64.f
  rw [da, db, m a ha0 (by omega), m b hb0 (by omega), Int.emod_eq_of_lt ha0 ha, Int.emod_eq_of_lt hb0 hb]
  simp only [Int.zero_mul, Int.mul_zero, Int.zero_add, Int.add_zero]
  rw [u64w (n := 0) (by decide) (by decide), u64w hp0 hp1, u64w (n := 0 + a * b / 4294967296) (by omega) (by omega)]
  simp only [Int.zero_add]
  rw [m _ (by omega) (by omega)]
  have e1 : a * b / 4294967296 / 4294967296 = 0 := by omega
  have e2 : a * b / 4294967296 % 4294967296 / 4294967296 = 0 := by omega
  rw [Int.add_zero, u64w (n := a * b / 4294967296 % 4294967296) (by omega) (by omega), e1, e2]
  rw [u64w (n := 0) (by decide) (by decide), u64w (n := 0 + 0) (by decide) (by decide)]
  rfl

theorem root_loop (n : Nat) (b : Nat) : ∀ (k r : Nat), b < k → r % 2 ^ b = 0 → r * r ≤ n → n < (r + 2 ^ b) * (r + 2 ^ b) → r + 2 ^ b ≤ 4294967296 →
    ∃ q : Nat, curve_Root.l0 k (n : Int) (r : Int) (b : Int) = some (q : Int) ∧ q * q ≤ n ∧ n < (q + 1) * (q + 1) ∧ q < 4294967296 := by
  induction b with
  | zero =>
    intro k r hk _ h1 h2 h3
    obtain ⟨k, rfl⟩ : ∃ m, k = m + 1 := ⟨k - 1, by omega⟩
    refine ⟨r, ?_, h1, by simpa using h2, by omega⟩
    simp only [curve_Root.l0]
    rw [if_neg (by decide)]
  | succ b ih =>
    intro k r hk hm h1 h2 h3
    obtain ⟨k, rfl⟩ : ∃ m, k = m + 1 := ⟨k - 1, by omega⟩
    have hb : b < 32 := by
      rcases Nat.lt_or_ge b 32 with h | h
      · exact h
      · have : 2 ^ 33 ≤ 2 ^ (b + 1) := Nat.pow_le_pow_right (by decide) (by omega)
        omega
    have hpow : 2 ^ (b + 1) = 2 ^ b * 2 := Nat.pow_succ 2 b
    have hpos : 0 < 2 ^ b := Nat.two_pow_pos b
    have hup : r + 2 ^ b < 4294967296 := by omega
    have e0 : IntKind.u64.wrap (((b + 1 : Nat) : Int) - 1) = (b : Int) := by rw [u64w] <;> omega
    have e1 : Go.bits .or .u64 (r : Int) (2 ^ b) = ((r + 2 ^ b : Nat) : Int) := by
      rw [or_pow b (r : Int) (by omega) (by omega) (by exact_mod_cast hm) (by omega)]
      simp
    simp only [curve_Root.l0]
    rw [if_pos (by omega), e0, if_pos (by omega), shl_one b (by omega), e1, mul64_small _ _ (by omega) (by omega) (by omega) (by omega)]
    simp only [Option.bind_some]
    rw [if_pos trivial]
    have hmod : (r + 2 ^ b) % 2 ^ b = 0 := by
      have : r % 2 ^ b = 0 := by
        have h := Nat.mod_mod_of_dvd r (show 2 ^ b ∣ 2 ^ (b + 1) from ⟨2, hpow⟩)
        rw [← h, hm]; simp
      simp [this]
    have hmod' : r % 2 ^ b = 0 := by simpa using hmod
    by_cases hle : ((r + 2 ^ b : Nat) : Int) * ((r + 2 ^ b : Nat) : Int) ≤ (n : Int)
    · rw [if_pos hle]
      exact ih k (r + 2 ^ b) (by omega) hmod (by exact_mod_cast hle) (by rw [show r + 2 ^ b + 2 ^ b = r + 2 ^ (b + 1) by omega]; exact h2) (by omega)
    · rw [if_neg hle]
      refine ih k r (by omega) hmod' h1 ?_ (by omega)
      have : ¬ (r + 2 ^ b) * (r + 2 ^ b) ≤ n := fun h => hle (by exact_mod_cast h)
      omega

theorem root_is (n : Nat) (hn : n < 18446744073709551616) (k : Nat) (hk : 40 ≤ k) :
    ∃ q : Nat, curve_Root.f k (n : Int) = some (q : Int) ∧ q * q ≤ n ∧ n < (q + 1) * (q + 1) ∧ q < 4294967296 := by
  have hL := bitLen_le n
  have hlt := bitLen_lt n (by simpa using hn)
  unfold curve_Root.f bits_Len64.f
  rw [if_pos (by omega), if_pos (by omega)]
  simp only [Option.bind_some, Int.toNat_natCast]
  rw [w64 (by omega) (by omega), u64w (n := (Lib.bitLen n : Int) + 1) (by omega) (by omega)]
  have e : IntKind.u64.wrap (Int.tdiv ((Lib.bitLen n : Int) + 1) 2) = (((Lib.bitLen n + 1) / 2 : Nat) : Int) := by
    rw [Int.tdiv_eq_ediv_of_nonneg (by omega), u64w] <;> omega
  rw [e]
  have h32 : 2 ^ ((Lib.bitLen n + 1) / 2) ≤ 2 ^ 32 := Nat.pow_le_pow_right (by decide) (by omega)
  refine root_loop n _ k 0 (by omega) (Nat.zero_mod _) (by omega) ?_ (by omega)
  rw [Nat.zero_add, ← Nat.pow_add]
  exact Nat.lt_of_lt_of_le hlt (Nat.pow_le_pow_right (by decide) (by omega))

theorem inverse_is (n : Nat) (h0 : n ≠ 0) (k : Nat) (hk : 40 ≤ k) :
    ∃ q : Nat, curve_Inverse.f k (n : Int) = some (q : Int) ∧ q * q ≤ 281474976710656 / n ∧ 281474976710656 / n < (q + 1) * (q + 1) ∧ q < 4294967296 := by
  have hd : 281474976710656 / n ≤ 281474976710656 := Nat.div_le_self _ _
  obtain ⟨q, hq, h⟩ := root_is (281474976710656 / n) (by omega) k hk
  refine ⟨q, ?_, h⟩
  unfold curve_Inverse.f
  rw [if_neg (by omega), Int.tdiv_eq_ediv_of_nonneg (by decide)]
  have e : (281474976710656 : Int) / (n : Int) = ((281474976710656 / n : Nat) : Int) := by simp
  rw [e, u64w (by omega) (by omega), hq]
  rfl

theorem awake_is : ∃ K, ∀ k, K ≤ k → pelotonlaw02_awake.f k = some true := Ev.of pelotonlaw02_awake.mono (k := 100) (by decide +kernel)

theorem CurveNear : pelotonlaw02_CurveNear.Pure := by
  intro n0 hn0
  obtain ⟨K, hK⟩ := awake_is
  have hn0 := wf_u32 hn0
  obtain ⟨n, rfl⟩ := Int.eq_ofNat_of_zero_le hn0.1
  have hn : n < 4294967296 := by omega
  refine ⟨K + 40, ?_⟩
  unfold pelotonlaw02_CurveNear.f
  rw [hK _ (by omega)]
  simp only [Option.bind_some]
  have e0 : IntKind.u64.wrap (n : Int) = (n : Int) := u64w (by omega) (by omega)
  obtain ⟨q, hq, q1, q2, q3⟩ := root_is n (by omega) (K + 40) (by omega)
  have sq : ∀ z : Nat, z * z < 18446744073709551616 → IntKind.u64.wrap ((z : Int) * (z : Int)) = ((z * z : Nat) : Int) := fun z hz => by rw [← Int.natCast_mul, u64w (by omega) (by omega)]
  have up : ∀ z : Nat, z < 4294967296 → IntKind.u64.wrap ((z : Int) + 1) = ((z + 1 : Nat) : Int) := fun z hz => by rw [u64w] <;> omega
  have hq4 : q < 65536 := by
    rcases Nat.lt_or_ge q 65536 with h | h
    · exact h
    · have : 65536 * 65536 ≤ q * q := Nat.mul_le_mul h h
      omega
  have hq5 : (q + 1) * (q + 1) ≤ 65536 * 65536 := Nat.mul_le_mul (by omega) (by omega)
  rw [if_pos trivial, e0, hq]
  by_cases h0 : n = 0
  · subst h0
    have : curve_Inverse.f (K + 40) ((0 : Nat) : Int) = some 16777216 := rfl
    rw [this]
    simp only [Option.bind_some]
    rw [sq q (by omega), if_neg (by omega), up q q3, sq (q + 1) (by omega), if_neg (by omega), if_pos (by rfl)]
  · obtain ⟨a, ha, a1, a2, a3⟩ := inverse_is n h0 (K + 40) (by omega)
    have hd : 281474976710656 / n ≤ 281474976710656 := Nat.div_le_self _ _
    have ha4 : a ≤ 16777216 := by
      rcases Nat.lt_or_ge 16777216 a with h | h
      · have : 16777217 * 16777217 ≤ a * a := Nat.mul_le_mul h h
        omega
      · exact h
    have ha5 : (a + 1) * (a + 1) ≤ 16777217 * 16777217 := Nat.mul_le_mul (by omega) (by omega)
    have ha6 : a * a * n ≤ 281474976710656 := (Nat.le_div_iff_mul_le (by omega)).1 a1
    have ha7 : a * a ≤ 16777216 * 16777216 := Nat.mul_le_mul ha4 ha4
    rw [ha]
    simp only [Option.bind_some]
    have e1 : IntKind.u64.wrap (((a * a : Nat) : Int) * (n : Int)) = ((a * a * n : Nat) : Int) := by
      rw [← Int.natCast_mul]
      generalize a * a * n = z at *
      rw [u64w] <;> omega
    have e2 : IntKind.u64.wrap (Int.tdiv 281474976710656 (n : Int)) = ((281474976710656 / n : Nat) : Int) := by
      rw [Int.tdiv_eq_ediv_of_nonneg (by decide)]
      have : (281474976710656 : Int) / (n : Int) = ((281474976710656 / n : Nat) : Int) := by simp
      rw [this]
      generalize 281474976710656 / n = z at *
      rw [u64w] <;> omega
    rw [sq q (by omega), if_neg (by omega), up q q3, sq (q + 1) (by omega), if_neg (by omega), if_neg (by omega), sq a (by omega), e1, if_pos (by generalize a * a * n = z at *; omega), up a a3, sq (a + 1) (by omega), e2]
    rw [decide_eq_true]
    have := a2
    generalize 281474976710656 / n = z at *
    generalize (a + 1) * (a + 1) = y at *
    omega

end Go.Proofs.Ytbkmocebohdgnaa.Pure
