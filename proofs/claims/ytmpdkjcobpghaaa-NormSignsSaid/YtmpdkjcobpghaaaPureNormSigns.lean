/- A row whose signs are turned comes out with its signs turned. -/
import Derived.Test.YtmpdkjcobpghaaaPNormSignsx1
import Derived.Test.YtmpdkjcobpghaaaPNormSignsx2
import Derived.Test.YtmpdkjcobpghaaaPNormSignsx3
import Derived.Test.YtmpdkjcobpghaaaPNormSignsx4
import Derived.Test.YtmpdkjcobpghaaaPNormSignsx5
import Derived.Test.YtmpdkjcobpghaaaEPlain
import Derived.Test.YtmpdkjcobpghaaaEShift
import Derived.Test.YtmpdkjcobpghaaaESNorm
namespace Go.Proofs.Ytmpdkjcobpghaaa.Pure
open Go.RowKit Go.Proofs.Ytmpdkjcobpghaaa.PNormSigns Go.Proofs.YtmpdkjcobpghaaaW.PrintWords Go.Proofs.YtmpdkjcobpghaaaW.PrintLast Go.Proofs.YtmpdkjcobpghaaaW.PrintMore Go.Proofs.YtmpdkjcobpghaaaPlain
set_option linter.unusedVariables false
set_option linter.unusedSimpArgs false

theorem mul64_small (a b : Int) (ha0 : 0 ≤ a) (ha : a < 4294967296) (hb0 : 0 ≤ b) (hb : b < 4294967296) : bits_Mul64.f a b = some (0, a * b) := by
  obtain ⟨hp0, hp1⟩ := mul_u64 ha0 ha hb0 hb
  have m : ∀ x : Int, 0 ≤ x → x < 18446744073709551616 → Go.bits .and .u64 x 4294967295 = x % 4294967296 := fun x h0 h1 => and_mask 32 (by decide) x h0 h1
  have da : a / 4294967296 = 0 := by omega
  have db : b / 4294967296 = 0 := by omega
  unfold bits_Mul64.f
  rw [da, db, m a ha0 (by omega), m b hb0 (by omega), Int.emod_eq_of_lt ha0 ha, Int.emod_eq_of_lt hb0 hb]
  simp only [Int.zero_mul, Int.mul_zero, Int.zero_add, Int.add_zero]
  rw [u64w (n := 0) (by decide) (by decide), u64w hp0 hp1, u64w (n := 0 + a * b / 4294967296) (by omega) (by omega)]
  simp only [Int.zero_add]
  rw [m _ (by omega) (by omega)]
  have e1 : a * b / 4294967296 / 4294967296 = 0 := by omega
  have e2 : a * b / 4294967296 % 4294967296 / 4294967296 = 0 := by omega
  rw [Int.add_zero, u64w (n := a * b / 4294967296 % 4294967296) (by omega) (by omega), e1, e2]
  rw [u64w (n := 0) (by decide) (by decide), u64w (n := 0 + 0) (by decide) (by decide)]
  rfl

theorem root_loop (n : Nat) (b : Nat) : ∀ (k r : Nat), b < k → r % 2 ^ b = 0 → r * r ≤ n → n < (r + 2 ^ b) * (r + 2 ^ b) → r + 2 ^ b ≤ 4294967296 →
    ∃ q : Nat, curve_Root.l0 k (n : Int) (r : Int) (b : Int) = some (q : Int) ∧ q * q ≤ n ∧ n < (q + 1) * (q + 1) ∧ q < 4294967296 := by
  induction b with
  | zero =>
    intro k r hk _ h1 h2 h3
    obtain ⟨k, rfl⟩ : ∃ m, k = m + 1 := ⟨k - 1, by omega⟩
    refine ⟨r, ?_, h1, by simpa using h2, by omega⟩
    simp only [curve_Root.l0]
    rw [if_neg (by decide)]
  | succ b ih =>
    intro k r hk hm h1 h2 h3
    obtain ⟨k, rfl⟩ : ∃ m, k = m + 1 := ⟨k - 1, by omega⟩
    have hb : b < 32 := by
      rcases Nat.lt_or_ge b 32 with h | h
      · exact h
      · have : 2 ^ 33 ≤ 2 ^ (b + 1) := Nat.pow_le_pow_right (by decide) (by omega)
        omega
    have hpow : 2 ^ (b + 1) = 2 ^ b * 2 := Nat.pow_succ 2 b
    have hpos : 0 < 2 ^ b := Nat.two_pow_pos b
    have hup : r + 2 ^ b < 4294967296 := by omega
    have e0 : IntKind.u64.wrap (((b + 1 : Nat) : Int) - 1) = (b : Int) := by rw [u64w] <;> omega
    have e1 : Go.bits .or .u64 (r : Int) (2 ^ b) = ((r + 2 ^ b : Nat) : Int) := by
      rw [or_pow b (r : Int) (by omega) (by omega) (by exact_mod_cast hm) (by omega)]
      simp
    simp only [curve_Root.l0]
    rw [if_pos (by omega), e0, if_pos (by omega), shl_one b (by omega), e1, mul64_small _ _ (by omega) (by omega) (by omega) (by omega)]
    simp only [Option.bind_some]
    rw [if_pos trivial]
    have hmod : (r + 2 ^ b) % 2 ^ b = 0 := by
      have : r % 2 ^ b = 0 := by
        have h := Nat.mod_mod_of_dvd r (show 2 ^ b ∣ 2 ^ (b + 1) from ⟨2, hpow⟩)
        rw [← h, hm]; simp
      simp [this]
    have hmod' : r % 2 ^ b = 0 := by simpa using hmod
    by_cases hle : ((r + 2 ^ b : Nat) : Int) * ((r + 2 ^ b : Nat) : Int) ≤ (n : Int)
    · rw [if_pos hle]
      exact ih k (r + 2 ^ b) (by omega) hmod (by exact_mod_cast hle) (by rw [show r + 2 ^ b + 2 ^ b = r + 2 ^ (b + 1) by omega]; exact h2) (by omega)
    · rw [if_neg hle]
      refine ih k r (by omega) hmod' h1 ?_ (by omega)
      have : ¬ (r + 2 ^ b) * (r + 2 ^ b) ≤ n := fun h => hle (by exact_mod_cast h)
      omega

theorem root_is (n : Nat) (hn : n < 18446744073709551616) (k : Nat) (hk : 40 ≤ k) :
    ∃ q : Nat, curve_Root.f k (n : Int) = some (q : Int) ∧ q * q ≤ n ∧ n < (q + 1) * (q + 1) ∧ q < 4294967296 := by
  have hL := bitLen_le n
  have hlt := bitLen_lt n (by simpa using hn)
  unfold curve_Root.f bits_Len64.f
  rw [if_pos (by omega), if_pos (by omega)]
  simp only [Option.bind_some, Int.toNat_natCast]
  rw [w64 (by omega) (by omega), u64w (n := (Lib.bitLen n : Int) + 1) (by omega) (by omega)]
  have e : IntKind.u64.wrap (Int.tdiv ((Lib.bitLen n : Int) + 1) 2) = (((Lib.bitLen n + 1) / 2 : Nat) : Int) := by
    rw [Int.tdiv_eq_ediv_of_nonneg (by omega), u64w] <;> omega
  rw [e]
  have h32 : 2 ^ ((Lib.bitLen n + 1) / 2) ≤ 2 ^ 32 := Nat.pow_le_pow_right (by decide) (by omega)
  refine root_loop n _ k 0 (by omega) (Nat.zero_mod _) (by omega) ?_ (by omega)
  rw [Nat.zero_add, ← Nat.pow_add]
  exact Nat.lt_of_lt_of_le hlt (Nat.pow_le_pow_right (by decide) (by omega))

theorem inverse_is (n : Nat) (h0 : n ≠ 0) (k : Nat) (hk : 40 ≤ k) :
    ∃ q : Nat, curve_Inverse.f k (n : Int) = some (q : Int) ∧ q * q ≤ 281474976710656 / n ∧ 281474976710656 / n < (q + 1) * (q + 1) ∧ q < 4294967296 := by
  have hd : 281474976710656 / n ≤ 281474976710656 := Nat.div_le_self _ _
  obtain ⟨q, hq, h⟩ := root_is (281474976710656 / n) (by omega) k hk
  refine ⟨q, ?_, h⟩
  unfold curve_Inverse.f
  rw [if_neg (by omega), Int.tdiv_eq_ediv_of_nonneg (by decide)]
  have e : (281474976710656 : Int) / (n : Int) = ((281474976710656 / n : Nat) : Int) := by simp
  rw [e, u64w (by omega) (by omega), hq]
  rfl

theorem shift_is (x a : Int) (hx : -9223372036854775808 ≤ x ∧ x < 9223372036854775808) : round_Shift.f x a = some (sh x (mn (mx a 0) 62).toNat) := by
  have hn0 : 0 ≤ mn (mx a 0) 62 ∧ mn (mx a 0) 62 ≤ 62 := by unfold mn mx; split <;> split <;> omega
  unfold round_Shift.f
  generalize hN : mn (mx a 0) 62 = N at *
  obtain ⟨n, rfl⟩ := Int.eq_ofNat_of_zero_le hn0.1
  rw [Int.toNat_natCast]
  have hn : n ≤ 62 := by omega
  have hlt : 2 ^ n ≤ 2 ^ 62 := Nat.pow_le_pow_right (by decide) hn
  have hp := pow_pos' n
  have hcast : ((2 ^ n : Nat) : Int) = (2 : Int) ^ n := by simp
  have hle : (2 : Int) ^ n ≤ 4611686018427387904 := by rw [← hcast]; omega
  have e1 : IntKind.u64.wrap ((2 : Int) ^ n) = 2 ^ n := u64w (by omega) (by omega)
  have e2 : IntKind.u64.wrap ((2 : Int) ^ n - 1) = 2 ^ n - 1 := u64w (by omega) (by omega)
  have e3 : IntKind.u64.wrap x % 2 ^ n = x % 2 ^ n := by
    rw [IntKind.wrap_u64]
    refine Int.emod_emod_of_dvd x ⟨2 ^ (64 - n), ?_⟩
    rw [← Int.pow_add, show n + (64 - n) = 64 by omega]
    decide
  rw [e1, e2, and_any .u64 (Or.inr rfl) n (by omega), e3]
  have e4 : Go.bits .and .i64 (x / 2 ^ n) 1 = x / 2 ^ n % 2 := and_any .i64 (Or.inl rfl) 1 (by decide) _
  rw [e4]
  have hw : (0 < n → wrap64 (x / 2 ^ n + 1) = x / 2 ^ n + 1) := by
    intro h
    have h2 : (2 : Int) ≤ 2 ^ n := by
      have : 2 ^ 1 ≤ 2 ^ n := Nat.pow_le_pow_right (by decide) h
      rw [← hcast]
      omega
    have hd1 : x / 2 ^ n < 9223372036854775807 := by
      have hm : 9223372036854775807 * 2 ≤ 9223372036854775807 * (2 : Int) ^ n := Int.mul_le_mul_of_nonneg_left h2 (by decide)
      exact Int.ediv_lt_of_lt_mul hp (by omega)
    have hd0 : -9223372036854775808 ≤ x / 2 ^ n := by
      have hm : -9223372036854775808 * (2 : Int) ^ n ≤ -9223372036854775808 * 1 := Int.mul_le_mul_of_nonpos_left (by decide) (by omega)
      exact Int.le_ediv_of_mul_le hp (by omega)
    rw [w64 (by omega) (by omega)]
  unfold sh
  by_cases c1 : x % 2 ^ n > 2 ^ n / 2
  · have h0 : 0 < n := by
      rcases Nat.eq_zero_or_pos n with h | h
      · subst h
        have : x % 2 ^ 0 = 0 := by simp
        rw [this] at c1
        exact absurd c1 (by decide)
      · exact h
    rw [if_pos c1, if_pos c1, hw h0]
  · rw [if_neg c1, if_neg c1]
    by_cases c2 : x % 2 ^ n = 2 ^ n / 2
    · rw [if_pos c2, if_pos c2]
      by_cases h0 : 0 < n
      · rw [if_pos (by omega), if_pos h0, hw h0]
        split <;> rfl
      · rw [if_neg (by omega), if_neg h0]
    · rw [if_neg c2, if_neg c2]

theorem step_is (i : Nat) (h : i < 33) : curve_step.f (i : Int) = some (tb i) := by
  unfold curve_step.f
  rw [if_pos (by omega), if_pos (by omega), Int.toNat_natCast]
  rfl

theorem exp_is (x : Int) (hx : -9223372036854775808 ≤ x ∧ x < 9223372036854775808) : curve_Exp.f x = some (ep x) := by
  unfold curve_Exp.f ep
  by_cases h0 : x ≥ 0
  · rw [if_pos h0, if_pos h0]
  · rw [if_neg h0, if_neg (show ¬ 0 ≤ x by omega)]
    by_cases h1 : x < (-4294967296)
    · rw [if_pos h1]
      unfold pw
      rw [if_pos (by omega)]
    · rw [if_neg h1, w64 (n := -x) (by omega) (by omega), w64 (n := -x * 94548) (by omega) (by omega)]
      obtain ⟨t, ht⟩ : ∃ t : Nat, -x * 94548 / 65536 = (t : Int) := Int.eq_ofNat_of_zero_le (by omega)
      rw [ht, Int.toNat_natCast]
      unfold pw
      by_cases hq : t / 65536 > 31
      · rw [if_pos (by omega), if_pos hq]
      · have e1 : Go.bits .and .i64 (t : Int) 65535 = ((t % 65536 : Nat) : Int) := by
          have := and_any .i64 (Or.inl rfl) 16 (by decide) (t : Int)
          have e : ((2 : Int) ^ 16 - 1) = 65535 := by decide
          have e' : ((2 : Int) ^ 16) = 65536 := by decide
          rw [e, e'] at this
          rw [this]
          simp
        have hf : t % 65536 < 65536 := Nat.mod_lt _ (by decide)
        have hqd : (t : Int) / 65536 = ((t / 65536 : Nat) : Int) := by simp
        rw [if_neg (by omega), if_neg hq, e1, hqd]
        generalize t % 65536 = f at *
        generalize t / 65536 = q at *
        have e2 : Go.bits .and .i64 (f : Int) 2047 = ((f % 2048 : Nat) : Int) := by
          have := and_any .i64 (Or.inl rfl) 11 (by decide) (f : Int)
          have e : ((2 : Int) ^ 11 - 1) = 2047 := by decide
          have e' : ((2 : Int) ^ 11) = 2048 := by decide
          rw [e, e'] at this
          rw [this]
          simp
        have e3 : (f : Int) / 2048 = ((f / 2048 : Nat) : Int) := by simp
        have e4 : wrap64 (((f / 2048 : Nat) : Int) + 1) = ((f / 2048 + 1 : Nat) : Int) := by rw [w64] <;> omega
        rw [e2, e3, e4, step_is _ (by omega), step_is _ (by omega)]
        simp only [Option.bind_some]
        have hr0 := tb_range (f / 2048) (by omega)
        have hr1 := tb_range (f / 2048 + 1) (by omega)
        have hd := tb_falls (f / 2048) (f / 2048 + 1) (by omega) (by omega)
        have hv := vf_range f hf
        have hvf : tb (f / 2048) - sh ((tb (f / 2048) - tb (f / 2048 + 1)) * ((f % 2048 : Nat) : Int)) 11 = vf f := rfl
        have hm0 : 0 ≤ (tb (f / 2048) - tb (f / 2048 + 1)) * ((f % 2048 : Nat) : Int) := Int.mul_nonneg (by omega) (by omega)
        have hm1 : (tb (f / 2048) - tb (f / 2048 + 1)) * ((f % 2048 : Nat) : Int) ≤ 65536 * ((f % 2048 : Nat) : Int) := Int.mul_le_mul_of_nonneg_right (by omega) (by omega)
        rw [w64 (n := tb (f / 2048) - tb (f / 2048 + 1)) (by omega) (by omega), w64 (n := (tb (f / 2048) - tb (f / 2048 + 1)) * ((f % 2048 : Nat) : Int)) (by omega) (by omega), shift_is _ _ (by omega)]
        have n11 : (mn (mx 11 0) 62).toNat = 11 := by decide
        rw [n11]
        simp only [Option.bind_some]
        rw [hvf, w64 (by omega) (by omega), shift_is _ _ (by omega)]
        have nq : (mn (mx (q : Int) 0) 62).toNat = q := by unfold mn mx; split <;> split <;> omega
        rw [nq]
        simp only [Option.bind_some]
        have s0 := sh_nonneg (x := vf f) (by omega) q
        have s1 := sh_self (x := vf f) (by omega) q
        rw [w32 (by omega) (by omega)]

theorem tame_is (x : Int) (hx : -2147483648 ≤ x ∧ x < 2147483648) : norm_tame.f x = some (tm x) := by
  unfold norm_tame.f
  rw [w64 (by omega) (by omega)]
  rfl
theorem sat_is (x : Int) : round_Sat8.f x = some (s8 x) := by
  have h := s8_range x
  unfold round_Sat8.f round_near_int8.f
  simp only [Option.bind_some]
  show some (IntKind.i8.wrap (s8 x)) = some (s8 x)
  rw [i8w h.1 h.2]
theorem sq_sum (s x : Int) (h0 : 0 ≤ s) (h1 : s < 9000000000000000000) : IntKind.u64.wrap (s + IntKind.u64.wrap (wrap64 (tm x * tm x))) = s + tm x * tm x := by
  have h := sq_range x
  generalize tm x * tm x = y at *
  rw [w64 (n := y) (by omega) (by omega), u64w (n := y) (by omega) (by omega), u64w (by omega) (by omega)]
/-- A row's mean square. -/
def ms (xs : List Int) : Int := sqs xs / (xs.length : Int)
theorem ms_range (xs : List Int) (hl : xs.length ≤ 1000) : 0 ≤ ms xs ∧ ms xs < 9000000000000000000 := by
  have h := sqs_range xs
  have h1 : sqs xs / (xs.length : Int) ≤ sqs xs := Int.ediv_le_self _ h.1
  have h2 : 0 ≤ sqs xs / (xs.length : Int) := Int.ediv_nonneg h.1 (by omega)
  have h3 : (xs.length : Int) * 70368744177664 ≤ 1000 * 70368744177664 := by omega
  unfold ms
  omega
theorem ms_is (xs : List Int) (hl : xs.length ≤ 1000) (h0 : 0 < xs.length) : IntKind.u64.wrap (Int.tdiv (sqs xs) (IntKind.u64.wrap (xs.length : Int))) = ms xs := by
  have h := ms_range xs hl
  have hs := sqs_range xs
  rw [u64w (n := (xs.length : Int)) (by omega) (by omega), Int.tdiv_eq_ediv_of_nonneg hs.1]
  unfold ms at *
  rw [u64w (by omega) (by omega)]
theorem len_u (xs : List Int) (hl : xs.length ≤ 1000) : IntKind.u64.wrap (xs.length : Int) = (xs.length : Int) := u64w (by omega) (by omega)
theorem sqs_small (xs : List Int) (hl : xs.length ≤ 1000) (i : Nat) : 0 ≤ sqs (xs.take i) ∧ sqs (xs.take i) < 9000000000000000000 := by
  have h := sqs_range (xs.take i)
  have h1 : (xs.take i).length ≤ 1000 := by rw [List.length_take]; omega
  omega
theorem square_loop (xs : List Int) (hx : ∀ x ∈ xs, -2147483648 ≤ x ∧ x < 2147483648) (hl : xs.length ≤ 1000) (h0 : 0 < xs.length) (d : Nat) : ∀ (k i : Nat), i + d = xs.length → d < k →
    norm_square.l0 k xs (sqs (xs.take i)) xs (xs.length : Int) (i : Int) = some (ms xs) := by
  induction d with
  | zero =>
    intro k i hi hk
    obtain ⟨k, rfl⟩ : ∃ m, k = m + 1 := ⟨k - 1, by omega⟩
    simp only [norm_square.l0]
    rw [if_neg (by omega), List.take_of_length_le (by omega), ms_is xs hl h0, len_u xs hl, if_neg (by omega)]
  | succ d ih =>
    intro k i hi hk
    obtain ⟨k, rfl⟩ : ∃ m, k = m + 1 := ⟨k - 1, by omega⟩
    have hlt : i < xs.length := by omega
    have ih' := ih k (i + 1) (by omega) (by omega)
    rw [sqs_take _ _ hlt] at ih'
    have hs := sqs_small xs hl i
    simp only [norm_square.l0]
    rw [if_pos (by omega), if_pos (by omega), if_pos (by omega), rd_at _ _ hlt, tame_is _ (hx _ (List.getElem_mem hlt))]
    simp only [Option.bind_some]
    rw [sq_sum _ _ hs.1 hs.2, succ_is i (by omega)]
    exact ih'
theorem square_is (xs : List Int) (hx : ∀ x ∈ xs, -2147483648 ≤ x ∧ x < 2147483648) (hl : xs.length ≤ 1000) (h0 : 0 < xs.length) (k : Nat) (hk : xs.length < k) : norm_square.f k xs = some (ms xs) := by
  unfold norm_square.f
  have := square_loop xs hx hl h0 xs.length k 0 (by omega) hk
  simpa [sqs] using this

/-- One by a root. -/
def InvOf (n q : Nat) : Prop := (n = 0 ∧ q = 16777216) ∨ (n ≠ 0 ∧ q * q ≤ 281474976710656 / n ∧ 281474976710656 / n < (q + 1) * (q + 1))
theorem invof_one {n p q : Nat} (h1 : InvOf n p) (h2 : InvOf n q) : p = q := by
  rcases h1 with ⟨a, b⟩ | ⟨a, b, c⟩ <;> rcases h2 with ⟨d, e⟩ | ⟨d, e, f⟩
  · omega
  · exact absurd a d
  · exact absurd d a
  · exact root_one b c e f
theorem invof_small {n q : Nat} (h : InvOf n q) : q ≤ 16777216 := by
  rcases h with ⟨_, b⟩ | ⟨a, b, c⟩
  · omega
  · have hd : 281474976710656 / n ≤ 281474976710656 := Nat.div_le_self _ _
    rcases Nat.lt_or_ge 16777216 q with h | h
    · have : 16777217 * 16777217 ≤ q * q := Nat.mul_le_mul h h
      omega
    · exact h
theorem inv_is (n : Nat) : ∃ q : Nat, InvOf n q ∧ ∀ k, 40 ≤ k → curve_Inverse.f k (n : Int) = some (q : Int) := by
  by_cases h0 : n = 0
  · subst h0
    exact ⟨16777216, Or.inl ⟨rfl, rfl⟩, fun k hk => rfl⟩
  · obtain ⟨q, hq, q1, q2, _⟩ := inverse_is n h0 40 (Nat.le_refl _)
    refine ⟨q, Or.inr ⟨h0, q1, q2⟩, fun k hk => ?_⟩
    obtain ⟨p, hp, p1, p2, _⟩ := inverse_is n h0 k hk
    rw [hp, root_one p1 p2 q1 q2]

/-- A row brought to one size. -/
def nrow (q : Int) (gains xs : List Int) : List Int := List.zipWith (nrm q) xs gains
theorem nrow_len (q : Int) (gains xs : List Int) (h : gains.length = xs.length) : (nrow q gains xs).length = xs.length := by
  unfold nrow
  rw [List.length_zipWith, h, Nat.min_self]
theorem nrow_at (q : Int) (gains xs : List Int) (i : Nat) (h : i < (nrow q gains xs).length) (h1 : i < xs.length) (h2 : i < gains.length) : (nrow q gains xs)[i] = s8 (sh (tm xs[i] * q * gains[i]) 23) := by
  have e : (List.zipWith (nrm q) xs gains)[i]'h = nrm q xs[i] gains[i] := List.getElem_zipWith
  exact e
theorem n23 : (mn (mx 23 0) 62).toNat = 23 := by decide
theorem norm_step (q x g : Int) (hq : 0 ≤ q ∧ q ≤ 16777216) (hg : -128 ≤ g ∧ g < 128) : round_Shift.f (wrap64 ((wrap64 (tm x * q)) * (wrap64 g))) 23 = some (sh (tm x * q * g) 23) := by
  have h := nrm_small q x g hq hg
  rw [w64 (n := g) (by omega) (by omega)]
  generalize hp : tm x * q = p at *
  rw [w64 h.1.1 h.1.2, w64 h.2.1 h.2.2, shift_is _ _ h.2, n23]
theorem norm_loop (q : Int) (hq : 0 ≤ q ∧ q ≤ 16777216) (gains xs : List Int) (hg : ∀ x ∈ gains, -128 ≤ x ∧ x < 128) (hx : ∀ x ∈ xs, -2147483648 ≤ x ∧ x < 2147483648) (hlen : gains.length = xs.length) (hl : xs.length ≤ 1000) (d : Nat) : ∀ (k i : Nat), i + d = xs.length → d < k →
    norm_Norm.l0 k gains q ((nrow q gains xs).take i ++ List.replicate d 0) xs (xs.length : Int) (i : Int) = some (nrow q gains xs, 0) := by
  have hR := nrow_len q gains xs hlen
  induction d with
  | zero =>
    intro k i hi hk
    obtain ⟨k, rfl⟩ : ∃ m, k = m + 1 := ⟨k - 1, by omega⟩
    simp only [norm_Norm.l0]
    rw [if_neg (by omega), List.take_of_length_le (by omega)]
    simp
  | succ d ih =>
    intro k i hi hk
    obtain ⟨k, rfl⟩ : ∃ m, k = m + 1 := ⟨k - 1, by omega⟩
    have hlt : i < xs.length := by omega
    have hlt2 : i < gains.length := by omega
    have hlt3 : i < (nrow q gains xs).length := by omega
    have ih' := ih k (i + 1) (by omega) (by omega)
    have hll : (i : Int) < (((nrow q gains xs).take i ++ List.replicate (d + 1) 0).length : Int) := by simp; omega
    have hst := set_step (nrow q gains xs) i d (by omega)
    simp only [norm_Norm.l0]
    rw [if_pos (by omega), if_pos (by omega), if_pos (by omega), rd_at _ _ hlt, tame_is _ (hx _ (List.getElem_mem hlt))]
    simp only [Option.bind_some]
    rw [if_pos (by omega), rd_at gains _ hlt2, norm_step q xs[i] gains[i] hq (hg _ (List.getElem_mem hlt2))]
    simp only [Option.bind_some]
    rw [sat_is]
    simp only [Option.bind_some]
    rw [if_pos hll, Int.toNat_natCast, ← nrow_at q gains xs i hlt3 hlt hlt2, hst, succ_is i (by omega)]
    exact ih'
theorem norm_is (gains xs : List Int) (hg : ∀ x ∈ gains, -128 ≤ x ∧ x < 128) (hx : ∀ x ∈ xs, -2147483648 ≤ x ∧ x < 2147483648) (hlen : gains.length = xs.length) (hl : xs.length ≤ 1000) :
    ∃ q : Nat, InvOf (ms xs).toNat q ∧ ∀ k, xs.length + 60 ≤ k → norm_Norm.f k gains xs = some (nrow q gains xs, 0) := by
  obtain ⟨q, hq, hk⟩ := inv_is (ms xs).toNat
  refine ⟨q, hq, fun k hk2 => ?_⟩
  obtain ⟨k, rfl⟩ : ∃ m, k = m + 1 := ⟨k - 1, by omega⟩
  have hq2 := invof_small hq
  have hm := ms_range xs hl
  unfold norm_Norm.f
  rw [if_pos (by omega), decide_eq_false (show ¬ (xs.length : Int) > 4096 by omega)]
  simp only [norm_Norm.j0]
  rw [if_neg (by decide)]
  by_cases h0 : (xs.length : Int) = 0
  · rw [if_pos h0]
    have e : nrow q gains xs = [] := List.eq_nil_of_length_eq_zero (by rw [nrow_len _ _ _ hlen]; omega)
    rw [e]
  · rw [if_neg h0, square_is xs hx hl (by omega) k (by omega)]
    simp only [Option.bind_some]
    have e : ms xs = (((ms xs).toNat : Nat) : Int) := by omega
    rw [e, hk k (by omega)]
    simp only [Option.bind_some]
    rw [if_pos (by omega), if_pos (by omega), Int.toNat_natCast, w64 (n := (q : Int)) (by omega) (by omega)]
    have := norm_loop q (by omega) gains xs hg hx hlen hl xs.length k 0 (by omega) (by omega)
    simpa using this

theorem awake_is : ∃ K, ∀ k, K ≤ k → pelotonlaw05_awake.f k = some true := Ev.of pelotonlaw05_awake.mono (k := 200) (by decide +kernel)

theorem sqs_neg (xs : List Int) (h : ∀ x ∈ xs, -32768 ≤ x ∧ x < 32768) : sqs (xs.map fun x => -x) = sqs xs := by
  induction xs with
  | nil => rfl
  | cons x xs ih =>
    have h1 := (tm_neg (h x List.mem_cons_self)).1
    have h2 := ih fun y hy => h y (List.mem_cons_of_mem _ hy)
    simp only [List.map_cons, sqs, h1, h2, Int.neg_mul_neg]
theorem s8_turn (v : Int) (h1 : s8 v > -127) (h2 : s8 v < 127) : s8 (-v) = - s8 v := by
  unfold s8 mn mx at *
  repeat' split at h1
  all_goals repeat' split at h2
  all_goals repeat' split
  all_goals omega
theorem turned (q : Int) (x g : Int) (h : -32768 ≤ x ∧ x < 32768) (h1 : s8 (sh (tm x * q * g) 23) > -127) (h2 : s8 (sh (tm x * q * g) 23) < 127) : s8 (sh (tm (-x) * q * g) 23) = IntKind.i8.wrap (- s8 (sh (tm x * q * g) 23)) := by
  have e := (tm_neg h).1
  rw [e, Int.neg_mul, Int.neg_mul, sh_neg _ 22, s8_turn _ h1 h2, i8w (by omega) (by omega)]
theorem signs_l1 (q : Int) (gains xs : List Int) (hx : ∀ x ∈ xs, -32768 ≤ x ∧ x < 32768) (hlen : gains.length = xs.length) (hl : xs.length ≤ 1000) (d : Nat) : ∀ (k i : Nat), i + d = xs.length → d < k →
    pelotonlaw05_NormSigns.l1 k (nrow q gains xs) (nrow q gains (xs.map fun x => -x)) (i : Int) = some true := by
  have hm : (xs.map fun x => -x).length = xs.length := List.length_map _
  have hR := nrow_len q gains xs hlen
  have hR2 := nrow_len q gains (xs.map fun x => -x) (by omega)
  induction d with
  | zero =>
    intro k i hi hk
    obtain ⟨k, rfl⟩ : ∃ m, k = m + 1 := ⟨k - 1, by omega⟩
    simp only [pelotonlaw05_NormSigns.l1]
    rw [if_neg (by omega)]
  | succ d ih =>
    intro k i hi hk
    obtain ⟨k, rfl⟩ : ∃ m, k = m + 1 := ⟨k - 1, by omega⟩
    have hlt : i < xs.length := by omega
    have hlt2 : i < gains.length := by omega
    have hlt3 : i < (nrow q gains xs).length := by omega
    have hlt4 : i < (nrow q gains (xs.map fun x => -x)).length := by omega
    have ih' := ih k (i + 1) (by omega) (by omega)
    have ht := turned q xs[i] gains[i] (hx _ (List.getElem_mem hlt))
    simp only [pelotonlaw05_NormSigns.l1]
    rw [if_pos (by omega), if_pos (by omega), rd_at _ _ hlt3, nrow_at _ _ _ i hlt3 hlt hlt2, if_pos (show (i : Int) < ((nrow q gains (xs.map fun x => -x)).length : Int) from Int.ofNat_lt.2 hlt4), rd_at _ _ hlt4, nrow_at _ _ _ i hlt4 (by omega) hlt2, succ_is i (by omega), List.getElem_map]
    by_cases h1 : s8 (sh (tm xs[i] * q * gains[i]) 23) > -127
    · rw [if_pos h1]
      by_cases h2 : s8 (sh (tm xs[i] * q * gains[i]) 23) < 127
      · rw [if_pos h2, if_pos (ht h1 h2)]
        exact ih'
      · rw [if_neg h2]
        exact ih'
    · rw [if_neg h1]
      exact ih'
theorem signs_l0 (gains xs : List Int) (hg : ∀ x ∈ gains, -128 ≤ x ∧ x < 128) (hx : ∀ x ∈ xs, -32768 ≤ x ∧ x < 32768) (hlen : gains.length = xs.length) (hl : xs.length ≤ 1000) (d : Nat) : ∀ (k i : Nat), i + d = xs.length → d + 2000 < k →
    pelotonlaw05_NormSigns.l0 k gains xs (xs.take i) ((xs.take i).map fun x => -x) (i : Int) = some true := by
  induction d with
  | zero =>
    intro k i hi hk
    obtain ⟨k, rfl⟩ : ∃ m, k = m + 2 := ⟨k - 2, by omega⟩
    have hx2 : ∀ x ∈ xs, -2147483648 ≤ x ∧ x < 2147483648 := fun x h => by have := hx x h; omega
    have hx3 : ∀ x ∈ (xs.map fun x => -x), -2147483648 ≤ x ∧ x < 2147483648 := by
      intro x h
      obtain ⟨y, hy, rfl⟩ := List.mem_map.1 h
      have := hx y hy
      omega
    have hm : (xs.map fun x => -x).length = xs.length := List.length_map _
    obtain ⟨q, hq, hn⟩ := norm_is gains xs hg hx2 hlen hl
    obtain ⟨p, hp, hn2⟩ := norm_is gains (xs.map fun x => -x) hg hx3 (by omega) (by omega)
    have e : ms (xs.map fun x => -x) = ms xs := by unfold ms; rw [sqs_neg xs hx, hm]
    rw [e] at hp
    have e2 := invof_one hp hq
    subst e2
    have hR := nrow_len p gains xs hlen
    have hR2 := nrow_len p gains (xs.map fun x => -x) (by omega)
    simp only [pelotonlaw05_NormSigns.l0]
    rw [if_neg (by omega), List.take_of_length_le (by omega), hn _ (by omega), hn2 _ (by omega)]
    simp only [Option.bind_some]
    rw [if_pos trivial, if_pos trivial, if_pos (by omega)]
    have eb : (((nrow (p : Int) gains (xs.map fun x => -x)).length : Int) != (xs.length : Int)) = false := by rw [hR2, hm]; exact bne_self_eq_false _
    rw [eb]
    simp only [pelotonlaw05_NormSigns.j2]
    rw [if_neg (by decide)]
    exact signs_l1 p gains xs hx hlen hl xs.length k 0 (by omega) (by omega)
  | succ d ih =>
    intro k i hi hk
    obtain ⟨k, rfl⟩ : ∃ m, k = m + 1 := ⟨k - 1, by omega⟩
    have hlt : i < xs.length := by omega
    have hxi := hx _ (List.getElem_mem hlt)
    have ih' := ih k (i + 1) (by omega) (by omega)
    rw [take_map_succ _ _ _ hlt, take_step _ _ hlt] at ih'
    simp only [pelotonlaw05_NormSigns.l0]
    rw [if_pos (by omega), if_pos (by omega), if_pos (by simp; omega), if_pos (by simp; omega), rd_at _ _ hlt, w32 (n := xs[i]) (by omega) (by omega), w32 (by omega) (by omega), succ_is i (by omega)]
    exact ih'
theorem NormSigns : pelotonlaw05_NormSigns.Pure := by
  intro gains xs _ _ hwg _ _ hwx
  obtain ⟨K, hK⟩ := awake_is
  have hg : ∀ x ∈ gains, -128 ≤ x ∧ x < 128 := fun x h => wf_i8 (hwg x h)
  have hx : ∀ x ∈ xs, -32768 ≤ x ∧ x < 32768 := fun x h => wf_i16 (hwx x h)
  refine ⟨K + 5000, ?_⟩
  unfold pelotonlaw05_NormSigns.f
  rw [hK _ (by omega)]
  simp only [Option.bind_some]
  rw [if_pos trivial]
  obtain ⟨k, hk⟩ : ∃ m, K + 5000 = m + 1 := ⟨K + 4999, rfl⟩
  rw [hk]
  have yes : pelotonlaw05_NormSigns.j0 (k + 1) gains xs true = some true := by
    simp only [pelotonlaw05_NormSigns.j0]
    rw [if_pos trivial, hK _ (by omega)]
    rfl
  by_cases h : (gains.length : Int) = (xs.length : Int)
  · rw [if_pos h]
    by_cases h2 : (xs.length : Int) > 200
    · rw [decide_eq_true h2]
      exact yes
    · rw [decide_eq_false h2]
      simp only [pelotonlaw05_NormSigns.j0]
      rw [if_neg (by decide)]
      exact signs_l0 gains xs hg hx (by omega) (by omega) xs.length k 0 (by omega) (by omega)
  · rw [if_neg h]
    exact yes

end Go.Proofs.Ytmpdkjcobpghaaa.Pure
