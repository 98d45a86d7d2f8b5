/- A shift to the nearest is the document's; the examples. -/
import Derived.Test.YtmpdkjcobpghaaaT1b
import Derived.Test.YtmpdkjcobpghaaaPl
namespace Go.Proofs.Ytmpdkjcobpghaaa
open Go Go.Hp
set_option linter.unusedVariables false
theorem law05_up : law05_awake 1000 = some true := by decide +kernel
/-- A shift down, to the nearest, of two the even one. -/
def sh (x : Int) (n : Nat) : Int := if x % 2 ^ n > 2 ^ n / 2 then x / 2 ^ n + 1 else if x % 2 ^ n = 2 ^ n / 2 then (if 0 < n then (if x / 2 ^ n % 2 = 1 then x / 2 ^ n + 1 else x / 2 ^ n) else x / 2 ^ n) else x / 2 ^ n
theorem pow_pos' (n : Nat) : (0 : Int) < 2 ^ n := by
  have : 0 < 2 ^ n := Nat.two_pow_pos n
  exact_mod_cast this
theorem pow_le62 (k : Nat) (hk2 : k ≤ 62) : (2 : Int) ^ k ≤ 4611686018427387904 := by
  have : 2 ^ k ≤ 2 ^ 62 := Nat.pow_le_pow_right (by decide) hk2
  have hcast : ((2 ^ k : Nat) : Int) = (2 : Int) ^ k := by simp
  rw [← hcast]; omega
theorem sh_mul (x : Int) (n : Nat) : sh (x * 2 ^ n) n = x := by
  have hp := pow_pos' n
  have h1 : x * 2 ^ n % 2 ^ n = 0 := Int.mul_emod_left _ _
  have h2 : x * 2 ^ n / 2 ^ n = x := Int.mul_ediv_cancel _ (by omega)
  unfold sh
  rw [h1, h2]
  rw [if_neg (by omega)]
  split
  · rename_i h
    cases n with
    | zero => rfl
    | succ n =>
      exfalso
      have e : (2 : Int) ^ (n + 1) = 2 ^ n * 2 := Int.pow_succ 2 n
      have := pow_pos' n
      rw [e] at h
      omega
  · rfl
theorem and_low (k : IntKind) (hk : k = .i64 ∨ k = .u64) (i : Nat) (hi : i < 63) (x : Int) : iand k x (2 ^ i - 1) = x % 2 ^ i := by
  have hb : k.bits = 64 := by rcases hk with rfl | rfl <;> rfl
  have hpos : 0 < 2 ^ i := Nat.two_pow_pos i
  have hlt : 2 ^ i ≤ 2 ^ 62 := Nat.pow_le_pow_right (by decide) (by omega)
  have hc : ((2 : Int) ^ i - 1) = ((2 ^ i - 1 : Nat) : Int) := by
    rw [Int.natCast_sub hpos]; simp
  have hnn : 0 ≤ x % 18446744073709551616 := Int.emod_nonneg _ (by decide)
  obtain ⟨a, ha⟩ := Int.eq_ofNat_of_zero_le hnn
  have hal : a < 18446744073709551616 := by omega
  have e1 : (BitVec.ofInt 64 x).toNat = a := by
    rw [BitVec.toNat_ofInt]
    show (x % ((2 ^ 64 : Nat) : Int)).toNat = a
    have : ((2 ^ 64 : Nat) : Int) = 18446744073709551616 := by decide
    rw [this, ha]
    rfl
  have e2 : (BitVec.ofInt 64 (((2 ^ i - 1 : Nat) : Int))).toNat = 2 ^ i - 1 := by
    rw [BitVec.ofInt_natCast, BitVec.toNat_ofNat]
    exact Nat.mod_eq_of_lt (by omega)
  have hdvd : (2 : Int) ^ i ∣ 18446744073709551616 := by
    refine ⟨2 ^ (64 - i), ?_⟩
    rw [← Int.pow_add, show i + (64 - i) = 64 by omega]
    decide
  have hmm : x % 2 ^ i = ((a % 2 ^ i : Nat) : Int) := by
    rw [← Int.emod_emod_of_dvd x hdvd, ha]
    simp
  have hml : a % 2 ^ i < 2 ^ i := Nat.mod_lt _ hpos
  rw [hc, hmm]
  have hw : ∀ z : Nat, z < 2 ^ 62 → k.wrap (z : Int) = (z : Int) := by
    intro z hz
    rcases hk with rfl | rfl
    · rw [IntKind.wrap_i64]; omega
    · rw [IntKind.wrap_u64]; omega
  have e3 : (BitVec.ofInt 64 x &&& BitVec.ofInt 64 (((2 ^ i - 1 : Nat) : Int))).toNat = a % 2 ^ i := by rw [BitVec.toNat_and, e1, e2, Nat.and_two_pow_sub_one_eq_mod]
  have e4 : iand k x (((2 ^ i - 1 : Nat) : Int)) = k.wrap ((BitVec.ofInt 64 x &&& BitVec.ofInt 64 (((2 ^ i - 1 : Nat) : Int))).toNat : Int) := by rcases hk with rfl | rfl <;> rfl
  rw [e4, e3]
  exact hw _ (by omega)
theorem half_in (x : Int) (hx : -9223372036854775808 ≤ x ∧ x ≤ 9223372036854775807) (n : Nat) (hn : 0 < n) : -4611686018427387904 ≤ x / 2 ^ n ∧ x / 2 ^ n < 4611686018427387904 := by
  obtain ⟨m, rfl⟩ : ∃ m, n = m + 1 := ⟨n - 1, by omega⟩
  have hp := pow_pos' (m + 1)
  have hpm := pow_pos' m
  have hps : (2 : Int) ^ (m + 1) = 2 ^ m * 2 := Int.pow_succ 2 m
  refine ⟨Int.le_ediv_of_mul_le hp ?_, Int.ediv_lt_of_lt_mul hp ?_⟩
  · have hm : -4611686018427387904 * (2 : Int) ^ (m + 1) ≤ -4611686018427387904 * 2 := Int.mul_le_mul_of_nonpos_left (by decide) (by omega)
    omega
  · have hm : 4611686018427387904 * 2 ≤ 4611686018427387904 * (2 : Int) ^ (m + 1) := Int.mul_le_mul_of_nonneg_left (by omega) (by decide)
    omega
theorem shift_is (x n : Int) (hx : -9223372036854775808 ≤ x ∧ x ≤ 9223372036854775807) : round_Shift x n = some (sh x (min (max n 0) 62).toNat) := by
  obtain ⟨k, hk⟩ := Int.eq_ofNat_of_zero_le (show 0 ≤ min (max n 0) 62 by omega)
  have hk2 : k ≤ 62 := by omega
  have hp := pow_pos' k
  have h62 := pow_le62 k hk2
  have e1 : ishr .i64 x (k : Int) = x / 2 ^ k := by
    unfold ishr
    rw [show min ((k : Int).toNat) IntKind.i64.bits = k by show min ((k:Int).toNat) 64 = k; omega, Int.fdiv_eq_ediv_of_nonneg _ (by omega)]
  have e2 : ishl .u64 1 (k : Int) = 2 ^ k := by
    unfold ishl
    rw [show min ((k : Int).toNat) IntKind.u64.bits = k by show min ((k:Int).toNat) 64 = k; omega, Int.one_mul, IntKind.wrap_u64]; omega
  have e3 : ishr .u64 (2 ^ k) 1 = 2 ^ k / 2 := by
    unfold ishr
    rw [show min ((1 : Int).toNat) IntKind.u64.bits = 1 from rfl, Int.fdiv_eq_ediv_of_nonneg _ (by omega)]
    rfl
  have e4 : IntKind.u64.wrap ((2:Int) ^ k - 1) = 2 ^ k - 1 := by rw [IntKind.wrap_u64]; omega
  have e5 : iand .u64 (IntKind.u64.wrap x) (2 ^ k - 1) = x % 2 ^ k := by
    rw [and_low _ (.inr rfl) k (by omega), IntKind.wrap_u64]
    refine Int.emod_emod_of_dvd x ?_
    refine ⟨2 ^ (64 - k), ?_⟩
    rw [← Int.pow_add, show k + (64 - k) = 64 by omega]; decide
  have e6 : ∀ z : Int, iand .i64 z 1 = z % 2 := fun z => and_low .i64 (.inl rfl) 1 (by omega) z
  unfold round_Shift
  rw [hk]
  simp only [chk_ok _ (show (0:Int) ≤ (k:Int) by omega), Option.bind_some, e1, e2, e4, e5, e3, e6]
  unfold sh
  rw [Int.toNat_natCast]
  by_cases h0 : 0 < k
  · have hd := half_in x hx k h0
    have hw : IntKind.i64.wrap (x / 2 ^ k + 1) = x / 2 ^ k + 1 := W_in (by omega)
    by_cases c1 : x % 2 ^ k > 2 ^ k / 2
    · rw [if_pos c1, if_pos c1, round_Shift.J1, if_pos rfl, hw]
    · rw [if_neg c1, if_neg c1]
      by_cases c2 : x % 2 ^ k = 2 ^ k / 2
      · rw [if_pos c2, if_pos c2, if_pos (show (k : Int) > 0 by omega), if_pos h0, round_Shift.J1]
        by_cases c3 : x / 2 ^ k % 2 = 1
        · rw [if_pos (by simp only [c3, decide_true]), if_pos c3, hw]
        · rw [if_neg (by simp only [c3, decide_false]; decide), if_neg c3]
      · rw [if_neg c2, if_neg c2, round_Shift.J1, if_neg (by decide)]
  · obtain rfl : k = 0 := by omega
    have z1 : x % (2 : Int) ^ 0 = 0 := by simp
    have z2 : (2 : Int) ^ 0 / 2 = 0 := by decide
    rw [z1, z2, if_neg (by decide), if_pos rfl, if_neg (by decide), if_neg (by decide), if_pos rfl, if_neg (by decide), round_Shift.J1, if_neg (by decide)]
theorem J3_is (m : Nat) (hm : m + 1 ≤ 62) (q r : Int) (hq : -4611686018427387904 ≤ q ∧ q < 4611686018427387904) (h0 : 0 ≤ r) (h1 : r < 2 ^ (m + 1)) :
    ref01_Shift.J3 (2 ^ (m + 1)) q r = some (if r > 2 ^ (m + 1) / 2 then q + 1 else if r = 2 ^ (m + 1) / 2 then (if q % 2 = 1 then q + 1 else q) else q) := by
  have hps : (2 : Int) ^ (m + 1) = 2 ^ m * 2 := Int.pow_succ 2 m
  have hpm := pow_pos' m
  have hle := pow_le62 (m + 1) hm
  have hh : (2 : Int) ^ (m + 1) / 2 = 2 ^ m := by rw [hps]; omega
  rw [hh]
  have par : ∀ z : Int, (Int.tmod z 2 ≠ 0) ↔ z % 2 = 1 := by
    intro z
    rw [Ne, ← Int.dvd_iff_tmod_eq_zero, Int.dvd_iff_emod_eq_zero]
    omega
  have hw : IntKind.i64.wrap (q + 1) = q + 1 := W_in (by omega)
  have hw2 : IntKind.i64.wrap (2 ^ (m + 1) - r) = 2 ^ (m + 1) - r := W_in (by omega)
  unfold ref01_Shift.J3
  rw [hw2]
  by_cases c1 : r > 2 ^ m
  · rw [if_pos (by omega), if_pos c1, ref01_Shift.J4, if_pos rfl, hw]
  · rw [if_neg (by omega), if_neg c1]
    by_cases c2 : r = 2 ^ m
    · rw [if_pos (by omega), if_pos c2, ref01_Shift.J4]
      by_cases c3 : q % 2 = 1
      · rw [if_pos (decide_eq_true ((par q).2 c3)), if_pos c3, hw]
      · rw [if_neg (by intro h; exact c3 ((par q).1 (of_decide_eq_true h))), if_neg c3]
    · rw [if_neg (by omega), if_neg c2, ref01_Shift.J4, if_neg (by decide)]
theorem refshift_loop (x : Int) (hx : -9223372036854775808 ≤ x ∧ x ≤ 9223372036854775807) (n : Nat) (hn : 0 < n) (hn2 : n ≤ 62) (d : Nat) : ∀ (k i : Nat), i + d = n → d < k →
    ref01_Shift.L2 x (n : Int) k (2 ^ i) (i : Int) = some (sh x n) := by
  induction d with
  | zero =>
    intro k i hi hk
    obtain ⟨k, rfl⟩ : ∃ m, k = m + 1 := ⟨k - 1, by omega⟩
    obtain rfl : i = n := by omega
    have hp := pow_pos' i
    have hfl := half_in x hx i hn
    obtain ⟨m, rfl⟩ : ∃ m, i = m + 1 := ⟨i - 1, by omega⟩
    have hpm := pow_pos' m
    have hps : (2 : Int) ^ (m + 1) = 2 ^ m * 2 := Int.pow_succ 2 m
    have hle := pow_le62 (m + 1) hn2
    have hdm := Int.mul_tdiv_add_tmod x (2 ^ (m + 1))
    have hlt := Int.tmod_lt_of_pos x hp
    have hgt : -(2 ^ (m + 1)) < Int.tmod x (2 ^ (m + 1)) := Int.lt_tmod_of_pos x hp
    rw [ref01_Shift.L2, if_neg (by omega), chk_ok _ (by omega), Option.bind_some, chk_ok _ (by omega)]
    unfold sh
    rw [if_pos (show 0 < m + 1 by omega)]
    by_cases hneg : Int.tmod x (2 ^ (m + 1)) < 0
    · have huq : x / 2 ^ (m + 1) = Int.tdiv x (2 ^ (m + 1)) - 1 ∧ x % 2 ^ (m + 1) = Int.tmod x (2 ^ (m + 1)) + 2 ^ (m + 1) := by
        refine (Int.ediv_emod_unique hp).2 ⟨?_, by omega, by omega⟩
        rw [Int.mul_sub, Int.mul_one]
        omega
      rw [if_pos hneg, Option.bind_some]
      rw [huq.1] at hfl ⊢
      rw [huq.2]
      generalize Int.tdiv x (2 ^ (m + 1)) = q at *
      generalize Int.tmod x (2 ^ (m + 1)) = r at *
      rw [W_in (x := q) (by omega), W_in (x := q - 1) (by omega), W_in (x := r + 2 ^ (m + 1)) (by omega)]
      exact J3_is m hn2 (q - 1) (r + 2 ^ (m + 1)) hfl (by omega) (by omega)
    · have huq : x / 2 ^ (m + 1) = Int.tdiv x (2 ^ (m + 1)) ∧ x % 2 ^ (m + 1) = Int.tmod x (2 ^ (m + 1)) := (Int.ediv_emod_unique hp).2 ⟨by omega, by omega, by omega⟩
      rw [if_neg hneg]
      rw [huq.1] at hfl ⊢
      rw [huq.2]
      generalize Int.tdiv x (2 ^ (m + 1)) = q at *
      generalize Int.tmod x (2 ^ (m + 1)) = r at *
      rw [W_in (x := q) (by omega)]
      exact J3_is m hn2 q r hfl (by omega) (by omega)
  | succ d ih =>
    intro k i hi hk
    obtain ⟨k, rfl⟩ : ∃ m, k = m + 1 := ⟨k - 1, by omega⟩
    have hps : (2 : Int) ^ (i + 1) = 2 ^ i * 2 := Int.pow_succ 2 i
    have hp := pow_pos' i
    have hle := pow_le62 (i + 1) (by omega)
    rw [ref01_Shift.L2, if_pos (by omega), W_in (x := 2 ^ i * 2) (by omega), ← hps, W_succ i (by omega)]
    exact ih k (i + 1) (by omega) (by omega)
theorem refshift_is (x a : Int) (hx : -9223372036854775808 ≤ x ∧ x ≤ 9223372036854775807) : ref01_Shift 1000 x a = some (sh x (min (max a 0) 62).toNat) := by
  have key : ∀ b : Int, b ≤ 62 → ref01_Shift.J1 1000 x b = some (sh x (max b 0).toNat) := by
    intro b hb
    rw [ref01_Shift.J1]
    by_cases h : b ≤ 0
    · have e : (max b 0).toNat = 0 := by omega
      rw [if_pos h, e]
      unfold sh
      have e1 : x % (2 : Int) ^ 0 = 0 := by simp
      have e2 : (2 : Int) ^ 0 / 2 = 0 := by decide
      have e3 : x / (2 : Int) ^ 0 = x := by simp
      rw [e1, e2, e3, if_neg (by decide), if_pos rfl, if_neg (by decide)]
    · obtain ⟨n, rfl⟩ := Int.eq_ofNat_of_zero_le (show 0 ≤ b by omega)
      have e : (max (n : Int) 0).toNat = n := by omega
      rw [if_neg h, e]
      exact refshift_loop x hx n (by omega) (by omega) n 1000 0 (by omega) (by omega)
  unfold ref01_Shift
  by_cases h : a > 62
  · rw [if_pos h, key 62 (by decide), show min (max a 0) 62 = max 62 0 by omega]
  · rw [if_neg h, key a (by omega), show min (max a 0) 62 = max a 0 by omega]
end Go.Proofs.Ytmpdkjcobpghaaa
