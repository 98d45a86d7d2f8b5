/- Plain facts on rows brought to one size, and on weights. -/
import Derived.Test.YtmpdkjcobpghaaaEShift
namespace Go.Proofs.YtmpdkjcobpghaaaPlain
open Go.RowKit Go.Proofs.YtmpdkjcobpghaaaW.PrintWords Go.Proofs.YtmpdkjcobpghaaaW.PrintMore

theorem take_step {α : Type} (R : List α) (i : Nat) (h : i < R.length) : R.take (i + 1) = R.take i ++ [R[i]] := List.take_succ_eq_append_getElem h
theorem set_step (R : List Int) (i d : Nat) (h : i + (d + 1) = R.length) : (R.take i ++ List.replicate (d + 1) 0).set i (R[i]'(by omega)) = R.take (i + 1) ++ List.replicate d 0 := by
  have e := set_zeros (R.take i) d 0 (R[i]'(by omega))
  rw [List.length_take, Nat.min_eq_left (by omega)] at e
  rw [e, take_step R i (by omega), List.append_assoc]
  rfl
theorem wf_i8 {x : Int} (h : (Lit.int .i8 x).wf = true) : -128 ≤ x ∧ x < 128 := by
  simp [Lit.wf, IntKind.min, IntKind.max, IntKind.signed, IntKind.bits] at h
  omega
theorem wf_i16 {x : Int} (h : (Lit.int .i16 x).wf = true) : -32768 ≤ x ∧ x < 32768 := by
  simp [Lit.wf, IntKind.min, IntKind.max, IntKind.signed, IntKind.bits] at h
  omega
theorem succ_is (i : Nat) (h : i < 1000000) : wrap64 ((i : Int) + 1) = ((i + 1 : Nat) : Int) := by rw [w64] <;> omega

/-- A number brought to the range that may be squared. -/
def tm (x : Int) : Int := mn (mx x (-8388608)) 8388607
theorem tm_range (x : Int) : -8388608 ≤ tm x ∧ tm x ≤ 8388607 := by
  unfold tm mn mx
  split <;> split <;> omega
/-- A number of 8 bits. -/
def s8 (x : Int) : Int := mn (mx x (-128)) 127
theorem s8_range (x : Int) : -128 ≤ s8 x ∧ s8 x ≤ 127 := by
  unfold s8 mn mx
  split <;> split <;> omega
theorem i8w {n : Int} (h0 : -128 ≤ n) (h1 : n ≤ 127) : IntKind.i8.wrap n = n := by
  have e : IntKind.i8.wrap n = if n % 256 ≥ 128 then n % 256 - 256 else n % 256 := by
    simp [IntKind.wrap, IntKind.bits, IntKind.signed]
  rw [e]
  by_cases h : 0 ≤ n
  · rw [if_neg (by omega)]; omega
  · rw [if_pos (by omega)]; omega
theorem sq_range (x : Int) : 0 ≤ tm x * tm x ∧ tm x * tm x ≤ 70368744177664 := by
  have h := tm_range x
  refine ⟨?_, ?_⟩
  · rcases Int.le_total 0 (tm x) with h0 | h0
    · exact Int.mul_nonneg h0 h0
    · exact Int.mul_nonneg_of_nonpos_of_nonpos h0 h0
  · rcases Int.le_total 0 (tm x) with h0 | h0
    · have : tm x * tm x ≤ 8388608 * tm x := Int.mul_le_mul_of_nonneg_right (by omega) h0
      omega
    · have e : tm x * tm x = (- tm x) * (- tm x) := by rw [Int.neg_mul_neg]
      have : (- tm x) * (- tm x) ≤ 8388608 * (- tm x) := Int.mul_le_mul_of_nonneg_right (by omega) (by omega)
      omega
def sqs : List Int → Int
  | [] => 0
  | x :: xs => tm x * tm x + sqs xs
theorem sqs_append (xs ys : List Int) : sqs (xs ++ ys) = sqs xs + sqs ys := by
  induction xs with
  | nil => simp [sqs]
  | cons x xs ih => simp only [List.cons_append, sqs, ih]; omega
theorem sqs_range (xs : List Int) : 0 ≤ sqs xs ∧ sqs xs ≤ xs.length * 70368744177664 := by
  induction xs with
  | nil => simp [sqs]
  | cons x xs ih =>
    have := sq_range x
    simp only [sqs, List.length_cons]
    omega
theorem sqs_take (xs : List Int) (i : Nat) (h : i < xs.length) : sqs (xs.take (i + 1)) = sqs (xs.take i) + tm xs[i] * tm xs[i] := by
  rw [take_step xs i h, sqs_append]
  simp [sqs]
/-- A number of a row brought to one size. -/
def nrm (q x g : Int) : Int := s8 (sh (tm x * q * g) 23)
theorem nrm_small (q x g : Int) (hq : 0 ≤ q ∧ q ≤ 16777216) (hg : -128 ≤ g ∧ g < 128) : (-9223372036854775808 ≤ tm x * q ∧ tm x * q < 9223372036854775808) ∧ (-9223372036854775808 ≤ tm x * q * g ∧ tm x * q * g < 9223372036854775808) := by
  have ht := tm_range x
  have h1 : tm x * q ≤ 8388608 * q := Int.mul_le_mul_of_nonneg_right (by omega) hq.1
  have h2 : -8388608 * q ≤ tm x * q := Int.mul_le_mul_of_nonneg_right (by omega) hq.1
  have h3 : -140737488355328 ≤ tm x * q ∧ tm x * q ≤ 140737488355328 := by omega
  refine ⟨by omega, ?_⟩
  generalize tm x * q = p at *
  rcases Int.le_total 0 p with h0 | h0
  · have a : p * g ≤ p * 128 := Int.mul_le_mul_of_nonneg_left (by omega) h0
    have b : p * (-128) ≤ p * g := Int.mul_le_mul_of_nonneg_left (by omega) h0
    omega
  · have a : p * g ≤ p * (-128) := Int.mul_le_mul_of_nonpos_left h0 (by omega)
    have b : p * 128 ≤ p * g := Int.mul_le_mul_of_nonpos_left h0 (by omega)
    omega

/-- The greatest of some. -/
def IsTop (t : Int) (xs : List Int) : Prop := t ∈ xs ∧ ∀ y ∈ xs, y ≤ t
theorem top_one {s t : Int} {xs : List Int} (h1 : IsTop s xs) (h2 : IsTop t xs) : s = t := by
  have a := h1.2 t h2.1
  have b := h2.2 s h1.1
  omega
/-- A power of a difference. -/
def pwr (t by_ : Int) (N : Nat) (x : Int) : Int := ep (sh ((x - t) * by_) N)
theorem diff_range {x t b : Int} (hx : -2147483648 ≤ x ∧ x < 2147483648) (ht : -2147483648 ≤ t ∧ t < 2147483648) (hxt : x ≤ t) (hb : -2147483648 ≤ b ∧ b < 2147483648) : -9223372036854775808 ≤ (x - t) * b ∧ (x - t) * b < 9223372036854775808 := by
  have h0 : x - t ≤ 0 := by omega
  have a : (x - t) * b ≤ (x - t) * (-2147483648) := Int.mul_le_mul_of_nonpos_left h0 hb.1
  have c : (x - t) * 2147483648 ≤ (x - t) * b := Int.mul_le_mul_of_nonpos_left h0 (by omega)
  omega
theorem pwr_range (t b : Int) (N : Nat) (x : Int) : 0 ≤ pwr t b N x ∧ pwr t b N x ≤ 65536 := ep_range _
/-- Weights. -/
def sm (t b : Int) (N : Nat) (xs : List Int) : List Int := (xs.map (pwr t b N)).map (share 65536 (wsum (xs.map (pwr t b N))))

theorem sh_neg (x : Int) (m : Nat) : sh (-x) (m + 1) = - sh x (m + 1) := by
  have hp := pow_pos' m
  have e : (2 : Int) ^ (m + 1) = 2 * 2 ^ m := by rw [Int.pow_succ, Int.mul_comm]
  have hx := Int.emod_add_mul_ediv x (2 ^ (m + 1))
  have h0 := Int.emod_nonneg x (show (2 : Int) ^ (m + 1) ≠ 0 by omega)
  have h1 := Int.emod_lt_of_pos x (show (0 : Int) < 2 ^ (m + 1) by omega)
  have hh : (2 : Int) ^ (m + 1) / 2 = 2 ^ m := by omega
  have hD : (0 : Int) < 2 ^ (m + 1) := by omega
  have key : (x % 2 ^ (m + 1) = 0 ∧ (-x) / 2 ^ (m + 1) = -(x / 2 ^ (m + 1)) ∧ (-x) % 2 ^ (m + 1) = 0) ∨ (x % 2 ^ (m + 1) ≠ 0 ∧ (-x) / 2 ^ (m + 1) = -(x / 2 ^ (m + 1)) - 1 ∧ (-x) % 2 ^ (m + 1) = 2 ^ (m + 1) - x % 2 ^ (m + 1)) := by
    by_cases hz : x % 2 ^ (m + 1) = 0
    · refine Or.inl ⟨hz, (Int.ediv_emod_unique hD).2 ⟨?_, by omega, by omega⟩⟩
      rw [Int.mul_neg]
      omega
    · refine Or.inr ⟨hz, (Int.ediv_emod_unique hD).2 ⟨?_, by omega, by omega⟩⟩
      rw [Int.mul_sub, Int.mul_neg, Int.mul_one]
      omega
  unfold sh
  rw [hh]
  generalize (2 : Int) ^ (m + 1) = D at *
  generalize (2 : Int) ^ m = h at *
  generalize x / D = q at *
  generalize x % D = r at *
  generalize (-x) / D = q2 at *
  generalize (-x) % D = r2 at *
  clear hx
  rw [if_pos (show 0 < m + 1 by omega), if_pos (show 0 < m + 1 by omega)]
  rcases key with ⟨k1, rfl, rfl⟩ | ⟨k1, rfl, rfl⟩
  · subst k1
    rw [if_neg (show ¬ (0 : Int) > h by omega), if_neg (show ¬ (0 : Int) = h by omega), if_neg (show ¬ (0 : Int) > h by omega), if_neg (show ¬ (0 : Int) = h by omega)]
  · by_cases c1 : r > h
    · rw [if_neg (show ¬ D - r > h by omega), if_neg (show ¬ D - r = h by omega), if_pos c1]
      omega
    · by_cases c2 : r = h
      · rw [if_neg (show ¬ D - r > h by omega), if_pos (show D - r = h by omega), if_neg c1, if_pos c2]
        split <;> split <;> omega
      · rw [if_pos (show D - r > h by omega), if_neg c1, if_neg c2]
        omega
theorem tm_neg {x : Int} (h : -32768 ≤ x ∧ x < 32768) : tm (-x) = - tm x ∧ tm x = x := by
  unfold tm mn mx
  repeat' split
  all_goals omega
end Go.Proofs.YtmpdkjcobpghaaaPlain
