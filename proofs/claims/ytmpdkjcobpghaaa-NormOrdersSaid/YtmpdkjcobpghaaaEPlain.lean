/- Plain facts on whole numbers, wraps and bits, with no program in sight. -/
import Derived.RowKit
import Derived.Laws.BitsLemmas
import Derived.Laws.Bits64
import Derived.Laws.Bits64b
import Derived.Lib.BitFns
import Derived.Test.YtmpdkjcobpghaaaWMore
import Derived.Test.YtmpdkjcobpghaaaWWords
namespace Go.Proofs.YtmpdkjcobpghaaaPlain
open Go.RowKit Go.Proofs.YtmpdkjcobpghaaaW.PrintWords Go.Proofs.YtmpdkjcobpghaaaW.PrintMore

theorem u64w {n : Int} (h0 : 0 ≤ n) (h1 : n < 18446744073709551616) : IntKind.u64.wrap n = n := by rw [IntKind.wrap_u64]; omega
theorem w64 {n : Int} (h0 : -9223372036854775808 ≤ n) (h1 : n < 9223372036854775808) : wrap64 n = n := by unfold wrap64; omega
theorem w32 {n : Int} (h0 : -2147483648 ≤ n) (h1 : n < 2147483648) : wrap32 n = n := by unfold wrap32; omega
theorem u64_wraps (n : Int) (h0 : 0 ≤ n) (h1 : n < 2 ^ 64) : IntKind.u64.wrap n = n := u64w h0 (by have : (2 : Int) ^ 64 = 18446744073709551616 := by decide
                                                                                                   omega)

theorem and_mask (i : Nat) (hi : i ≤ 64) (x : Int) (h0 : 0 ≤ x) (h1 : x < 18446744073709551616) : Go.bits .and .u64 x (2 ^ i - 1) = x % 2 ^ i :=
  bits_mask .u64 64 (by decide) u64_wraps i hi x h0 (by have : (2 : Int) ^ 64 = 18446744073709551616 := by decide
                                                        omega)
theorem or_pow (i : Nat) (x : Int) (h0 : 0 ≤ x) (h1 : x < 18446744073709551616) (hx : x % 2 ^ (i + 1) = 0) (hi : i < 64) : Go.bits .or .u64 x (2 ^ i) = x + 2 ^ i := by
  have hp : (2 : Int) ^ 64 = 18446744073709551616 := by decide
  have h2 : (2 : Int) ^ i < 2 ^ (i + 1) := by
    have : (2 : Nat) ^ i < 2 ^ (i + 1) := Nat.pow_lt_pow_right (by decide) (by omega)
    exact_mod_cast this
  have h3 : (2 : Int) ^ i < 2 ^ 64 := by
    have : (2 : Nat) ^ i < 2 ^ 64 := Nat.pow_lt_pow_right (by decide) hi
    exact_mod_cast this
  have h4 : (0 : Int) ≤ 2 ^ i := by
    have : (0 : Nat) ≤ 2 ^ i := Nat.zero_le _
    exact_mod_cast this
  exact bits_join .u64 64 (by decide) u64_wraps (i + 1) x (2 ^ i) h0 hx (by omega) h4 h2 h3
theorem shl_one (b : Nat) (hb : b < 64) : shl .u64 1 (b : Int) = 2 ^ b := by
  unfold shl
  have e : min ((b : Int).toNat) IntKind.u64.bits = b := by
    show min ((b : Int).toNat) 64 = b
    omega
  rw [e, Int.one_mul]
  refine u64_wraps _ ?_ ?_
  · have : (0 : Nat) ≤ 2 ^ b := Nat.zero_le _
    exact_mod_cast this
  · have : (2 : Nat) ^ b < 2 ^ 64 := Nat.pow_lt_pow_right (by decide) hb
    exact_mod_cast this

theorem mul_u64 {a b : Int} (ha0 : 0 ≤ a) (ha : a < 4294967296) (hb0 : 0 ≤ b) (hb : b < 4294967296) : 0 ≤ a * b ∧ a * b < 18446744073709551616 := by
  refine ⟨Int.mul_nonneg ha0 hb0, ?_⟩
  have h1 : a * b ≤ 4294967295 * b := Int.mul_le_mul_of_nonneg_right (by omega) hb0
  omega

/-- Whole roots are one. -/
theorem root_one {a b n : Nat} (h1 : a * a ≤ n) (h2 : n < (a + 1) * (a + 1)) (h3 : b * b ≤ n) (h4 : n < (b + 1) * (b + 1)) : a = b := by
  rcases Nat.lt_trichotomy a b with h | h | h
  · have : (a + 1) * (a + 1) ≤ b * b := Nat.mul_le_mul (by omega) (by omega)
    omega
  · exact h
  · have : (b + 1) * (b + 1) ≤ a * a := Nat.mul_le_mul (by omega) (by omega)
    omega

theorem bitLen_lt (x : Nat) (hx : x < 2 ^ 64) : x < 2 ^ Lib.bitLen x := by
  have key : ∀ (f y : Nat), y < 2 ^ f → y < 2 ^ Lib.bitLenAux f y := by
    intro f
    induction f with
    | zero => intro y hy; simpa [Lib.bitLenAux] using hy
    | succ f ih =>
      intro y hy
      simp only [Lib.bitLenAux]
      split
      · rename_i h; subst h; decide
      · have := ih (y / 2) (by rw [Nat.pow_succ] at hy; omega)
        rw [Nat.add_comm, Nat.pow_succ]
        omega
  exact key 64 x hx
theorem bitLen_le (x : Nat) : Lib.bitLen x ≤ 64 := by
  have key : ∀ (f y : Nat), Lib.bitLenAux f y ≤ f := by
    intro f
    induction f with
    | zero => intro y; simp [Lib.bitLenAux]
    | succ f ih =>
      intro y
      simp only [Lib.bitLenAux]
      split
      · omega
      · have := ih (y / 2); omega
  exact key 64 x

theorem rd_at (xs : List Int) (i : Nat) (h : i < xs.length) : rd xs (i : Int) = xs[i] := by
  unfold rd
  rw [Int.toNat_natCast, List.getD_eq_getElem?_getD, List.getElem?_eq_getElem h]
  rfl
theorem wf_i32 {x : Int} (h : (Lit.int .i32 x).wf = true) : -2147483648 ≤ x ∧ x < 2147483648 := by
  simp [Lit.wf, IntKind.min, IntKind.max, IntKind.signed, IntKind.bits] at h
  omega
theorem wf_i64 {x : Int} (h : (Lit.int .i64 x).wf = true) : -9223372036854775808 ≤ x ∧ x < 9223372036854775808 := by
  simp [Lit.wf, IntKind.min, IntKind.max, IntKind.signed, IntKind.bits] at h
  omega
theorem wf_u32 {x : Int} (h : (Lit.int .u32 x).wf = true) : 0 ≤ x ∧ x < 4294967296 := by
  simp [Lit.wf, IntKind.min, IntKind.max, IntKind.signed, IntKind.bits] at h
  omega
theorem wf_u64 {x : Int} (h : (Lit.int .u64 x).wf = true) : 0 ≤ x ∧ x < 18446744073709551616 := by
  simp [Lit.wf, IntKind.min, IntKind.max, IntKind.signed, IntKind.bits] at h
  omega
theorem take_map_succ {α β : Type} (f : α → β) (xs : List α) (i : Nat) (h : i < xs.length) : (xs.take (i + 1)).map f = (xs.take i).map f ++ [f xs[i]] := by
  rw [List.take_succ_eq_append_getElem h, List.map_append]
  rfl
theorem set_zeros {α : Type} (l : List α) (m : Nat) (z v : α) : (l ++ List.replicate (m + 1) z).set l.length v = l ++ v :: List.replicate m z := by
  rw [List.set_append_right _ _ (Nat.le_refl _), Nat.sub_self, List.replicate_succ]
  rfl

/-! Shares of a total. -/
def pos (x : Int) : Int := if 0 < x then x else 0
def wsum : List Int → Int
  | [] => 0
  | x :: xs => pos x + wsum xs
def share (total sum x : Int) : Int := if 0 < x then (if 0 < total then x * total / sum else 0) else 0
theorem pos_nonneg (x : Int) : 0 ≤ pos x := by unfold pos; split <;> omega
theorem wsum_nonneg (xs : List Int) : 0 ≤ wsum xs := by
  induction xs with
  | nil => exact Int.le_refl _
  | cons x xs ih => have := pos_nonneg x; simp only [wsum]; omega
theorem wsum_append (xs ys : List Int) : wsum (xs ++ ys) = wsum xs + wsum ys := by
  induction xs with
  | nil => simp [wsum]
  | cons x xs ih => simp only [List.cons_append, wsum, ih]; omega
theorem wsum_take_succ (xs : List Int) (i : Nat) (h : i < xs.length) : wsum (xs.take (i + 1)) = wsum (xs.take i) + pos xs[i] := by
  rw [List.take_succ_eq_append_getElem h, wsum_append]
  simp [wsum]
theorem wsum_le (xs : List Int) (B : Int) (h0 : 0 ≤ B) (hb : ∀ x ∈ xs, x ≤ B) : wsum xs ≤ xs.length * B := by
  induction xs with
  | nil => simp [wsum]
  | cons x xs ih =>
    have h1 := ih fun y hy => hb y (List.mem_cons_of_mem _ hy)
    have h2 := hb x List.mem_cons_self
    have h3 : pos x ≤ B := by unfold pos; split <;> omega
    simp only [wsum, List.length_cons]
    have : ((xs.length + 1 : Nat) : Int) * B = xs.length * B + B := by rw [Int.natCast_add, Int.add_mul]; simp
    omega
theorem wsum_ge (xs : List Int) (x : Int) (hx : x ∈ xs) : pos x ≤ wsum xs := by
  induction xs with
  | nil => simp at hx
  | cons y ys ih =>
    simp only [wsum]
    rcases List.mem_cons.1 hx with rfl | h
    · have := wsum_nonneg ys; omega
    · have := ih h; have := pos_nonneg y; omega
theorem wsum_take_le (xs : List Int) (i : Nat) : wsum (xs.take i) ≤ wsum xs := by
  have h := wsum_append (xs.take i) (xs.drop i)
  rw [List.take_append_drop] at h
  have := wsum_nonneg (xs.drop i)
  omega
theorem quot_le {x total sum : Int} (h0 : 0 < x) (ht : 0 < total) (hs : x ≤ sum) : 0 ≤ x * total / sum ∧ x * total / sum ≤ total := by
  have hs0 : 0 < sum := by omega
  refine ⟨Int.ediv_nonneg (Int.mul_nonneg (by omega) (by omega)) (by omega), ?_⟩
  have h1 : x * total ≤ total * sum := by rw [Int.mul_comm total sum]; exact Int.mul_le_mul_of_nonneg_right hs (by omega)
  have h2 := Int.ediv_le_ediv hs0 h1
  rwa [Int.mul_ediv_cancel _ (by omega)] at h2
end Go.Proofs.YtmpdkjcobpghaaaPlain
