/- Plain lists and words: small laws without a program. -/
import Derived.Test.YtdipfegofpfhaaaSl5
namespace Go.Hp
open Go
theorem W_in {x : Int} (h : -9223372036854775808 ≤ x ∧ x ≤ 9223372036854775807) : IntKind.i64.wrap x = x := IntWalk.i64_in x h
theorem rangeI {n : Int} (h : (Lit.int .i64 n).wf = true) : -9223372036854775808 ≤ n ∧ n ≤ 9223372036854775807 := by
  simp only [Lit.wf, Bool.and_eq_true, decide_eq_true_eq] at h
  exact h
theorem W_succ (k : Nat) (h : k < 4611686018427387904) : IntKind.i64.wrap ((k : Int) + 1) = ((k + 1 : Nat) : Int) := by rw [W_in (by omega)]; rfl
theorem W_range (x : Int) : -9223372036854775808 ≤ IntKind.i64.wrap x ∧ IntKind.i64.wrap x ≤ 9223372036854775807 := by
  rw [IntKind.wrap_i64]; omega
theorem W_rest (x : Int) (n : Int) (hn : 0 < n) (hb : n ≤ 1099511627776) : Int.tmod (IntKind.i64.wrap (Int.tmod x n + n)) n = x % n := by
  have a := Int.tmod_lt_of_pos x hn
  have b := Int.lt_tmod_of_pos x hn
  rw [W_in (by omega), Int.tmod_eq_emod_of_nonneg (by omega)]
  have h := Int.tmod_add_mul_tdiv x n
  rw [Int.add_emod_right]
  conv => rhs; rw [← h]
  rw [Int.add_mul_emod_self_left]
theorem W_restN (x : Int) (n : Nat) (hn : 0 < n) (hb : n ≤ 1099511627776) : ∃ k : Nat, k < n ∧ Int.tmod (IntKind.i64.wrap (Int.tmod x n + n)) n = k := by
  rw [W_rest x n (by omega) (by omega)]
  have h1 := Int.emod_nonneg x (show (n : Int) ≠ 0 by omega)
  have h2 := Int.emod_lt_of_pos x (show (0 : Int) < n by omega)
  exact ⟨(x % n).toNat, by omega, by omega⟩
theorem idx_nat {α : Type} (xs : List α) (k : Nat) : idx xs (k : Int) = xs[k]? := by simp [idx]
theorem idx_get {α : Type} (xs : List α) (k : Nat) (h : k < xs.length) : idx xs (k : Int) = some xs[k] := by rw [idx_nat, List.getElem?_eq_getElem h]
theorem idx_out {α : Type} (xs : List α) (i : Int) (h : ¬ (0 ≤ i ∧ i < xs.length)) : idx xs i = none := by
  unfold idx
  split
  · exact List.getElem?_eq_none (by omega)
  · rfl
theorem idx_in {α : Type} (xs : List α) (i : Int) (h : 0 ≤ i ∧ i < xs.length) : ∃ k : Nat, i = k ∧ ∃ h : k < xs.length, idx xs i = some xs[k] := by
  obtain ⟨k, rfl⟩ := Int.eq_ofNat_of_zero_le h.1
  exact ⟨k, rfl, by omega, idx_get _ _ (by omega)⟩
theorem app_ok {α : Type} (xs ys : List α) (h : xs.length + ys.length ≤ 4294967296) : app xs ys = some (xs ++ ys) := by unfold app; rw [if_pos h]
theorem chk_ok {α : Type} {p : Prop} [Decidable p] (x : Option α) (h : p) : chk p x = x := by unfold chk; rw [if_pos h]
/-- The places at which something is so. -/
def sel {α : Type} (p : α → Bool) : List α → Nat → List Int
  | [], _ => []
  | o :: l, i => if p o then (i : Int) :: sel p l (i + 1) else sel p l (i + 1)
theorem sel_app {α : Type} (p : α → Bool) (o : α) : ∀ (l : List α) (i : Nat), sel p (l ++ [o]) i = sel p l i ++ if p o then [((i + l.length : Nat) : Int)] else []
  | [], i => by simp [sel]
  | x :: l, i => by
    have := sel_app p o l (i + 1)
    simp only [List.cons_append, sel, this, List.length_cons, show i + 1 + l.length = i + (l.length + 1) by omega]
    split <;> simp
theorem sel_snoc {α : Type} (p : α → Bool) (l : List α) (k : Nat) (h : k < l.length) : sel p (l.take (k + 1)) 0 = sel p (l.take k) 0 ++ if p l[k] then [(k : Int)] else [] := by
  rw [List.take_succ_eq_append_getElem h, sel_app]
  simp [Nat.min_eq_left (Nat.le_of_lt h)]
theorem sel_len {α : Type} (p : α → Bool) : ∀ (l : List α) (i : Nat), (sel p l i).length ≤ l.length
  | [], _ => by simp [sel]
  | o :: l, i => by have := sel_len p l (i + 1); simp only [sel]; split <;> simp <;> omega
theorem sel_none {α : Type} (p : α → Bool) : ∀ (l : List α) (i : Nat), (∀ o ∈ l, p o = false) → sel p l i = []
  | [], _, _ => rfl
  | o :: l, i, h => by rw [sel, h o (by simp)]; exact sel_none p l (i + 1) (fun x hx => h x (by simp [hx]))
theorem sel_every {α : Type} (p : α → Bool) : ∀ (l : List α) (i : Nat), (∀ o ∈ l, p o = true) → (sel p l i).length = l.length
  | [], _, _ => rfl
  | o :: l, i, h => by rw [sel, h o (by simp)]; simp [sel_every p l (i + 1) (fun x hx => h x (by simp [hx]))]
end Go.Hp
namespace Go.Hp
/-- A list by its places. -/
def tabl {α : Type} (n : Nat) (f : Nat → α) : List α := (List.range n).map f
theorem tabl_len {α : Type} (n : Nat) (f : Nat → α) : (tabl n f).length = n := by simp [tabl]
theorem tabl_get {α : Type} {n : Nat} {f : Nat → α} {i : Nat} (h : i < (tabl n f).length) : (tabl n f)[i] = f i := by simp [tabl]
theorem tabl_get? {α : Type} {n : Nat} {f : Nat → α} {i : Nat} (h : i < n) : (tabl n f)[i]? = some (f i) := by simp [tabl, h]
theorem tabl_set {α : Type} (n : Nat) (f : Nat → α) (i : Nat) (v : α) : (tabl n f).set i v = tabl n (fun j => if j = i then v else f j) := by
  apply List.ext_getElem
  · simp [tabl]
  · intro j h1 h2
    simp only [List.getElem_set, tabl_get]
    by_cases e : i = j
    · subst e; simp
    · rw [if_neg e, if_neg (fun h => e h.symm)]
theorem tabl_map {α β : Type} (n : Nat) (f : Nat → α) (g : α → β) : (tabl n f).map g = tabl n (fun j => g (f j)) := by simp [tabl]
theorem tabl_rep {α : Type} (n : Nat) (v : α) : List.replicate n v = tabl n (fun _ => v) := by
  apply List.ext_getElem
  · simp [tabl]
  · intro j h1 h2; simp [tabl]
theorem tabl_congr {α : Type} {n : Nat} {f g : Nat → α} (h : ∀ j, j < n → f j = g j) : tabl n f = tabl n g := by
  apply List.ext_getElem
  · simp [tabl]
  · intro j h1 h2
    rw [tabl_get, tabl_get]; exact h j (by simpa [tabl] using h1)
theorem tabl_all {α : Type} (n : Nat) (f : Nat → α) (p : α → Bool) : (tabl n f).all p = true ↔ ∀ j, j < n → p (f j) = true := by simp [tabl]
theorem tabl_any {α : Type} (n : Nat) (f : Nat → α) (p : α → Bool) : (tabl n f).any p = true ↔ ∃ j, j < n ∧ p (f j) = true := by simp [tabl]
end Go.Hp
