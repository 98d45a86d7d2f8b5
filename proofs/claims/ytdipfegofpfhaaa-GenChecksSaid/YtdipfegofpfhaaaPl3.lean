/- Loops by closed forms, lists split at a place: small laws without a program. -/
import Derived.Test.YtdipfegofpfhaaaPl2
namespace Go.Hp
open Go
set_option linter.unusedVariables false
set_option linter.unusedSimpArgs false
theorem loop_c {σ ρ : Type} (F : Nat → σ → Int → ρ) (c : Nat → σ) (n : Nat) (r : ρ) (hs : ∀ m i, i < n → F (m + 1) (c i) (i : Int) = F m (c (i + 1)) ((i + 1 : Nat) : Int)) (he : ∀ m, F (m + 1) (c n) (n : Int) = r) : ∀ m, n < m → F m (c 0) 0 = r := by
  have key : ∀ d m i, i + d = n → d < m → F m (c i) (i : Int) = r := by
    intro d
    induction d with
    | zero =>
      intro m i hi hm
      obtain ⟨m, rfl⟩ : ∃ q, m = q + 1 := ⟨m - 1, by omega⟩
      obtain rfl : i = n := by omega
      exact he m
    | succ d ih =>
      intro m i hi hm
      obtain ⟨m, rfl⟩ : ∃ q, m = q + 1 := ⟨m - 1, by omega⟩
      rw [hs m i (by omega)]
      exact ih m (i + 1) (by omega) (by omega)
  intro m hm
  exact key n m 0 (by omega) hm
theorem idx_mid {α : Type} (pre : List α) (b : α) (post : List α) : idx (pre ++ b :: post) (pre.length : Int) = some b := by
  rw [idx_nat]; simp
theorem set_mid {α : Type} (pre : List α) (b b' : α) (post : List α) : (pre ++ b :: post).set ((pre.length : Int)).toNat b' = pre ++ b' :: post := by
  rw [Int.toNat_natCast]; simp
theorem idx_ext {α : Type} {xs : List α} {i : Int} {n : Nat} (h : i = n) (hn : n < xs.length) : idx xs i = some xs[n] := by subst h; exact idx_get _ _ hn
theorem snoc_cons {α : Type} (pre : List α) (b : α) (post : List α) : pre ++ b :: post = (pre ++ [b]) ++ post := by simp
theorem len_snoc {α : Type} (pre : List α) (b : α) : ((pre ++ [b]).length : Int) = ((pre.length + 1 : Nat) : Int) := by simp
theorem mdel_filter {κ β : Type} [DecidableEq κ] {l : List (κ × β)} (hn : (l.map Prod.fst).Nodup) (k : κ) : mdel l k = l.filter fun p => decide (p.1 ≠ k) := by
  induction l with
  | nil => rfl
  | cons p l ih =>
    obtain ⟨k', x'⟩ := p
    simp only [List.map_cons, List.nodup_cons] at hn
    by_cases hk : k' = k
    · subst hk
      simp only [mdel, if_true, List.filter_cons, ne_eq, not_true_eq_false, decide_false, Bool.false_eq_true, if_false]
      symm
      rw [List.filter_eq_self]
      intro p hp
      simp only [decide_eq_true_eq]
      intro e
      exact hn.1 (by rw [← e]; exact List.mem_map.2 ⟨p, hp, rfl⟩)
    · simp only [mdel, hk, if_false, List.filter_cons, ne_eq, not_false_eq_true, decide_true, if_true, ih hn.2]
theorem mset_new {κ β : Type} [DecidableEq κ] {l : List (κ × β)} {k : κ} (x : β) (h : mget l k = none) : mset l k x = l ++ [(k, x)] := by
  induction l with
  | nil => rfl
  | cons p l ih =>
    obtain ⟨k', x'⟩ := p
    simp only [mget] at h
    by_cases hk : k' = k
    · simp [hk] at h
    · simp only [hk, if_false] at h
      simp only [mset, hk, if_false, ih h, List.cons_append]
end Go.Hp
