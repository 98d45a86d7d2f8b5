/- Loops by what holds at each round; tables: small laws without a program. -/
import Derived.Test.YtdipfegofpfhaaaPl3
namespace Go.Hp
open Go
set_option linter.unusedVariables false
/-- A loop comes to its end, with what holds there. -/
theorem loop_to {σ ρ : Type} (F : Nat → σ → Int → ρ) (ι : Nat → Int) (n : Nat) (Inv : Nat → σ → Prop) (hs : ∀ m i s, i < n → Inv i s → ∃ s', Inv (i + 1) s' ∧ F (m + 1) s (ι i) = F m s' (ι (i + 1))) : ∀ m s, n < m → Inv 0 s → ∃ m' s', Inv n s' ∧ F m s (ι 0) = F (m' + 1) s' (ι n) := by
  have key : ∀ d m i s, i + d = n → d < m → Inv i s → ∃ m' s', Inv n s' ∧ F m s (ι i) = F (m' + 1) s' (ι n) := by
    intro d
    induction d with
    | zero =>
      intro m i s hi hm h
      obtain ⟨m, rfl⟩ : ∃ q, m = q + 1 := ⟨m - 1, by omega⟩
      obtain rfl : i = n := by omega
      exact ⟨m, s, h, rfl⟩
    | succ d ih =>
      intro m i s hi hm h
      obtain ⟨m, rfl⟩ : ∃ q, m = q + 1 := ⟨m - 1, by omega⟩
      obtain ⟨s', h', e⟩ := hs m i s (by omega) h
      rw [e]
      exact ih m (i + 1) s' (by omega) (by omega) h'
  intro m s hm h
  exact key n m 0 s (by omega) hm h
theorem idx_t {α : Type} {n : Nat} (f : Nat → α) {k : Nat} (h : k < n) : idx (tabl n f) (k : Int) = some (f k) := by rw [idx_nat, tabl_get? h]
theorem idx_d {α : Type} (l : List α) (d : α) {k : Nat} (h : k < l.length) : idx l (k : Int) = some (l.getD k d) := by
  rw [idx_get l k h, List.getD_eq_getElem?_getD, List.getElem?_eq_getElem h]; rfl
theorem tabl_succ {α : Type} (n : Nat) (f : Nat → α) : tabl (n + 1) f = tabl n f ++ [f n] := by simp [tabl, List.range_succ]
theorem tab_of {α : Type} (l : List α) (d : α) : l = tabl l.length (fun i => l.getD i d) := by
  apply List.ext_getElem
  · rw [tabl_len]
  · intro i h1 h2
    rw [tabl_get, List.getD_eq_getElem?_getD, List.getElem?_eq_getElem h1]; rfl
theorem len_app1 {α : Type} (l : List α) (x : α) : (l ++ [x]).length = l.length + 1 := by simp
end Go.Hp
