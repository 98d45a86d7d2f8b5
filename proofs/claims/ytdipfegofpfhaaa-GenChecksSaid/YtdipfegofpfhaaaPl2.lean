/- Maps as lists: small laws without a program. -/
import Derived.Test.YtdipfegofpfhaaaPl
import Derived.Test.YtdipfegofpfhaaaSl10
namespace Go.Hp
open Go
set_option linter.unusedVariables false
set_option linter.unusedSimpArgs false
set_option linter.unusedSectionVars false
theorem optc_some {α β : Type} (x : α) (a : Option β) (f : α → Option β) : optc (some x) a f = f x := rfl
theorem optc_none {α β : Type} (a : Option β) (f : α → Option β) : optc none a f = a := rfl
section
variable {κ β : Type} [DecidableEq κ]
theorem mget_mset (l : List (κ × β)) (k q : κ) (x : β) : mget (mset l k x) q = if q = k then some x else mget l q := by
  induction l with
  | nil => simp only [mset, mget]; by_cases h : q = k
           · subst h; simp
           · rw [if_neg (fun e => h e.symm), if_neg h]
  | cons p l ih =>
    obtain ⟨k', x'⟩ := p
    simp only [mset]
    by_cases hk : k' = k
    · subst hk
      simp only [if_true, mget]
      by_cases h : q = k'
      · subst h; simp
      · rw [if_neg (fun e => h e.symm), if_neg h, if_neg (fun e => h e.symm)]
    · simp only [hk, if_false, mget, ih]
      by_cases h : k' = q
      · subst h; simp [hk]
      · simp [h]
theorem mget_none {l : List (κ × β)} {k : κ} : mget l k = none ↔ k ∉ l.map Prod.fst := by
  induction l with
  | nil => simp [mget]
  | cons p l ih =>
    obtain ⟨k', x'⟩ := p
    simp only [mget]
    by_cases hk : k' = k
    · subst hk; simp
    · simp only [hk, if_false, ih, List.map_cons, List.mem_cons, not_or]
      exact ⟨fun h => ⟨fun e => hk e.symm, h⟩, fun h => h.2⟩
theorem mget_mem {l : List (κ × β)} {k : κ} {x : β} (h : mget l k = some x) : (k, x) ∈ l := by
  induction l with
  | nil => simp [mget] at h
  | cons p l ih =>
    obtain ⟨k', x'⟩ := p
    simp only [mget] at h
    by_cases hk : k' = k
    · subst hk; simp at h; subst h; simp
    · simp only [hk, if_false] at h; simp [ih h]
theorem mget_of_mem {l : List (κ × β)} (hn : (l.map Prod.fst).Nodup) {k : κ} {x : β} (h : (k, x) ∈ l) : mget l k = some x := by
  obtain ⟨j, hj⟩ := List.getElem?_of_mem h
  exact mget_at hn hj
theorem keys_mset (l : List (κ × β)) (k : κ) (x : β) : (mset l k x).map Prod.fst = if k ∈ l.map Prod.fst then l.map Prod.fst else l.map Prod.fst ++ [k] := by
  induction l with
  | nil => simp [mset]
  | cons p l ih =>
    obtain ⟨k', x'⟩ := p
    simp only [mset]
    by_cases hk : k' = k
    · subst hk; simp
    · simp only [hk, if_false, List.map_cons, ih, List.mem_cons]
      by_cases h : k ∈ l.map Prod.fst
      · rw [if_pos h, if_pos (.inr h)]
      · rw [if_neg h, if_neg (fun q => q.elim (fun e => hk e.symm) h)]; rfl
theorem nodup_mset {l : List (κ × β)} (h : (l.map Prod.fst).Nodup) (k : κ) (x : β) : ((mset l k x).map Prod.fst).Nodup := by
  rw [keys_mset]
  split
  · exact h
  · rename_i hk
    rw [List.nodup_append]
    exact ⟨h, by simp, fun a ha b hb e => by simp at hb; subst hb; subst e; exact hk ha⟩
theorem len_mset (l : List (κ × β)) (k : κ) (x : β) : (mset l k x).length = if k ∈ l.map Prod.fst then l.length else l.length + 1 := by
  have := congrArg List.length (keys_mset l k x)
  rw [List.length_map] at this
  rw [this]
  split <;> simp
/-- What is there, put anew. -/
theorem mset_map {l : List (κ × β)} (hn : (l.map Prod.fst).Nodup) {k : κ} {y : β} (h : mget l k = some y) (z : β) : mset l k z = l.map fun p => if p.1 = k then (p.1, z) else p := by
  induction l with
  | nil => simp [mget] at h
  | cons p l ih =>
    obtain ⟨k', x'⟩ := p
    simp only [List.map_cons, List.nodup_cons] at hn
    simp only [mset, List.map_cons]
    by_cases hk : k' = k
    · subst hk
      simp only [if_true, List.cons.injEq, true_and]
      symm
      calc l.map (fun p => if p.1 = k' then (p.1, z) else p) = l.map id := by
            apply List.map_congr_left
            intro p hp
            have : p.1 ≠ k' := fun e => hn.1 (by rw [← e]; exact List.mem_map.2 ⟨p, hp, rfl⟩)
            simp [this]
        _ = l := by simp
    · simp only [mget, hk, if_false] at h ⊢
      rw [ih hn.2 h]
theorem mget_map (f : κ → β → β) (l : List (κ × β)) (k : κ) : mget (l.map fun p => (p.1, f p.1 p.2)) k = (mget l k).map (f k) := by
  induction l with
  | nil => simp [mget]
  | cons p l ih =>
    obtain ⟨k', x'⟩ := p
    simp only [List.map_cons, mget]
    by_cases hk : k' = k
    · subst hk; simp
    · simp [hk, ih]
theorem keys_map (f : κ → β → β) (l : List (κ × β)) : (l.map fun p => (p.1, f p.1 p.2)).map Prod.fst = l.map Prod.fst := by simp [List.map_map, Function.comp_def]
theorem remK_len (l : List (κ × β)) (seen : List κ) (hn : (l.map Prod.fst).Nodup) {k : κ} (hk : k ∈ remK l seen) : (remK l (k :: seen)).length < (remK l seen).length := by
  have h1 : remK l (k :: seen) = (remK l seen).filter (fun q => decide (q ≠ k)) := by
    unfold remK
    rw [List.filter_filter]
    apply List.filter_congr
    intro q _
    simp [List.mem_cons, not_or, and_comm]
  rw [h1]
  have := List.length_filter_lt_length_iff_exists (l := remK l seen) (p := fun q => decide (q ≠ k))
  rw [this]
  exact ⟨k, hk, by simp⟩
theorem remK_all (l : List (κ × β)) : remK l [] = l.map Prod.fst := by simp [remK]
end
end Go.Hp
