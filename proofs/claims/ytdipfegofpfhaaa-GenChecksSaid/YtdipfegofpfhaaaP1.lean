/- What may be generated: the program's check is the document's. -/
import Derived.Test.YtdipfegofpfhaaaT1c
import Derived.Test.YtdipfegofpfhaaaPl4
namespace Go.Proofs.Ytdipfegofpfhaaa
open Go Go.Hp
set_option linter.unusedVariables false
theorem awake09 : law09_awake 1000 = some true := by decide +kernel
def checkS (s : S_api_Shape) (p : List Int) (most : Int) : Int := if most < 1 then 2 else if ((p.length : Nat) : Int) > s.Places then 80 else if most > s.Places - p.length + 1 then 80 else 0
theorem checks_loop (s : S_api_Shape) (p : List Int) (most : Int) (hl : p.length ≤ 300) (hp : -9223372036854775808 ≤ s.Places ∧ s.Places ≤ 9223372036854775807) (h0 : p.length ≠ 0) (f : Int → Option Bool) (hf : ∀ y, f y = some (decide (y < 0 ∨ y ≥ s.Vocab))) :
    ∀ (d m i : Nat), i + d = p.length → d < m → ∃ r1 r2, slices_IndexFunc_s_int_int.L1 p f m (i : Int) = some r1 ∧ ref09_Check.L1 s p most m (i : Int) = some r2 ∧ (r1 ≥ 0 → r2 = 2) ∧ (r1 < 0 → r2 = checkS s p most) := by
  intro d
  induction d with
  | zero =>
    intro m i hd hm
    obtain ⟨m, rfl⟩ : ∃ q, m = q + 1 := ⟨m - 1, by omega⟩
    refine ⟨-1, checkS s p most, ?_, ?_, by omega, fun _ => rfl⟩
    · rw [slices_IndexFunc_s_int_int.L1, if_neg (by omega)]
    · rw [ref09_Check.L1, if_neg (by omega)]
      unfold checkS
      by_cases h1 : most < 1
      · rw [if_pos h1, if_pos h1]
      rw [if_neg h1, if_neg h1]
      by_cases h2 : ((p.length : Nat) : Int) > s.Places
      · rw [if_pos h2, if_pos h2]
      rw [if_neg h2, if_neg h2, W_in (x := s.Places - ((p.length : Nat) : Int)) (by omega), W_in (x := s.Places - ((p.length : Nat) : Int) + 1) (by omega)]
      split <;> rfl
  | succ d ih =>
    intro m i hd hm
    obtain ⟨m, rfl⟩ : ∃ q, m = q + 1 := ⟨m - 1, by omega⟩
    have hi : (i : Int) < ((p.length : Nat) : Int) := by omega
    have hx : idx p (i : Int) = some (p.getD i 0) := idx_d p 0 (by omega)
    have a1 : slices_IndexFunc_s_int_int.L1 p f (m + 1) (i : Int) = if decide (p.getD i 0 < 0 ∨ p.getD i 0 ≥ s.Vocab) = true then some (i : Int) else slices_IndexFunc_s_int_int.L1 p f m (((i + 1 : Nat)) : Int) := by
      rw [slices_IndexFunc_s_int_int.L1, if_pos hi, hx, Option.bind_some, hf, Option.bind_some, W_succ i (by omega)]
    have a2 : ref09_Check.L1 s p most (m + 1) (i : Int) = if p.getD i 0 < 0 then some 2 else if p.getD i 0 ≥ s.Vocab then some 2 else ref09_Check.L1 s p most m (((i + 1 : Nat)) : Int) := by
      rw [ref09_Check.L1, if_pos hi, hx, Option.bind_some, Option.bind_some, W_succ i (by omega)]
    rw [a1, a2]
    by_cases hb : p.getD i 0 < 0 ∨ p.getD i 0 ≥ s.Vocab
    · rw [if_pos (decide_eq_true hb)]
      refine ⟨(i : Int), 2, rfl, ?_, fun _ => rfl, by omega⟩
      by_cases h1 : p.getD i 0 < 0
      · rw [if_pos h1]
      · rw [if_neg h1, if_pos (hb.resolve_left h1)]
    · rw [if_neg (by rw [decide_eq_true_eq]; exact hb), if_neg (fun h => hb (.inl h)), if_neg (fun h => hb (.inr h))]
      exact ih m (i + 1) (by omega) (by omega)
theorem genChecks (s : S_api_Shape) (p : List Int) (most : Int) (hp : -9223372036854775808 ≤ s.Places ∧ s.Places ≤ 9223372036854775807) (hm : -9223372036854775808 ≤ most ∧ most ≤ 9223372036854775807) : law09_GenChecks 1000 s p most = some true := by
  unfold law09_GenChecks
  rw [awake09, Option.bind_some, if_pos rfl]
  by_cases hl : ((p.length : Nat) : Int) > 300
  · rw [if_pos hl, Option.bind_some]
  rw [if_neg hl, show (⟨s.Layers, s.Width, s.Heads, s.Inner, s.Vocab, s.Places⟩ : S_api_Shape) = s from rfl]
  unfold gen_Check ref09_Check
  by_cases h0 : ((p.length : Nat) : Int) = 0
  · rw [if_pos h0, if_pos h0]
    rfl
  rw [if_neg h0, if_neg h0]
  unfold slices_ContainsFunc_s_int_int slices_IndexFunc_s_int_int
  obtain ⟨r1, r2, e1, e2, k1, k2⟩ := checks_loop s p most (by omega) hp (by omega) (fun (y6_ : Int) =>
      if y6_ < 0 then
        some true
      else
        some (decide (y6_ ≥ s.Vocab))) (fun y => by
          by_cases h : y < 0
          · rw [if_pos h, decide_eq_true (Or.inl h)]
          · rw [if_neg h]; congr 1; exact decide_eq_decide.2 (by omega)) p.length 1000 0 (by omega) (by omega)
  replace e1 : slices_IndexFunc_s_int_int.L1 p (fun (y6_ : Int) =>
      if y6_ < 0 then
        some true
      else
        some (decide (y6_ ≥ s.Vocab))) 1000 0 = some r1 := e1
  rw [e1, Option.bind_some, Option.bind_some]
  rw [show ref09_Check.L1 s p most 1000 0 = some r2 from e2]
  by_cases hr : r1 ≥ 0
  · rw [if_pos (decide_eq_true hr), Option.bind_some, Option.bind_some, k1 hr]
    rfl
  · rw [if_neg (by rw [decide_eq_true_eq]; exact hr), k2 (by omega)]
    unfold checkS
    by_cases h1 : most < 1
    · rw [if_pos h1, if_pos h1]; rfl
    rw [if_neg h1, if_neg h1]
    by_cases h2 : ((p.length : Nat) : Int) > s.Places
    · rw [if_pos h2, if_pos h2]; rfl
    rw [if_neg h2, if_neg h2, W_in (x := s.Places - ((p.length : Nat) : Int)) (by omega), W_in (x := most - 1) (by omega)]
    by_cases h3 : most > s.Places - p.length + 1
    · rw [if_pos (by omega), if_pos h3]; rfl
    · rw [if_neg (by omega), if_neg h3]; rfl
end Go.Proofs.Ytdipfegofpfhaaa
