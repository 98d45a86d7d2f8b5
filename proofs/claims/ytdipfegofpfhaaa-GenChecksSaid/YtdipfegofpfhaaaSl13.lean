/- Numbers that came in lie in their kind's range. -/
import Derived.Test.YtdipfegofpfhaaaSl12
import Derived.Test.YtdipfegofpfhaaaSl6
namespace Go.Hp
open Go Go.RowKit
set_option linter.unusedVariables false
section
variable {H : Type} {enc : TypeId × Value → H} {P : Program} {w : World} {base : Nat} {spare : Nat → Bool} {held : Bool} {t e : TypeId}
def pIntR (k : IntKind) : PR Int 1 :=
  ⟨fun w R cs x => cs = [.int k x] ∧ (Lit.int k x).wf = true, fun h _ _ => h, fun h => by rw [h.1]; rfl, fun h u hu => by rw [h.1, List.mem_singleton] at hu; subst hu; rfl⟩
theorem opens_intR {k : IntKind} (ht : P.underlying t = some (.int k)) : Opens enc P w base spare held (pIntR k) t := fun n cs y h => by
  obtain ⟨a, hcs, _, hw⟩ := DataW.trod_int ht h
  exact ⟨a, hcs, hw⟩
theorem roR {k : IntKind} {R : Nat → Prop} {cs : List Value} {x : List Int} (h : (pRo (pIntR k)).r w R cs x) : (pRo (pInt k)).r w R cs x ∧ ∀ v ∈ x, (Lit.int k v).wf = true := by
  obtain ⟨v, e, a, c, hv, hc, hr⟩ := h
  refine ⟨⟨v, e, a, c, hv, hc, fun i x hx => ?_⟩, fun u hu => ?_⟩
  · obtain ⟨bb, oo, cs, h1, h2, h3, h4⟩ := hr i x hx
    exact ⟨bb, oo, cs, h1, h2, h3.1, h4⟩
  · obtain ⟨i, hi, rfl⟩ := List.getElem_of_mem hu
    obtain ⟨_, _, _, _, _, h3, _⟩ := hr i _ (List.getElem?_eq_getElem hi)
    exact h3.2
end
end Go.Hp
