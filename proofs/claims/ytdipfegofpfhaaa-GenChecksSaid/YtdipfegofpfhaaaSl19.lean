/- Arrays among what came in. -/
import Derived.Test.YtdipfegofpfhaaaSl6
namespace Go.Hp
open Go Go.RowKit Go.ChangeShapes Go.WideShapes Go.ChangeAt
set_option linter.unusedVariables false
section
variable {H : Type} {enc : TypeId × Value → H} {P : Program} {w : World} {base : Nat} {spare : Nat → Bool} {held : Bool} {t e : TypeId} {α : Type} {m : Nat}
theorem opens_elem {N : Nat} {n : Nat} {cs : List Value} {y : DataW H × List MemPlace} (ht : P.underlying t = some (.array N e)) (h : DataW.trod enc P w base spare held n t cs = some y) {i : Nat} (hi : i < N) {E : PR α m} (hE : Opens enc P w base spare held E e) {o q : Nat} (hq : P.cellsOf e = q) (ho : i * q = o) :
    ∃ x, E.r w (In w) ((cs.drop o).take q) x := by
  subst ho hq
  obtain ⟨xs, m, _, _, _, hx, hs⟩ := DataW.trod_array ht h
  have := hs i hi
  rw [List.getElem?_eq_getElem (by omega)] at this
  exact hE _ _ _ this
theorem opens_lenA {N : Nat} {n : Nat} {cs : List Value} {y : DataW H × List MemPlace} (ht : P.underlying t = some (.array N e)) (h : DataW.trod enc P w base spare held n t cs = some y) : cs.length = P.cellsOf t := by
  obtain ⟨xs, m, _, _, hl, _, _⟩ := DataW.trod_array ht h
  exact hl
end
end Go.Hp
