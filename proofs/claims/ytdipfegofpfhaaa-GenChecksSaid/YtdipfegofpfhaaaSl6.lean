/- What an argument's cells hold, as lists and words: small laws over any program. -/
import Derived.Deep.Slices
import Derived.ProofKit
import Derived.Below
import Derived.OpenShut
import Derived.ChangeOld
import Derived.Test.YtdipfegofpfhaaaSl5
namespace Go.Hp
open Go Go.RowKit Go.ChangeShapes Go.WideShapes Go.ChangeAt
set_option linter.unusedVariables false
/-- What came in is frozen. -/
def In (w : World) : Nat → Prop := fun b => b < w.heap.size
section
variable {H : Type} {enc : TypeId × Value → H} {P : Program} {w : World} {base : Nat} {spare : Nat → Bool} {held : Bool} {t e : TypeId} {α : Type} {m : Nat}
def Opens (enc : TypeId × Value → H) (P : Program) (w : World) (base : Nat) (spare : Nat → Bool) (held : Bool) (E : PR α m) (t : TypeId) : Prop := ∀ n cs y, DataW.trod enc P w base spare held n t cs = some y → ∃ x, E.r w (In w) cs x
theorem opens_int {k : IntKind} (ht : P.underlying t = some (.int k)) : Opens enc P w base spare held (pInt k) t := fun n cs y h => by
  obtain ⟨a, hcs, _⟩ := DataW.trod_int ht h
  exact ⟨a, hcs⟩
theorem opens_bool (ht : P.underlying t = some .bool) : Opens enc P w base spare held pBool t := fun n cs y h => by
  obtain ⟨a, hcs, _⟩ := DataW.trod_bool ht h
  exact ⟨a, hcs⟩
theorem opens_str (ht : P.underlying t = some .string) : Opens enc P w base spare held pStr t := fun n cs y h => by
  obtain ⟨a, hcs, _⟩ := DataW.trod_string ht h
  exact ⟨a, hcs⟩
theorem opens_ro {E : PR α m} (ht : P.underlying t = some (.slice e)) (hm : P.cellsOf e = m) (h0 : Nat.blt 0 m = true) (hE : Opens enc P w base spare held E e) : Opens enc P w base spare held (pRo E) t := fun n cs y h => by
  have hm0 : 0 < m := by simpa using h0
  rcases Go.Deep.open_slice ht h with ⟨hcs, _⟩ | ⟨a, l, c, q, n, D, Pl, hcs, _, hl, hcm, hq, _, hx⟩
  · subst hcs
    exact ⟨[], _, rfl, none, 0, rfl, Nat.le_refl _, fun i x hx => by simp at hx⟩
  · subst hcs
    have hlq : l ≤ q := by rw [hq]; split <;> omega
    have ex : ∀ i, i < l → ∃ (x : α) (cs' : List Value), E.r w (In w) cs' x ∧ w.cells? base (a.add (i * m)) m = some cs' := by
      intro i hi
      obtain ⟨cs', h1, h2⟩ := hx i (by omega)
      rw [hm] at h1
      obtain ⟨x, hx⟩ := hE _ _ _ h2
      exact ⟨x, cs', hx, h1⟩
    let g : Fin l → α := fun i => Classical.choose (ex i.1 i.2)
    have hg : ∀ i : Fin l, ∃ cs', E.r w (In w) cs' (g i) ∧ w.cells? base (a.add (i.1 * m)) m = some cs' := fun i => Classical.choose_spec (ex i.1 i.2)
    refine ⟨List.ofFn g, _, rfl, some a, c, by simp, by simpa using hl, fun i x hx' => ?_⟩
    have hi : i < l := by have := (List.getElem?_eq_some_iff.1 hx').1; simpa using this
    have hxg : g ⟨i, hi⟩ = x := by
      rw [List.getElem?_ofFn, dif_pos hi] at hx'
      injection hx'
    obtain ⟨cs', hE', hc'⟩ := hg ⟨i, hi⟩
    obtain ⟨cs0, hE0, hc0⟩ := hg ⟨0, by omega⟩
    have c0 := (World.cells?_some hc0).2.2 0 hm0
    simp only [Nat.zero_mul] at c0
    have hadd : (a.add 0).add 0 = a := by simp [Addr.add]
    rw [hadd] at c0
    obtain ⟨v0, hv0⟩ : ∃ v, w.cell? a = some v := ⟨cs0[0]'(by rw [E.len hE0]; exact hm0), by rw [c0, List.getElem?_eq_getElem]⟩
    have hb := World.block_lt_of_cell? w a hv0
    have hsp : a.spot = none := by
      unfold World.cell? at hv0
      split at hv0
      · split at hv0
        · cases hv0
        · rename_i hs; cases h : a.spot <;> simp_all
      · cases hv0
    obtain ⟨ba, oa, sp⟩ := a
    simp only at hsp
    subst hsp
    refine ⟨ba, oa, cs', rfl, hb, by rw [← hxg]; exact hE', fun j u hj => ?_⟩
    have hjm : j < m := by have := (List.getElem?_eq_some_iff.1 hj).1; rwa [E.len hE'] at this
    have hc := (World.cells?_some hc').2.2 j hjm
    rw [Addr.add_lit, Addr.add_lit] at hc
    rw [hc]; exact hj
/-- A struct's fields, one by one. -/
theorem opens_field {fs : Array Field} {n : Nat} {cs : List Value} {y : DataW H × List MemPlace} (ht : P.underlying t = some (.struct fs)) (h : DataW.trod enc P w base spare held n t cs = some y) {i : Nat} {f : Field} (hf : fs[i]? = some f) {E : PR α m} (hE : Opens enc P w base spare held E f.type) {o q : Nat} (ho : f.offset = o) (hq : P.cellsOf f.type = q) :
    ∃ x, E.r w (In w) ((cs.drop o).take q) x := by
  subst ho hq
  obtain ⟨xs, m, _, _, _, hx, hs⟩ := DataW.trod_struct ht h
  have hi := (Array.getElem?_eq_some_iff.1 hf).1
  have := hs i f hf
  rw [List.getElem?_eq_getElem (by omega)] at this
  exact hE _ _ _ this
theorem opens_len {fs : Array Field} {n : Nat} {cs : List Value} {y : DataW H × List MemPlace} (ht : P.underlying t = some (.struct fs)) (h : DataW.trod enc P w base spare held n t cs = some y) : cs.length = P.cellsOf t := by
  obtain ⟨xs, m, _, _, hl, _, _⟩ := DataW.trod_struct ht h
  exact hl
theorem opens_arg {E : PR α m} {v : Value} {d : DataW H} {ps : List MemPlace} (hE : Opens enc P w base spare held E t) (h : DataW.Trod enc P w base spare held t v d ps) : ∃ x, E.r w (In w) v.cells.toList x := by
  obtain ⟨n, hn⟩ := h
  exact hE _ _ _ hn
theorem takedrop (cs : List Value) (o q : Nat) : cs.drop o = (cs.drop o).take q ++ cs.drop (o + q) := by
  rw [← List.drop_drop, List.take_append_drop]
end
/-- The start of a law: what came in stands there, frozen. -/
theorem CtxAt.start (w : World) : CtxAt w (In w) [Old w] [[]] := ⟨⟨⟨rfl, rfl, rfl, rfl, Nat.le_refl _, fun b hb => ⟨hb, rfl⟩⟩, trivial⟩, by simp, by simp, fun _ h => h⟩
theorem CtxAt.hold {w : World} {R : Nat → Prop} {l : List HP} {Ss : List (List Nat)} {α : Type} {m : Nat} {E : PR α m} {cs : List Value} {x : α} (h : CtxAt w R l Ss) (hE : E.r w R cs x) : CtxAt w R (Hold E cs x :: l) ([] :: Ss) := ⟨⟨⟨rfl, hE⟩, h.all⟩, by simpa using h.nodup, by simpa using h.own, h.fz⟩
theorem CtxAt.ctx {w : World} {R : Nat → Prop} {l : List HP} {Ss : List (List Nat)} (h : CtxAt w R l Ss) : Ctx w l := ⟨R, Ss, h⟩
end Go.Hp
