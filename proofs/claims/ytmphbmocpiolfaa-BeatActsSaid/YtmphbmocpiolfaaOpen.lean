/- Arguments that are slices of rows of cells, opened as lists: small laws over any program. -/
import Derived.Deep.Slices
import Derived.ProofKit
import Derived.Below
import Derived.OpenShut
import Derived.ChangeOld
import Derived.Test.YtmphbmocpiolfaaHp
namespace Go.Hp
open Go Go.RowKit Go.ChangeShapes Go.WideShapes Go.ChangeAt
section
variable {H : Type} {enc : TypeId × Value → H} {P : Program} {w : World} {base : Nat} {spare : Nat → Bool} {held : Bool}
/-- A slice of rows of m cells each, as a list. -/
def RowsAt {α : Type} (f : α → List Value) (m : Nat) (w : World) (a0 : Option Addr) (xs : List α) : Prop :=
  ∀ k, k < xs.length → ∃ ba oa, a0 = some ⟨ba, oa, none⟩ ∧ ba < w.heap.size ∧ ∀ i, (hi : i < xs.length) → ∀ j v, (f xs[i])[j]? = some v → w.cell? ⟨ba, oa + i * m + j, none⟩ = some v
theorem RowsAt.kept {α : Type} {f : α → List Value} {m : Nat} {w w' : World} {a0 : Option Addr} {xs : List α} (h : RowsAt f m w a0 xs) (ho : Only [] w w') : RowsAt f m w' a0 xs := by
  intro k hk
  obtain ⟨ba, oa, rfl, hlt, hc⟩ := h k hk
  exact ⟨ba, oa, rfl, Nat.lt_of_lt_of_le hlt ho.size, fun i hi j v hj => (ho.cell0 (x := ⟨ba, oa + i * m + j, none⟩) hlt (by simp)).trans (hc i hi j v hj)⟩
theorem open_rows {α : Type} (f : α → List Value) (good : α → Prop) (m : Nat) (hm : 0 < m) (hfl : ∀ a, (f a).length = m) {t e : TypeId} (ht : P.underlying t = some (.slice e)) (hce : P.cellsOf e = m)
    (hE : ∀ n cs y, DataW.trod enc P w base spare held n e cs = some y → ∃ a, cs = f a ∧ good a) {a0 : Option Addr} {len cap : Nat} {d : DataW H} {ps : List MemPlace} (h : DataW.Trod enc P w base spare held t (.slice a0 len cap) d ps) :
    ∃ xs : List α, xs.length = len ∧ RowsAt f m w a0 xs ∧ (∀ x ∈ xs, good x) ∧ len ≤ 9223372036854775807 := by
  obtain ⟨fuel, hf⟩ := h
  rcases Go.Deep.open_slice ht hf with ⟨hcs, _⟩ | ⟨a, l, c, q, n, D, Pl, hcs, _, hl, hcm, hq, _, hx⟩
  · simp [Value.cells] at hcs
    obtain ⟨rfl, rfl, rfl⟩ := hcs
    exact ⟨[], rfl, fun k hk => by simp at hk, by simp, by omega⟩
  · simp [Value.cells] at hcs
    obtain ⟨rfl, rfl, rfl⟩ := hcs
    have hlq : len ≤ q := by rw [hq]; split <;> omega
    have ex : ∀ i, i < len → ∃ y : α, good y ∧ w.cells? base (a.add (i * m)) m = some (f y) := by
      intro i hi
      obtain ⟨cs', h1, h2⟩ := hx i (by omega)
      rw [hce] at h1
      obtain ⟨y, rfl, hg⟩ := hE _ _ _ h2
      exact ⟨y, hg, h1⟩
    let g : Fin len → α := fun i => Classical.choose (ex i.1 i.2)
    have hg : ∀ i : Fin len, good (g i) ∧ w.cells? base (a.add (i.1 * m)) m = some (f (g i)) := fun i => Classical.choose_spec (ex i.1 i.2)
    refine ⟨List.ofFn g, by simp, fun k hk => ?_, fun x hx => ?_, by unfold maxLen at hcm; omega⟩
    · have hk' : k < len := by simpa using hk
      have c0 := (World.cells?_some (hg ⟨0, by omega⟩).2).2.2 0 hm
      simp only [Nat.zero_mul] at c0
      have hadd : (a.add 0).add 0 = a := by simp [Addr.add]
      rw [hadd] at c0
      obtain ⟨v0, hv0⟩ : ∃ v, w.cell? a = some v := ⟨(f (g ⟨0, by omega⟩))[0]'(by rw [hfl]; exact hm), by rw [c0, List.getElem?_eq_getElem]⟩
      have hb := World.block_lt_of_cell? w a hv0
      have hsp : a.spot = none := by
        unfold World.cell? at hv0
        split at hv0
        · split at hv0
          · cases hv0
          · rename_i hs; cases h : a.spot <;> simp_all
        · cases hv0
      obtain ⟨ba, oa, sp⟩ := a
      simp only at hsp
      subst hsp
      refine ⟨ba, oa, rfl, hb, fun i hi j v hj => ?_⟩
      have hi' : i < len := by simpa using hi
      have hjm : j < m := by have := (List.getElem?_eq_some_iff.1 hj).1; rw [hfl] at this; exact this
      have hc := (World.cells?_some (hg ⟨i, hi'⟩).2).2.2 j hjm
      rw [Addr.add_lit, Addr.add_lit] at hc
      rw [hc]
      simpa using hj
    · obtain ⟨i, rfl⟩ := List.mem_ofFn.1 hx
      exact (hg i).1
theorem int_cells {k : IntKind} {fuel : Nat} {t : TypeId} {c : Value} {x : DataW H × List MemPlace} (ht : P.underlying t = some (.int k)) (h : DataW.trod enc P w base spare held fuel t [c] = some x) : ∃ n, c = .int k n ∧ (Lit.int k n).wf = true := by
  obtain ⟨n, hcs, _, hw⟩ := DataW.trod_int ht h
  exact ⟨n, by simpa using hcs, hw⟩
end
end Go.Hp
