/- An element of a row, held fast: its cells stand as they are. -/
import Derived.Test.YtdipfegofpfhaaaSl15
namespace Go.Hp
open Go Go.RowKit
set_option linter.unusedVariables false
section
variable {α : Type} {m : Nat} {E : PR α m} {w : World} {l : List HP} {k : Nat} {v : Value} {xs : List α} {P : HP} {b o : Nat} {cs : List Value}
def Pn (P : HP) (b o : Nat) (cs : List Value) : HP :=
  ⟨fun w R S => P.p w R S ∧ (b ∈ S ∨ R b) ∧ ∀ (j : Nat) u, cs[j]? = some u → w.cell? ⟨b, o + j, none⟩ = some u,
   fun h hk hR => ⟨P.st h.1 hk hR, h.2.1.imp id (hR _), fun j u hu => (hk.cell (a := ⟨b, o + j, none⟩) h.2.1).trans (h.2.2 j u hu)⟩⟩
theorem reads_pn (h : Reads P E v xs) : Reads (Pn P b o cs) E v xs := fun w R S hp => h w R S hp.1
theorem Ctx.pnAt (h : Ctx w l) (hk : ltP l k = true) (e : nthP l k = P) {bb oo n c : Nat} (hP : Reads P E (.slice (some ⟨bb, oo, none⟩) n c) xs) {i : Int} {x : α} (hx : idx xs i = some x) :
    ∃ cs, Ctx w (Hold E cs x :: setP l k (Pn P bb (oo + i.toNat * m) cs)) := by
  obtain ⟨h0, h1, h2⟩ := idx_some hx
  have h' := h.perm (perm_nth hk)
  rw [e] at h'
  obtain ⟨R, Ss, hc⟩ := h'
  match Ss, hc with
  | S :: Ss, hc =>
    obtain ⟨a, c', hv', _, hr⟩ := hP w R S hc.all.1
    obtain ⟨bb', oo', cs, ha, hA, hE, hcs⟩ := hr _ _ h2
    subst ha
    injection hv' with e1 _ _
    injection e1 with e1
    injection e1 with e1 e2
    subst e1 e2
    have : Ctx w (Hold E cs x :: Pn P bb (oo + i.toNat * m) cs :: remP l k) := ⟨R, [] :: S :: Ss, ⟨⟨rfl, hE⟩, ⟨hc.all.1, hA, hcs⟩, hc.all.2⟩, by simpa using hc.nodup, by simpa using hc.own, hc.fz⟩
    exact ⟨cs, this.perm ((perm_set hk).cons _)⟩
theorem Ctx.pnCell {Q : HP} (h : Ctx w l) (hk : ltP l k = true) (e : nthP l k = Q) (hQ : ∀ w R S, Q.p w R S → (Pn P b o cs).p w R S) : ∀ (j : Nat) u, cs[j]? = some u → w.cell? ⟨b, o + j, none⟩ = some u := by
  obtain ⟨R, S, hp, _⟩ := h.at hk e
  exact (hQ w R S hp).2.2
theorem Ctx.pnB (h : Ctx w l) (hk : ltP l k = true) (e : nthP l k = Pn P b o cs) {l' : List HP} (el : setP l k P = l') : Ctx w l' := h.conv hk P (fun R S hp => by rw [e] at hp; exact hp.1) el
end
end Go.Hp
