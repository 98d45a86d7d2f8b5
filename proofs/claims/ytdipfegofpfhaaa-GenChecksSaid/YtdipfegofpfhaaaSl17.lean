/- Shorter spellings. -/
import Derived.Test.YtdipfegofpfhaaaSl16
namespace Go.Hp
open Go Go.RowKit
set_option linter.unusedVariables false
section
variable {P : Program} {n : Nat} {Q : Qt} {l : Fm} {b : Nat → Value} {w w0 : World} {ops : List Oper} {rest : List Oper} {op : Op} {x : Operand} {ty : TypeId} {pos : String} {after : Array Edge} {g : Option (Nat × Bool)} {d : Nat} {bm : List Nat} {G : Nat → World → Prop} {em xm i : Nat}
theorem rM (v : Value) (h : ev n l b x = v) (hw : want n ops l b ⟨some d, .move x, ty, pos, after, g⟩ = true) (k : Rg P n ops Q rest ((d, v) :: l) b w) : Rg P n ops Q (⟨some d, .move x, ty, pos, after, g⟩ :: rest) l b w := rs (mv h) hw k
theorem rA (v : Value) (h : ev n l b x = v) (hw : want n ops l b ⟨some d, .assign x, ty, pos, after, g⟩ = true) (k : Rg P n ops Q rest ((d, v) :: l) b w) : Rg P n ops Q (⟨some d, .assign x, ty, pos, after, g⟩ :: rest) l b w := rs (av h) hw k
theorem dM (v : Value) (h : ev n l b x = v) (hz : em.testBit i = false) (hw : want n ops l b ⟨some d, .move x, ty, pos, after, g⟩ = true) (k : Rd P n ops bm em G xm Q (i + 1) rest ((d, v) :: l) b w) : Rd P n ops bm em G xm Q i (⟨some d, .move x, ty, pos, after, g⟩ :: rest) l b w := ds hz (fun _ _ => mv h) hw k
theorem dA (v : Value) (h : ev n l b x = v) (hz : em.testBit i = false) (hw : want n ops l b ⟨some d, .assign x, ty, pos, after, g⟩ = true) (k : Rd P n ops bm em G xm Q (i + 1) rest ((d, v) :: l) b w) : Rd P n ops bm em G xm Q i (⟨some d, .assign x, ty, pos, after, g⟩ :: rest) l b w := ds hz (fun _ _ => av h) hw k
theorem dE {v : Value} (h : (execOp (ev n l b) ⟨some d, op, ty, pos, after, g⟩).run P w0 = .ok (.value v) w0) (hz : em.testBit i = false) (hw : want n ops l b ⟨some d, op, ty, pos, after, g⟩ = true) (k : Rd P n ops bm em (fun _ w' => w' = w0) xm Q (i + 1) rest ((d, v) :: l) b w) : Rd P n ops bm em (fun _ w' => w' = w0) xm Q i (⟨some d, op, ty, pos, after, g⟩ :: rest) l b w :=
  ds hz (fun w' hF => by subst hF; exact h) hw k
def rems : List HP → List Nat → List HP
  | l, [] => l
  | l, k :: ks => rems (remP l k) ks
def ltPs : List HP → List Nat → Bool
  | _, [] => true
  | l, k :: ks => match ltP l k with | true => ltPs (remP l k) ks | false => false
theorem Ctx.rems {w : World} : ∀ (ks : List Nat) {l : List HP} (h : Ctx w l) (hk : ltPs l ks = true) {l' : List HP} (e : rems l ks = l'), Ctx w l'
  | [], l, h, _, l', e => e ▸ h
  | k :: ks, l, h, hk, l', e => by
    unfold ltPs at hk
    cases c : ltP l k with
    | true => rw [c] at hk; exact Ctx.rems ks (h.rem k c rfl) hk e
    | false => rw [c] at hk; cases hk
theorem Ctx.holdsC {α : Type} {m : Nat} {E : PR α m} {f : α → List Value} {w : World} {l : List HP} (hE : ∀ (w : World) R x, E.r w R (f x) x) (h : Ctx w l) : ∀ (xs : List α), Ctx w (holds E (xs.map f) xs l)
  | [] => h
  | x :: xs => (Ctx.holdsC hE h xs).add _ fun _ _ _ => ⟨rfl, hE _ _ _⟩
end
end Go.Hp
