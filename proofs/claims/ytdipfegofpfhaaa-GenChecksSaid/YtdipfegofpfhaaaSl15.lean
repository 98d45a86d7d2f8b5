/- Places of an array behind a pointer. -/
import Derived.Test.YtdipfegofpfhaaaSl14
namespace Go.Hp
open Go Go.RowKit
set_option linter.unusedVariables false
section
variable {P : Program} {ρ : Operand → Value} {w : World} {dst : Option Nat} {ty : TypeId} {pos : String} {after : Array Edge} {g : Option (Nat × Bool)} {x y : Operand} {T E : TypeId} {m n bb o : Nat} {k : IntKind}
theorem ixa {i : Int} {o' : Nat} (hx : ρ x = .pointer (some ⟨bb, o, none⟩)) (hy : ρ y = .int k i) (hu : P.underlying T = some (.array n E)) (hs : ∀ w, (sizeOf E).run P w = .ok m w) (h0 : 0 ≤ i) (h1 : i < n) (h2 : 1 < n) (hm : 0 < m) (ho : o + i.toNat * m = o') :
    (execOp ρ ⟨dst, .indexAddr T x y, ty, pos, after, g⟩).run P w = .ok (.value (.pointer (some ⟨bb, o', none⟩))) w := by
  subst ho
  simp [execOp, hx, hy, Instr.indexAt, Instr.sureAddr, asIntOf, run_underlying hu, h0, h1, hs, Addr.add_lit]
end
section
variable {α : Type} {m : Nat} {E : PR α m} {xs : List α} {w : World} {l : List HP}
theorem ro_sub {R : Nat → Prop} {a a2 : Option Addr} {n c lo hi q2 n2 : Nat} (hQ : (pRo E).r w R [.slice a n c] xs) (h1 : lo ≤ hi) (h2 : hi ≤ xs.length) (ea : a2 = if c = lo then a else a.map (·.add (lo * m))) (en : n2 = hi - lo) (eq : q2 = c - lo) :
    (pRo E).r w R [.slice a2 n2 q2] ((xs.take hi).drop lo) := by
  subst ea en eq
  obtain ⟨v, e, a', c', hv, hc, hr⟩ := hQ
  injection e with e _
  subst e
  injection hv with e1 e2 e3
  subst e1 e3
  refine ⟨_, rfl, _, _, by rw [show hi - lo = ((xs.take hi).drop lo).length by simp; omega], by simp; omega, fun i x hx => ?_⟩
  have hx' : xs[lo + i]? = some x := by
    rw [List.getElem?_drop, List.getElem?_take] at hx
    split at hx
    · exact hx
    · cases hx
  have hlt : lo + i < hi := by
    rw [List.getElem?_drop, List.getElem?_take] at hx
    split at hx
    · assumption
    · cases hx
  obtain ⟨bb, oo, cs, ha, hA, hE, hcs⟩ := hr (lo + i) x hx'
  subst ha
  refine ⟨bb, oo + lo * m, cs, ?_, hA, hE, fun j u hu => ?_⟩
  · rw [if_neg (by omega)]
    simp [Addr.add_lit]
  · have := hcs j u hu
    rwa [Nat.add_mul, ← Nat.add_assoc] at this
theorem Ctx.subRo {a a2 : Option Addr} {n c lo hi q2 n2 : Nat} (h : Ctx w (Hold (pRo E) [.slice a n c] xs :: l)) (h1 : lo ≤ hi) (h2 : hi ≤ xs.length) (ea : a2 = if c = lo then a else a.map (·.add (lo * m))) (en : n2 = hi - lo) (eq : q2 = c - lo) :
    Ctx w (Hold (pRo E) [.slice a2 n2 q2] ((xs.take hi).drop lo) :: l) :=
  Ctx.conv h (k := 0) rfl (Hold (pRo E) [.slice a2 n2 q2] ((xs.take hi).drop lo)) (fun R S (hp : (Hold (pRo E) [.slice a n c] xs).p w R S) => ⟨hp.1, ro_sub hp.2 h1 h2 ea en eq⟩) rfl
end
end Go.Hp
