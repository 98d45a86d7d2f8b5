/- Pointers to structs that never turn any more. -/
import Derived.Test.YtdipfegofpfhaaaSl18
namespace Go.Hp
open Go Go.RowKit
set_option linter.unusedVariables false
section
variable {α : Type} {m : Nat} {E : PR α m} {T : TypeId} {w : World} {l : List HP} {k : Nat} {x : α} {cs : List Value}
/-- A pointer that leads to x, for good. -/
def pPt {α : Type} {m : Nat} (E : PR α m) : PR α 1 :=
  ⟨fun w R cs x => ∃ b cs', cs = [.pointer (some ⟨b, 0, none⟩)] ∧ R b ∧ E.r w R cs' x ∧ ∀ (j : Nat) u, cs'[j]? = some u → w.cell? ⟨b, j, none⟩ = some u,
   fun ⟨b, cs', e, hb, h, hc⟩ hk hR => ⟨b, cs', e, hR _ hb, E.st h hk hR, fun j u hu => (hk.cell (a := ⟨b, j, none⟩) hb).trans (hc j u hu)⟩,
   fun ⟨b, cs', e, _⟩ => by rw [e]; rfl,
   fun ⟨b, cs', e, _⟩ v hv => by rw [e, List.mem_singleton] at hv; subst hv; rfl⟩
/-- .. or to nothing. -/
def pPo {α : Type} {m : Nat} (E : PR α m) : PR (Option α) 1 :=
  ⟨fun w R cs o => match o with | none => cs = [.pointer none] | some x => (pPt E).r w R cs x,
   fun {w w' R R' cs o} h hk hR => match o, h with | none, h => h | some x, h => (pPt E).st h hk hR,
   fun {w R cs o} h => match o, h with | none, h => by rw [show cs = [.pointer none] from h]; rfl | some x, h => (pPt E).len h,
   fun {w R cs o} h v hv => match o, h with | none, h => by rw [show cs = [.pointer none] from h, List.mem_singleton] at hv; subst hv; rfl | some x, h => (pPt E).one h v hv⟩
/-- The cells of a block that never turns any more. -/
def FrB (b : Nat) (cs : List Value) : HP :=
  ⟨fun w R S => S = [] ∧ R b ∧ ∀ (j : Nat) u, cs[j]? = some u → w.cell? ⟨b, j, none⟩ = some u,
   fun h hk hR => ⟨h.1, hR _ h.2.1, fun j u hu => (hk.cell (a := ⟨b, j, none⟩) (.inr h.2.1)).trans (h.2.2 j u hu)⟩⟩
theorem Ctx.poN (E : PR α m) (h : Ctx w l) : Ctx w (Hold (pPo E) [.pointer none] none :: l) := h.add _ fun _ _ _ => ⟨rfl, rfl⟩
theorem Ctx.poSB (h : Ctx w (Hold (pPt E) cs x :: l)) : Ctx w (Hold (pPo E) cs (some x) :: l) := h
theorem Ctx.poS (h : Ctx w (Hold (pPo E) cs (some x) :: l)) : Ctx w (Hold (pPt E) cs x :: l) := h
theorem Ctx.poNF (h : Ctx w (Hold (pPo E) cs none :: l)) : cs = [.pointer none] ∧ Ctx w l := by
  refine ⟨?_, h.drop⟩
  obtain ⟨R, S, hp, _⟩ := h.get
  exact hp.2
/-- Such a pointer, looked through. -/
theorem Ctx.poF {v : Value} {o : Option α} (h : Ctx w (Hold (pPo E) [v] o :: l)) (hy : o = some x) : ∃ b cs', v = .pointer (some ⟨b, 0, none⟩) ∧ Ctx w (Hold E cs' x :: FrB b cs' :: Hold (pPo E) [.pointer (some ⟨b, 0, none⟩)] o :: l) := by
  subst hy
  obtain ⟨R, Ss, hc⟩ := h
  match Ss, hc with
  | S :: Ss, hc =>
    obtain ⟨⟨rfl, b, cs', e, hb, hE, hcell⟩, h3⟩ := hc.all
    injection e with e
    subst e
    exact ⟨b, cs', rfl, R, [] :: [] :: [] :: Ss, ⟨⟨rfl, hE⟩, ⟨rfl, hb, hcell⟩, ⟨rfl, b, cs', rfl, hb, hE, hcell⟩, h3⟩, by simpa using hc.nodup, by simpa using hc.own, hc.fz⟩
theorem Ctx.poE {v : Value} (h : Ctx w (Hold (pPo E) [v] none :: l)) : v = .pointer none ∧ Ctx w l := by
  obtain ⟨e, h⟩ := Ctx.poNF h
  injection e with e
  exact ⟨e, h⟩
theorem Ctx.poP {v : Value} {o : Option α} (h : Ctx w (Hold (pPo E) [v] o :: l)) : ∃ a, v = .pointer a := by
  cases o with
  | none => exact ⟨none, (Ctx.poE h).1⟩
  | some x => obtain ⟨b, _, e, _⟩ := Ctx.poF h rfl; exact ⟨_, e⟩
theorem Ctx.frCell (h : Ctx w l) {b : Nat} (hk : ltP l k = true) (e : nthP l k = FrB b cs) {i : Nat} {v : Value} (hi : cs[i]? = some v) : w.cell? ⟨b, i, none⟩ = some v := by
  obtain ⟨R, S, hp, _⟩ := h.at hk e
  exact hp.2.2 i v hi
theorem Ctx.frCells (h : Ctx w l) {b : Nat} (hk : ltP l k = true) (e : nthP l k = FrB b cs) (o : Nat) {vs : List Value} (hv : (cs.drop o).take vs.length = vs) : ∀ (j : Nat) u, vs[j]? = some u → w.cell? ((⟨b, o, none⟩ : Addr).add j) = some u := by
  intro j u hu
  rw [Addr.add_lit]
  refine Ctx.frCell h hk e ?_
  rw [← hv] at hu
  rw [List.getElem?_take] at hu
  split at hu
  · rwa [List.getElem?_drop] at hu
  · cases hu
/-- A struct of one's own, for good. -/
theorem Ctx.ptB {b : Nat} (h : Ctx w (Hold E cs x :: B b cs T :: l)) : Ctx w (Hold (pPt E) [.pointer (some ⟨b, 0, none⟩)] x :: l) := by
  refine Ctx.upd (Ps := [Hold E cs x, B b cs T]) (Qs := [Hold (pPt E) [.pointer (some ⟨b, 0, none⟩)] x]) h fun R Ss hc => ?_
  match Ss, hc with
  | [S1, S2], hc =>
    obtain ⟨⟨rfl, hE⟩, ⟨rfl, hB⟩, _⟩ := hc.all
    have hlt : b < w.heap.size ∧ ¬ R b := hc.own b (by simp)
    refine ⟨fun q => R q ∨ q = b, [[]], ⟨⟨rfl, b, cs, rfl, .inr rfl, E.st hE (Kp.refl _ _) (fun _ h => .inl h), fun j u hu => hB.cell hu⟩, trivial⟩, by simp, by simp, fun q hq => .inl hq, fun q hq => ?_, Kp.refl _ _⟩
    rcases hq with hq | rfl
    · exact ⟨.inl hq, hc.fz q hq⟩
    · exact ⟨.inr (.inl (by simp)), hlt.1⟩
  | [], hc => exact hc.all.elim
  | [_], hc => exact hc.all.2.elim
  | _ :: _ :: _ :: _, hc => exact hc.all.2.2.elim
end
end Go.Hp
namespace Go.Hp
open Go Go.RowKit
section
variable {P : Program} {n : Nat} {l : Fm} {b : Nat → Value} {w : World} {fn : Func} {R : Ending → World → Prop} {r s T m : Nat} {a : Addr} {cs : List Value} {u : Value}
/-- A value, and a result that stands in a cell. -/
theorem f2tc (hr : fn.results = #[.tmp s, .cell r T]) (hn : fn.ntmps = n) (hv : ev n l b (.tmp r) = .pointer (some a)) (hT : ∀ w, (isAgg T).run P w = .ok true w) (hs : ∀ w, (sizeOf T).run P w = .ok m w) (hm : cs.length = m) (hc : ∀ j v, cs[j]? = some v → w.cell? (a.add j) = some v)
    (hu : ev n l b (.tmp s) = u) (h : R (.returned (.tuple #[u, .agg cs.toArray])) w) : postQ P fn R .ret l b w := by
  subst hn hm hu
  refine ⟨_, ?_, h⟩
  have e : (act fn.ntmps l b).tmps.getD r undef = .pointer (some a) := (congrFun (act_eval fn.ntmps l b) (.tmp r)).trans hv
  have e2 : (act fn.ntmps l b).tmps.getD s undef = ev fn.ntmps l b (.tmp s) := congrFun (act_eval fn.ntmps l b) (.tmp s)
  have hl := run_loadCells_list (P := P) (w := w) a cs hc
  simp only [Array.getD_eq_getD_getElem?] at e e2
  simp [results, hr, e, e2, asAddr, loadVar, hT, hs, hl]
end
end Go.Hp
