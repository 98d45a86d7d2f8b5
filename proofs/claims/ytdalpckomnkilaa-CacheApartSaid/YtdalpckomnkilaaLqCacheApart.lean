/- Requests, and layers, don't touch one another: what is laid, refused and dropped of one is as if there were no others, as long as there is room: for all acts. -/
import Derived.Test.YtdalpckomnkilaaMCacheAparta
import Derived.Test.YtdalpckomnkilaaMCacheApartc
import Derived.Test.YtdalpckomnkilaaRows
import Derived.WalkKit
import Derived.ProofKit
import Derived.OpenShut
import Derived.ShutString
import Derived.ChangeOld
import Derived.Below
import Derived.SizedLaws
import Derived.Carry
namespace Go.Proofs.Ytdalpckomnkilaa.cacheApart
open Go Go.Hp Go.ChangeShapes Go.WideShapes Go.ChangeAt Go.RowKit Go.Proofs.Ytdalpckomnkilaa
open Go.ChangeMaps (open_string shut_string)
set_option linter.unusedVariables false
set_option linter.unusedSimpArgs false
set_option linter.unnecessarySimpa false
theorem own : ownKnob Try.prog.godebug = none := by kernel_rfl
theorem laidOut : laidOutB Try.prog = true := by kernel_rfl
theorem S_api_Spot.opens {H : Type} {enc : TypeId × Value → H} {w : World} {base : Nat} {spare : Nat → Bool} {held : Bool} : Opens enc Try.prog w base spare held S_api_Spot.pr 30 := by
  intro n cs y h
  have hl : cs.length = 3 := by rw [opens_len Try.underlying30 h]; kernel_rfl
  obtain ⟨x0, e0⟩ := opens_field Try.underlying30 h (i := 0) rfl (opens_int Try.underlying3) (o := 0) (q := 1) rfl (by kernel_rfl)
  obtain ⟨x1, e1⟩ := opens_field Try.underlying30 h (i := 1) rfl (opens_int Try.underlying3) (o := 1) (q := 1) rfl (by kernel_rfl)
  obtain ⟨x2, e2⟩ := opens_field Try.underlying30 h (i := 2) rfl (opens_int Try.underlying3) (o := 2) (q := 1) rfl (by kernel_rfl)
  match cs, hl with
  | [c0, c1, c2], _ =>
    have g0 : [c0] = [.int .i64 x0] := e0
    simp only [List.cons.injEq, and_true] at g0
    subst g0
    have g1 : [c1] = [.int .i64 x1] := e1
    simp only [List.cons.injEq, and_true] at g1
    subst g1
    have g2 : [c2] = [.int .i64 x2] := e2
    simp only [List.cons.injEq, and_true] at g2
    subst g2
    exact ⟨⟨x0, x1, x2⟩, rfl⟩

theorem S_law12_Act.opens {H : Type} {enc : TypeId × Value → H} {w : World} {base : Nat} {spare : Nat → Bool} {held : Bool} : Opens enc Try.prog w base spare held S_law12_Act.pr 33 := by
  intro n cs y h
  have hl : cs.length = 6 := by rw [opens_len Try.underlying33 h]; kernel_rfl
  obtain ⟨x0, e0⟩ := opens_field Try.underlying33 h (i := 0) rfl (opens_int Try.underlying3) (o := 0) (q := 1) rfl (by kernel_rfl)
  obtain ⟨x1, e1⟩ := opens_field Try.underlying33 h (i := 1) rfl (S_api_Spot.opens) (o := 1) (q := 3) rfl (by kernel_rfl)
  obtain ⟨x2, e2⟩ := opens_field Try.underlying33 h (i := 2) rfl (opens_ro (E := (pInt .i8)) Try.underlying31 (by kernel_rfl) rfl (opens_int Try.underlying42)) (o := 4) (q := 1) rfl (by kernel_rfl)
  obtain ⟨x3, e3⟩ := opens_field Try.underlying33 h (i := 3) rfl (opens_ro (E := (pInt .i8)) Try.underlying31 (by kernel_rfl) rfl (opens_int Try.underlying42)) (o := 5) (q := 1) rfl (by kernel_rfl)
  exact ⟨⟨x0, x1, x2, x3⟩, (cs.drop 0).take 1, cs.drop 1, (by have := takedrop cs 0 1; simpa using this), e0, (cs.drop 1).take 3, cs.drop 4, (by have := takedrop cs 1 3; simpa using this), e1, (cs.drop 4).take 1, cs.drop 5, (by have := takedrop cs 4 1; simpa using this), e2, (by have := e3; rwa [List.take_of_length_le (by simp; omega)] at this)⟩

def qAct (x : S_law12_Act) : Prop := wf64 x.At.Request ∧ wf64 x.At.Place
theorem S_api_Spot.opensQ {H : Type} {enc : TypeId × Value → H} {w : World} {base : Nat} {spare : Nat → Bool} {held : Bool} : Opens enc Try.prog w base spare held (pAnd S_api_Spot.pr fun x => wf64 x.Request ∧ wf64 x.Place) 30 :=
  opens_and S_api_Spot.opens fun n cs y x h hx => ⟨field_wf Try.underlying30 h (i := 0) rfl Try.underlying3 (o := 0) rfl (by kernel_rfl) (by rw [show cs = _ from hx]; rfl), field_wf Try.underlying30 h (i := 2) rfl Try.underlying3 (o := 2) rfl (by kernel_rfl) (by rw [show cs = _ from hx]; rfl)⟩
theorem S_law12_Act.opensQ {H : Type} {enc : TypeId × Value → H} {w : World} {base : Nat} {spare : Nat → Bool} {held : Bool} : Opens enc Try.prog w base spare held (pAnd S_law12_Act.pr qAct) 33 :=
  opens_and S_law12_Act.opens fun n cs y x h hx => by
    obtain ⟨z, hz, hq⟩ := opens_field Try.underlying33 h (i := 1) rfl S_api_Spot.opensQ (o := 1) (q := 3) rfl (by kernel_rfl)
    obtain ⟨_, _, rfl, rfl, _, _, rfl, rfl, _⟩ := hx
    have e : ([.int .i64 x.At.Request, .int .i64 x.At.Layer, .int .i64 x.At.Place] : List Value) = [.int .i64 z.Request, .int .i64 z.Layer, .int .i64 z.Place] := hz
    simp only [List.cons.injEq, Value.int.injEq, true_and, and_true] at e
    unfold qAct
    rw [e.1, e.2.2]
    exact hq
set_option maxRecDepth 100000 in
theorem lifted (os : Os) (started : os.Started) (H : Type) (enc : TypeId × Value → H) :
    ReturnsInHanded {} Try.checked os 3 .any (Rows.cacheApartSpec.pre6 enc Try.prog Try.f3 Rows.cacheApartRow.domain false) (Rows.cacheApartSpec.post enc Try.prog Try.f3 false true false false) := by
  refine returnsInHanded_of_change_sized (C := Try.checked) own started (by kernel_rfl) Try.func3
    (ChangeSpec.witness6 (enc := enc) (C := Try.checked) false ⟨#[], #[.slice none 0 0], []⟩ 8 (by kernel_rfl) (by kernel_rfl) (by kernel_rfl) (by kernel_rfl)) ?_
  intro W base args ds gs before hval0 hW hcnd hsz0 _
  have hval : ∀ (j : Nat) t v, Try.f3.params[j]? = some t → args[j]? = some v → Value.okWide Try.prog W .any base t v := hval0
  have hW' := hW
  obtain ⟨p, q, hA0, hV, rfl, hfz, hnd⟩ := hW
  have hA : DataW.TrodAll enc Try.prog W 0 (fun _ => true) true Try.f3.params.toList args.toList ds p := hA0
  rw [Try.params3] at hA hval
  obtain ⟨v0, vs0, d0, ds0, p0, q0, hargs, rfl, rfl, h0, r0⟩ := trodAll_cons hA
  obtain ⟨rfl, rfl, rfl⟩ := trodAll_nil r0
  obtain rfl : args = #[v0] := by cases args; simp_all
  obtain ⟨rfl, rfl⟩ := trodVars_none hV
  have k0 := h0
  have lt0 : ∀ x ∈ p0, x.block < W.heap.size := by obtain ⟨m, hm⟩ := k0; exact DataW.trod_lt m _ _ _ hm
  obtain ⟨s0, len0, cap0, rfl⟩ := okWide_slice Try.underlying22 (hval 0 22 v0 rfl rfl)
  obtain ⟨a0, hx0⟩ := opens_arg (opens_ro (E := pAnd S_law12_Act.pr qAct) Try.underlying22 (by kernel_rfl) rfl (S_law12_Act.opensQ)) h0
  obtain ⟨hx0, w0⟩ := roQ hx0
  have hc := ((CtxAt.start W).hold hx0).ctx
  clear hA0 hval0 hsz0
  have hcall : Calls Try.prog 3 _ W (Ret fun v w' => v = .bool true ∧ Only [] W w') := law12_CacheApart_any (K := fun v w' => v = .bool true ∧ Only [] W w') reads_ro hc (cacheApart a0 (fun x h => wf64_le (w0 x h).2)) (fun w' hc' => ⟨rfl, hc'.only (k := 1) rfl rfl⟩)
  refine hcall.mono fun e W' ⟨v, he, hv, ho⟩ => ?_
  subst he hv
  have bel := ho.below
  exact ⟨_, rfl, _, _, _, [], _, [], hW', trodAll_mk1 (shut_bool Try.underlying4 _), (trodAll_cons_mk (Below.trod laidOut (by kernel_rfl) (of_decide_eq_true (by kernel_rfl)) k0 bel lt0) trodAll_mk0), rfl, bel.frame _, fun h => by cases h⟩
theorem over : Rows.cacheApartRow.holds Try.pinned (OpenSpec.ofChange Rows.cacheApartSpec) :=
  OpenClaim.holds_of_wide 3 Try.f3 rfl rfl rfl rfl rfl rfl rfl ⟨rfl, rfl, rfl, rfl, rfl⟩ rfl rfl rfl rfl rfl (by kernel_rfl) Try.func3 (by kernel_rfl)
    (of_decide_eq_true (by kernel_rfl)) (by unfold Func.isWrapper; first | (rw [if_pos (by decide +kernel)]; kernel_rfl) | (rw [if_neg (by decide +kernel)]; exact ⟨rfl, rfl⟩))
    (fun os started H enc _ => lifted os started H enc)
end Go.Proofs.Ytdalpckomnkilaa.cacheApart
namespace Go.Proofs.Ytdalpckomnkilaa
theorem cacheApart_holds : Rows.CacheApartSaid := cacheApart.over
#print axioms cacheApart_holds
end Go.Proofs.Ytdalpckomnkilaa
