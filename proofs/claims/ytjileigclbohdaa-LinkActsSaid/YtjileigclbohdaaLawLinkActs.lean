/- Whatever a link is asked to send, ticks, hears and is reset, each answer and all that it tells is the document's: for every window, span, room and every list of acts. -/
import Derived.Test.YtjileigclbohdaaRows
import Derived.Test.YtjileigclbohdaaSl6
import Derived.Test.YtjileigclbohdaaP6
import Derived.WalkKit
import Derived.ProofKit
import Derived.OpenShut
import Derived.ShutString
import Derived.ChangeOld
import Derived.Below
import Derived.SizedLaws
import Derived.Carry
namespace Go.Proofs.Ytjileigclbohdaa.linkActs
open Go Go.Hp Go.ChangeShapes Go.WideShapes Go.ChangeAt Go.RowKit Go.Proofs.Ytjileigclbohdaa
open Go.ChangeMaps (open_string shut_string)
set_option linter.unusedVariables false
set_option linter.unusedSimpArgs false
theorem own : ownKnob Try.prog.godebug = none := by kernel_rfl
theorem laidOut : laidOutB Try.prog = true := by kernel_rfl
theorem S_law16_Sides.opens {H : Type} {enc : TypeId × Value → H} {w : World} {base : Nat} {spare : Nat → Bool} {held : Bool} : Opens enc Try.prog w base spare held S_law16_Sides.pr 23 := by
  intro n cs y h
  have hl : cs.length = 3 := by rw [opens_len Try.underlying23 h]; kernel_rfl
  obtain ⟨x0, e0⟩ := opens_field Try.underlying23 h (i := 0) rfl (opens_int Try.underlying3) (o := 0) (q := 1) rfl (by kernel_rfl)
  obtain ⟨x1, e1⟩ := opens_field Try.underlying23 h (i := 1) rfl (opens_int Try.underlying3) (o := 1) (q := 1) rfl (by kernel_rfl)
  obtain ⟨x2, e2⟩ := opens_field Try.underlying23 h (i := 2) rfl (opens_int Try.underlying3) (o := 2) (q := 1) rfl (by kernel_rfl)
  match cs, hl with
  | [c0, c1, c2], _ =>
    have g0 : [c0] = [.int .i64 x0] := e0
    simp only [List.cons.injEq, and_true] at g0
    subst g0
    have g1 : [c1] = [.int .i64 x1] := e1
    simp only [List.cons.injEq, and_true] at g1
    subst g1
    have g2 : [c2] = [.int .i64 x2] := e2
    simp only [List.cons.injEq, and_true] at g2
    subst g2
    exact ⟨⟨x0, x1, x2⟩, rfl⟩

theorem S_api_Seg.opens {H : Type} {enc : TypeId × Value → H} {w : World} {base : Nat} {spare : Nat → Bool} {held : Bool} : Opens enc Try.prog w base spare held S_api_Seg.pr 46 := by
  intro n cs y h
  have hl : cs.length = 4 := by rw [opens_len Try.underlying46 h]; kernel_rfl
  obtain ⟨x0, e0⟩ := opens_field Try.underlying46 h (i := 0) rfl (opens_int Try.underlying3) (o := 0) (q := 1) rfl (by kernel_rfl)
  obtain ⟨x1, e1⟩ := opens_field Try.underlying46 h (i := 1) rfl (opens_int Try.underlying3) (o := 1) (q := 1) rfl (by kernel_rfl)
  obtain ⟨x2, e2⟩ := opens_field Try.underlying46 h (i := 2) rfl (opens_int Try.underlying3) (o := 2) (q := 1) rfl (by kernel_rfl)
  obtain ⟨x3, e3⟩ := opens_field Try.underlying46 h (i := 3) rfl (opens_ro (E := (pInt .u8)) Try.underlying38 (by kernel_rfl) rfl (opens_int Try.underlying5)) (o := 3) (q := 1) rfl (by kernel_rfl)
  exact ⟨⟨x0, x1, x2, x3⟩, (cs.drop 0).take 1, cs.drop 1, (by have := takedrop cs 0 1; simpa using this), e0, (cs.drop 1).take 1, cs.drop 2, (by have := takedrop cs 1 1; simpa using this), e1, (cs.drop 2).take 1, cs.drop 3, (by have := takedrop cs 2 1; simpa using this), e2, (by have := e3; rwa [List.take_of_length_le (by simp; omega)] at this)⟩

theorem S_law16_Act.opens {H : Type} {enc : TypeId × Value → H} {w : World} {base : Nat} {spare : Nat → Bool} {held : Bool} : Opens enc Try.prog w base spare held S_law16_Act.pr 63 := by
  intro n cs y h
  have hl : cs.length = 7 := by rw [opens_len Try.underlying63 h]; kernel_rfl
  obtain ⟨x0, e0⟩ := opens_field Try.underlying63 h (i := 0) rfl (opens_int Try.underlying3) (o := 0) (q := 1) rfl (by kernel_rfl)
  obtain ⟨x1, e1⟩ := opens_field Try.underlying63 h (i := 1) rfl (opens_int Try.underlying3) (o := 1) (q := 1) rfl (by kernel_rfl)
  obtain ⟨x2, e2⟩ := opens_field Try.underlying63 h (i := 2) rfl (opens_ro (E := (pRo (pInt .u8))) Try.underlying51 (by kernel_rfl) rfl (opens_ro (E := (pInt .u8)) Try.underlying38 (by kernel_rfl) rfl (opens_int Try.underlying5))) (o := 2) (q := 1) rfl (by kernel_rfl)
  obtain ⟨x3, e3⟩ := opens_field Try.underlying63 h (i := 3) rfl (S_api_Seg.opens) (o := 3) (q := 4) rfl (by kernel_rfl)
  exact ⟨⟨x0, x1, x2, x3⟩, (cs.drop 0).take 1, cs.drop 1, (by have := takedrop cs 0 1; simpa using this), e0, (cs.drop 1).take 1, cs.drop 2, (by have := takedrop cs 1 1; simpa using this), e1, (cs.drop 2).take 1, cs.drop 3, (by have := takedrop cs 2 1; simpa using this), e2, (by have := e3; rwa [List.take_of_length_le (by simp; omega)] at this)⟩

set_option maxRecDepth 100000 in
theorem lifted (os : Os) (started : os.Started) (H : Type) (enc : TypeId × Value → H) :
    ReturnsInHanded {} Try.checked os 5 .any (Rows.linkActsSpec.pre6 enc Try.prog Try.f5 Rows.linkActsRow.domain false) (Rows.linkActsSpec.post enc Try.prog Try.f5 false true false false) := by
  refine returnsInHanded_of_change_sized (C := Try.checked) own started (by kernel_rfl) Try.func5
    (ChangeSpec.witness6 (enc := enc) (C := Try.checked) false ⟨#[], #[.agg #[.int .i64 0, .int .i64 0, .int .i64 0], .slice none 0 0], []⟩ 8 (by kernel_rfl) (by kernel_rfl) (by kernel_rfl) (by kernel_rfl)) ?_
  intro W base args ds gs before hval0 hW hcnd hsz0 _
  have hval : ∀ (j : Nat) t v, Try.f5.params[j]? = some t → args[j]? = some v → Value.okWide Try.prog W .any base t v := hval0
  have hW' := hW
  obtain ⟨p, q, hA0, hV, rfl, hfz, hnd⟩ := hW
  have hA : DataW.TrodAll enc Try.prog W 0 (fun _ => true) true Try.f5.params.toList args.toList ds p := hA0
  rw [Try.params5] at hA hval
  obtain ⟨v0, vs0, d0, ds0, p0, q0, hargs, rfl, rfl, h0, r0⟩ := trodAll_cons hA
  obtain ⟨v1, vs1, d1, ds1, p1, q1, rfl, rfl, rfl, h1, r1⟩ := trodAll_cons r0
  obtain ⟨rfl, rfl, rfl⟩ := trodAll_nil r1
  obtain rfl : args = #[v0, v1] := by cases args; simp_all
  obtain ⟨rfl, rfl⟩ := trodVars_none hV
  have k0 := h0
  have lt0 : ∀ x ∈ p0, x.block < W.heap.size := by obtain ⟨m, hm⟩ := k0; exact DataW.trod_lt m _ _ _ hm
  obtain ⟨cs0, rfl, _⟩ := okWide_struct Try.underlying23 (hval 0 23 v0 rfl rfl)
  obtain ⟨a0, hx0⟩ := opens_arg (S_law16_Sides.opens) h0
  obtain rfl : cs0 = #[.int .i64 a0.Window, .int .i64 a0.Span, .int .i64 a0.Room] := by have e : cs0.toList = [.int .i64 a0.Window, .int .i64 a0.Span, .int .i64 a0.Room] := hx0; have := congrArg List.toArray e; simpa using this
  have k1 := h1
  have lt1 : ∀ x ∈ p1, x.block < W.heap.size := by obtain ⟨m, hm⟩ := k1; exact DataW.trod_lt m _ _ _ hm
  obtain ⟨s1, len1, cap1, rfl⟩ := okWide_slice Try.underlying55 (hval 1 55 v1 rfl rfl)
  obtain ⟨a1, hx1⟩ := opens_arg (opens_ro (E := S_law16_Act.pr) Try.underlying55 (by kernel_rfl) rfl (S_law16_Act.opens)) h1
  have hc := ((CtxAt.start W).hold hx1).ctx
  clear hA0 hval0 hsz0
  have hcall : Calls Try.prog 5 _ W (Ret fun v w' => v = .bool true ∧ Only [] W w') := law16_LinkActs_any (K := fun v w' => v = .bool true ∧ Only [] W w') reads_ro hc (linkActs a0 a1) (fun w' hc' => ⟨rfl, hc'.only (k := 1) rfl rfl⟩)
  refine hcall.mono fun e W' ⟨v, he, hv, ho⟩ => ?_
  subst he hv
  have bel := ho.below
  exact ⟨_, rfl, _, _, _, [], _, [], hW', trodAll_mk1 (shut_bool Try.underlying4 _), (trodAll_cons_mk (Below.trod laidOut (by kernel_rfl) (of_decide_eq_true (by kernel_rfl)) k0 bel lt0) (trodAll_cons_mk (Below.trod laidOut (by kernel_rfl) (of_decide_eq_true (by kernel_rfl)) k1 bel lt1) trodAll_mk0)), rfl, bel.frame _, fun h => by cases h⟩
theorem over : Rows.linkActsRow.holds Try.pinned (OpenSpec.ofChange Rows.linkActsSpec) :=
  OpenClaim.holds_of_wide 5 Try.f5 rfl rfl rfl rfl rfl rfl rfl ⟨rfl, rfl, rfl, rfl, rfl⟩ rfl rfl rfl rfl rfl (by kernel_rfl) Try.func5 (by kernel_rfl)
    (of_decide_eq_true (by kernel_rfl)) (by unfold Func.isWrapper; first | (rw [if_pos (by decide +kernel)]; kernel_rfl) | (rw [if_neg (by decide +kernel)]; exact ⟨rfl, rfl⟩))
    (fun os started H enc _ => lifted os started H enc)
end Go.Proofs.Ytjileigclbohdaa.linkActs
namespace Go.Proofs.Ytjileigclbohdaa
theorem linkActs_holds : Rows.LinkActsSaid := linkActs.over
#print axioms linkActs_holds
end Go.Proofs.Ytjileigclbohdaa
