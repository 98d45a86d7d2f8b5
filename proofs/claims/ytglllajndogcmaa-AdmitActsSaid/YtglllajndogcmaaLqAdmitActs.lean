/- Whatever is submitted, taken, cancelled, each answer, who waits, and whose numbers were taken, is the document's: for all shapes, rooms and acts. -/
import Derived.Test.YtglllajndogcmaaMAdmitActsa
import Derived.Test.YtglllajndogcmaaMAdmitActsb
import Derived.Test.YtglllajndogcmaaRows
import Derived.WalkKit
import Derived.ProofKit
import Derived.OpenShut
import Derived.ShutString
import Derived.ChangeOld
import Derived.Below
import Derived.SizedLaws
import Derived.Carry
namespace Go.Proofs.Ytglllajndogcmaa.admitActs
open Go Go.Hp Go.ChangeShapes Go.WideShapes Go.ChangeAt Go.RowKit Go.Proofs.Ytglllajndogcmaa
open Go.ChangeMaps (open_string shut_string)
set_option linter.unusedVariables false
set_option linter.unusedSimpArgs false
set_option linter.unnecessarySimpa false
theorem own : ownKnob Try.prog.godebug = none := by kernel_rfl
theorem laidOut : laidOutB Try.prog = true := by kernel_rfl
theorem S_api_Shape.opens {H : Type} {enc : TypeId × Value → H} {w : World} {base : Nat} {spare : Nat → Bool} {held : Bool} : Opens enc Try.prog w base spare held S_api_Shape.pr 31 := by
  intro n cs y h
  have hl : cs.length = 6 := by rw [opens_len Try.underlying31 h]; kernel_rfl
  obtain ⟨x0, e0⟩ := opens_field Try.underlying31 h (i := 0) rfl (opens_int Try.underlying3) (o := 0) (q := 1) rfl (by kernel_rfl)
  obtain ⟨x1, e1⟩ := opens_field Try.underlying31 h (i := 1) rfl (opens_int Try.underlying3) (o := 1) (q := 1) rfl (by kernel_rfl)
  obtain ⟨x2, e2⟩ := opens_field Try.underlying31 h (i := 2) rfl (opens_int Try.underlying3) (o := 2) (q := 1) rfl (by kernel_rfl)
  obtain ⟨x3, e3⟩ := opens_field Try.underlying31 h (i := 3) rfl (opens_int Try.underlying3) (o := 3) (q := 1) rfl (by kernel_rfl)
  obtain ⟨x4, e4⟩ := opens_field Try.underlying31 h (i := 4) rfl (opens_int Try.underlying3) (o := 4) (q := 1) rfl (by kernel_rfl)
  obtain ⟨x5, e5⟩ := opens_field Try.underlying31 h (i := 5) rfl (opens_int Try.underlying3) (o := 5) (q := 1) rfl (by kernel_rfl)
  match cs, hl with
  | [c0, c1, c2, c3, c4, c5], _ =>
    have g0 : [c0] = [.int .i64 x0] := e0
    simp only [List.cons.injEq, and_true] at g0
    subst g0
    have g1 : [c1] = [.int .i64 x1] := e1
    simp only [List.cons.injEq, and_true] at g1
    subst g1
    have g2 : [c2] = [.int .i64 x2] := e2
    simp only [List.cons.injEq, and_true] at g2
    subst g2
    have g3 : [c3] = [.int .i64 x3] := e3
    simp only [List.cons.injEq, and_true] at g3
    subst g3
    have g4 : [c4] = [.int .i64 x4] := e4
    simp only [List.cons.injEq, and_true] at g4
    subst g4
    have g5 : [c5] = [.int .i64 x5] := e5
    simp only [List.cons.injEq, and_true] at g5
    subst g5
    exact ⟨⟨x0, x1, x2, x3, x4, x5⟩, rfl⟩

theorem S_api_Request.opens {H : Type} {enc : TypeId × Value → H} {w : World} {base : Nat} {spare : Nat → Bool} {held : Bool} : Opens enc Try.prog w base spare held S_api_Request.pr 24 := by
  intro n cs y h
  have hl : cs.length = 3 := by rw [opens_len Try.underlying24 h]; kernel_rfl
  obtain ⟨x0, e0⟩ := opens_field Try.underlying24 h (i := 0) rfl (opens_int Try.underlying3) (o := 0) (q := 1) rfl (by kernel_rfl)
  obtain ⟨x1, e1⟩ := opens_field Try.underlying24 h (i := 1) rfl (opens_int Try.underlying3) (o := 1) (q := 1) rfl (by kernel_rfl)
  obtain ⟨x2, e2⟩ := opens_field Try.underlying24 h (i := 2) rfl (opens_ro (E := (pInt .i64)) Try.underlying22 (by kernel_rfl) rfl (opens_int Try.underlying3)) (o := 2) (q := 1) rfl (by kernel_rfl)
  exact ⟨⟨x0, x1, x2⟩, (cs.drop 0).take 1, cs.drop 1, (by have := takedrop cs 0 1; simpa using this), e0, (cs.drop 1).take 1, cs.drop 2, (by have := takedrop cs 1 1; simpa using this), e1, (by have := e2; rwa [List.take_of_length_le (by simp; omega)] at this)⟩

theorem S_law21_Act.opens {H : Type} {enc : TypeId × Value → H} {w : World} {base : Nat} {spare : Nat → Bool} {held : Bool} : Opens enc Try.prog w base spare held S_law21_Act.pr 49 := by
  intro n cs y h
  have hl : cs.length = 4 := by rw [opens_len Try.underlying49 h]; kernel_rfl
  obtain ⟨x0, e0⟩ := opens_field Try.underlying49 h (i := 0) rfl (opens_int Try.underlying3) (o := 0) (q := 1) rfl (by kernel_rfl)
  obtain ⟨x1, e1⟩ := opens_field Try.underlying49 h (i := 1) rfl (S_api_Request.opens) (o := 1) (q := 3) rfl (by kernel_rfl)
  exact ⟨⟨x0, x1⟩, (cs.drop 0).take 1, cs.drop 1, (by have := takedrop cs 0 1; simpa using this), e0, (by have := e1; rwa [List.take_of_length_le (by simp; omega)] at this)⟩

def wf64 (z : Int) : Prop := (Lit.int .i64 z).wf = true
def qAct (x : S_law21_Act) : Prop := wf64 x.R.Most
theorem S_api_Request.opensQ {H : Type} {enc : TypeId × Value → H} {w : World} {base : Nat} {spare : Nat → Bool} {held : Bool} : Opens enc Try.prog w base spare held (pAnd S_api_Request.pr fun x => wf64 x.Most) 24 :=
  opens_and S_api_Request.opens fun n cs y x h hx => field_wf Try.underlying24 h (i := 1) rfl Try.underlying3 (o := 1) rfl (by kernel_rfl) (by obtain ⟨_, _, rfl, rfl, _, _, rfl, rfl, _⟩ := hx; rfl)
theorem S_law21_Act.opensQ {H : Type} {enc : TypeId × Value → H} {w : World} {base : Nat} {spare : Nat → Bool} {held : Bool} : Opens enc Try.prog w base spare held (pAnd S_law21_Act.pr qAct) 49 :=
  opens_and S_law21_Act.opens fun n cs y x h hx => by
    obtain ⟨z, hz, hq⟩ := opens_field Try.underlying49 h (i := 1) rfl S_api_Request.opensQ (o := 1) (q := 3) rfl (by kernel_rfl)
    obtain ⟨_, _, rfl, rfl, hr⟩ := hx
    obtain ⟨_, _, rfl, rfl, _, _, rfl, rfl, ⟨_, rfl, _⟩⟩ := hr
    obtain ⟨_, _, hzz, rfl, _, _, rfl, rfl, ⟨_, rfl, _⟩⟩ := hz
    injection hzz with _ hzz
    injection hzz with hzz _
    injection hzz with _ hzz
    have hzz : x.R.Most = z.Most := hzz
    unfold qAct
    rw [hzz]
    exact hq
set_option maxRecDepth 100000 in
theorem lifted (os : Os) (started : os.Started) (H : Type) (enc : TypeId × Value → H) :
    ReturnsInHanded {} Try.checked os 4 .any (Rows.admitActsSpec.pre6 enc Try.prog Try.f4 Rows.admitActsRow.domain false) (Rows.admitActsSpec.post enc Try.prog Try.f4 false true false false) := by
  refine returnsInHanded_of_change_sized (C := Try.checked) own started (by kernel_rfl) Try.func4
    (ChangeSpec.witness6 (enc := enc) (C := Try.checked) false ⟨#[], #[.agg #[.int .i64 0, .int .i64 0, .int .i64 0, .int .i64 0, .int .i64 0, .int .i64 0], .int .i64 0, .slice none 0 0], []⟩ 8 (by kernel_rfl) (by kernel_rfl) (by kernel_rfl) (by kernel_rfl)) ?_
  intro W base args ds gs before hval0 hW hcnd hsz0 _
  have hval : ∀ (j : Nat) t v, Try.f4.params[j]? = some t → args[j]? = some v → Value.okWide Try.prog W .any base t v := hval0
  have hW' := hW
  obtain ⟨p, q, hA0, hV, rfl, hfz, hnd⟩ := hW
  have hA : DataW.TrodAll enc Try.prog W 0 (fun _ => true) true Try.f4.params.toList args.toList ds p := hA0
  rw [Try.params4] at hA hval
  obtain ⟨v0, vs0, d0, ds0, p0, q0, hargs, rfl, rfl, h0, r0⟩ := trodAll_cons hA
  obtain ⟨v1, vs1, d1, ds1, p1, q1, rfl, rfl, rfl, h1, r1⟩ := trodAll_cons r0
  obtain ⟨v2, vs2, d2, ds2, p2, q2, rfl, rfl, rfl, h2, r2⟩ := trodAll_cons r1
  obtain ⟨rfl, rfl, rfl⟩ := trodAll_nil r2
  obtain rfl : args = #[v0, v1, v2] := by cases args; simp_all
  obtain ⟨rfl, rfl⟩ := trodVars_none hV
  have k0 := h0
  have lt0 : ∀ x ∈ p0, x.block < W.heap.size := by obtain ⟨m, hm⟩ := k0; exact DataW.trod_lt m _ _ _ hm
  obtain ⟨cs0, rfl, _⟩ := okWide_struct Try.underlying31 (hval 0 31 v0 rfl rfl)
  obtain ⟨a0, hx0⟩ := opens_arg (S_api_Shape.opens) h0
  obtain rfl : cs0 = #[.int .i64 a0.Layers, .int .i64 a0.Width, .int .i64 a0.Heads, .int .i64 a0.Inner, .int .i64 a0.Vocab, .int .i64 a0.Places] := by have e : cs0.toList = [.int .i64 a0.Layers, .int .i64 a0.Width, .int .i64 a0.Heads, .int .i64 a0.Inner, .int .i64 a0.Vocab, .int .i64 a0.Places] := hx0; have := congrArg List.toArray e; simpa using this
  have k1 := h1
  have lt1 : ∀ x ∈ p1, x.block < W.heap.size := by obtain ⟨m, hm⟩ := k1; exact DataW.trod_lt m _ _ _ hm
  obtain ⟨a1, rfl, hd1, hp1, w1⟩ := open_int Try.underlying3 (hval 1 3 v1 rfl rfl) h1
  have k2 := h2
  have lt2 : ∀ x ∈ p2, x.block < W.heap.size := by obtain ⟨m, hm⟩ := k2; exact DataW.trod_lt m _ _ _ hm
  obtain ⟨s2, len2, cap2, rfl⟩ := okWide_slice Try.underlying42 (hval 2 42 v2 rfl rfl)
  obtain ⟨a2, hx2⟩ := opens_arg (opens_ro (E := pAnd S_law21_Act.pr qAct) Try.underlying42 (by kernel_rfl) rfl (S_law21_Act.opensQ)) h2
  obtain ⟨hx2, w2⟩ := roQ hx2
  have hc := ((CtxAt.start W).hold hx2).ctx
  clear hA0 hval0 hsz0
  have hcall : Calls Try.prog 4 _ W (Ret fun v w' => v = .bool true ∧ Only [] W w') := law21_AdmitActs_any (K := fun v w' => v = .bool true ∧ Only [] W w') reads_ro hc (admitActs a0 a1 a2 (fun x h => wf64_in (w2 x h))) (fun w' hc' => ⟨rfl, hc'.only (k := 1) rfl rfl⟩)
  refine hcall.mono fun e W' ⟨v, he, hv, ho⟩ => ?_
  subst he hv
  have bel := ho.below
  exact ⟨_, rfl, _, _, _, [], _, [], hW', trodAll_mk1 (shut_bool Try.underlying4 _), (trodAll_cons_mk (Below.trod laidOut (by kernel_rfl) (of_decide_eq_true (by kernel_rfl)) k0 bel lt0) (trodAll_cons_mk (Below.trod laidOut (by kernel_rfl) (of_decide_eq_true (by kernel_rfl)) k1 bel lt1) (trodAll_cons_mk (Below.trod laidOut (by kernel_rfl) (of_decide_eq_true (by kernel_rfl)) k2 bel lt2) trodAll_mk0))), rfl, bel.frame _, fun h => by cases h⟩
theorem over : Rows.admitActsRow.holds Try.pinned (OpenSpec.ofChange Rows.admitActsSpec) :=
  OpenClaim.holds_of_wide 4 Try.f4 rfl rfl rfl rfl rfl rfl rfl ⟨rfl, rfl, rfl, rfl, rfl⟩ rfl rfl rfl rfl rfl (by kernel_rfl) Try.func4 (by kernel_rfl)
    (of_decide_eq_true (by kernel_rfl)) (by unfold Func.isWrapper; first | (rw [if_pos (by decide +kernel)]; kernel_rfl) | (rw [if_neg (by decide +kernel)]; exact ⟨rfl, rfl⟩))
    (fun os started H enc _ => lifted os started H enc)
end Go.Proofs.Ytglllajndogcmaa.admitActs
namespace Go.Proofs.Ytglllajndogcmaa
theorem admitActs_holds : Rows.AdmitActsSaid := admitActs.over
#print axioms admitActs_holds
end Go.Proofs.Ytglllajndogcmaa
