/- Whatever is opened, answered, rewound and closed, each answer, and all that a ledger tells, is the document's: for all acts. -/
import Derived.Test.YtfhpmaphgkiegaaMLedgerActsa
import Derived.Test.YtfhpmaphgkiegaaMLedgerActsc
import Derived.Test.YtfhpmaphgkiegaaRows
import Derived.WalkKit
import Derived.ProofKit
import Derived.OpenShut
import Derived.ShutString
import Derived.ChangeOld
import Derived.Below
import Derived.SizedLaws
import Derived.Carry
namespace Go.Proofs.Ytfhpmaphgkiegaa.ledgerActs
open Go Go.Hp Go.ChangeShapes Go.WideShapes Go.ChangeAt Go.RowKit Go.Proofs.Ytfhpmaphgkiegaa
open Go.ChangeMaps (open_string shut_string)
set_option linter.unusedVariables false
set_option linter.unusedSimpArgs false
set_option linter.unnecessarySimpa false
theorem own : ownKnob Try.prog.godebug = none := by kernel_rfl
theorem laidOut : laidOutB Try.prog = true := by kernel_rfl
theorem S_api_Request.opens {H : Type} {enc : TypeId × Value → H} {w : World} {base : Nat} {spare : Nat → Bool} {held : Bool} : Opens enc Try.prog w base spare held S_api_Request.pr 29 := by
  intro n cs y h
  have hl : cs.length = 3 := by rw [opens_len Try.underlying29 h]; kernel_rfl
  obtain ⟨x0, e0⟩ := opens_field Try.underlying29 h (i := 0) rfl (opens_int Try.underlying3) (o := 0) (q := 1) rfl (by kernel_rfl)
  obtain ⟨x1, e1⟩ := opens_field Try.underlying29 h (i := 1) rfl (opens_int Try.underlying3) (o := 1) (q := 1) rfl (by kernel_rfl)
  obtain ⟨x2, e2⟩ := opens_field Try.underlying29 h (i := 2) rfl (opens_ro (E := (pInt .i64)) Try.underlying23 (by kernel_rfl) rfl (opens_int Try.underlying3)) (o := 2) (q := 1) rfl (by kernel_rfl)
  exact ⟨⟨x0, x1, x2⟩, (cs.drop 0).take 1, cs.drop 1, (by have := takedrop cs 0 1; simpa using this), e0, (cs.drop 1).take 1, cs.drop 2, (by have := takedrop cs 1 1; simpa using this), e1, (by have := e2; rwa [List.take_of_length_le (by simp; omega)] at this)⟩

theorem S_law23_Act.opens {H : Type} {enc : TypeId × Value → H} {w : World} {base : Nat} {spare : Nat → Bool} {held : Bool} : Opens enc Try.prog w base spare held S_law23_Act.pr 72 := by
  intro n cs y h
  have hl : cs.length = 8 := by rw [opens_len Try.underlying72 h]; kernel_rfl
  obtain ⟨x0, e0⟩ := opens_field Try.underlying72 h (i := 0) rfl (opens_int Try.underlying3) (o := 0) (q := 1) rfl (by kernel_rfl)
  obtain ⟨x1, e1⟩ := opens_field Try.underlying72 h (i := 1) rfl (opens_int Try.underlying3) (o := 1) (q := 1) rfl (by kernel_rfl)
  obtain ⟨x2, e2⟩ := opens_field Try.underlying72 h (i := 2) rfl (opens_int Try.underlying3) (o := 2) (q := 1) rfl (by kernel_rfl)
  obtain ⟨x3, e3⟩ := opens_field Try.underlying72 h (i := 3) rfl (opens_int Try.underlying3) (o := 3) (q := 1) rfl (by kernel_rfl)
  obtain ⟨x4, e4⟩ := opens_field Try.underlying72 h (i := 4) rfl (S_api_Request.opens) (o := 4) (q := 3) rfl (by kernel_rfl)
  obtain ⟨x5, e5⟩ := opens_field Try.underlying72 h (i := 5) rfl (opens_ro (E := (pInt .i64)) Try.underlying23 (by kernel_rfl) rfl (opens_int Try.underlying3)) (o := 7) (q := 1) rfl (by kernel_rfl)
  exact ⟨⟨x0, x1, x2, x3, x4, x5⟩, (cs.drop 0).take 1, cs.drop 1, (by have := takedrop cs 0 1; simpa using this), e0, (cs.drop 1).take 1, cs.drop 2, (by have := takedrop cs 1 1; simpa using this), e1, (cs.drop 2).take 1, cs.drop 3, (by have := takedrop cs 2 1; simpa using this), e2, (cs.drop 3).take 1, cs.drop 4, (by have := takedrop cs 3 1; simpa using this), e3, (cs.drop 4).take 3, cs.drop 7, (by have := takedrop cs 4 3; simpa using this), e4, (by have := e5; rwa [List.take_of_length_le (by simp; omega)] at this)⟩

def qAct (x : S_law23_Act) : Prop := wf64 x.R.ID
theorem S_api_Request.opensQ {H : Type} {enc : TypeId × Value → H} {w : World} {base : Nat} {spare : Nat → Bool} {held : Bool} : Opens enc Try.prog w base spare held (pAnd S_api_Request.pr fun x => wf64 x.ID) 29 :=
  opens_and S_api_Request.opens fun n cs y x h hx => field_wf Try.underlying29 h (i := 0) rfl Try.underlying3 (o := 0) rfl (by kernel_rfl) (by obtain ⟨_, _, rfl, rfl, _⟩ := hx; rfl)
theorem S_law23_Act.opensQ {H : Type} {enc : TypeId × Value → H} {w : World} {base : Nat} {spare : Nat → Bool} {held : Bool} : Opens enc Try.prog w base spare held (pAnd S_law23_Act.pr qAct) 72 :=
  opens_and S_law23_Act.opens fun n cs y x h hx => by
    obtain ⟨z, hz, hq⟩ := opens_field Try.underlying72 h (i := 4) rfl S_api_Request.opensQ (o := 4) (q := 3) rfl (by kernel_rfl)
    obtain ⟨_, _, rfl, rfl, _, _, rfl, rfl, _, _, rfl, rfl, _, _, rfl, rfl, _, _, rfl, hr, ⟨_, rfl, _⟩⟩ := hx
    obtain ⟨_, _, rfl, rfl, _, _, rfl, rfl, ⟨_, rfl, _⟩⟩ := hr
    obtain ⟨_, _, hzz, rfl, _, _, rfl, rfl, ⟨_, rfl, _⟩⟩ := hz
    injection hzz with hzz _
    injection hzz with _ hzz
    have hzz : x.R.ID = z.ID := hzz
    unfold qAct
    rw [hzz]
    exact hq
set_option maxRecDepth 100000 in
theorem lifted (os : Os) (started : os.Started) (H : Type) (enc : TypeId × Value → H) :
    ReturnsInHanded {} Try.checked os 5 .any (Rows.ledgerActsSpec.pre6 enc Try.prog Try.f5 Rows.ledgerActsRow.domain false) (Rows.ledgerActsSpec.post enc Try.prog Try.f5 false true false false) := by
  refine returnsInHanded_of_change_sized (C := Try.checked) own started (by kernel_rfl) Try.func5
    (ChangeSpec.witness6 (enc := enc) (C := Try.checked) false ⟨#[], #[.slice none 0 0], []⟩ 8 (by kernel_rfl) (by kernel_rfl) (by kernel_rfl) (by kernel_rfl)) ?_
  intro W base args ds gs before hval0 hW hcnd hsz0 _
  have hval : ∀ (j : Nat) t v, Try.f5.params[j]? = some t → args[j]? = some v → Value.okWide Try.prog W .any base t v := hval0
  have hW' := hW
  obtain ⟨p, q, hA0, hV, rfl, hfz, hnd⟩ := hW
  have hA : DataW.TrodAll enc Try.prog W 0 (fun _ => true) true Try.f5.params.toList args.toList ds p := hA0
  rw [Try.params5] at hA hval
  obtain ⟨v0, vs0, d0, ds0, p0, q0, hargs, rfl, rfl, h0, r0⟩ := trodAll_cons hA
  obtain ⟨rfl, rfl, rfl⟩ := trodAll_nil r0
  obtain rfl : args = #[v0] := by cases args; simp_all
  obtain ⟨rfl, rfl⟩ := trodVars_none hV
  have k0 := h0
  have lt0 : ∀ x ∈ p0, x.block < W.heap.size := by obtain ⟨m, hm⟩ := k0; exact DataW.trod_lt m _ _ _ hm
  obtain ⟨s0, len0, cap0, rfl⟩ := okWide_slice Try.underlying66 (hval 0 66 v0 rfl rfl)
  obtain ⟨a0, hx0⟩ := opens_arg (opens_ro (E := pAnd S_law23_Act.pr qAct) Try.underlying66 (by kernel_rfl) rfl (S_law23_Act.opensQ)) h0
  obtain ⟨hx0, w0⟩ := roQ hx0
  have hc := ((CtxAt.start W).hold hx0).ctx
  clear hA0 hval0 hsz0
  have hcall : Calls Try.prog 5 _ W (Ret fun v w' => v = .bool true ∧ Only [] W w') := law23_LedgerActs_any (K := fun v w' => v = .bool true ∧ Only [] W w') reads_ro hc (ledgerActs a0 (fun x h => w0 x h)) (fun w' hc' => ⟨rfl, hc'.only (k := 1) rfl rfl⟩)
  refine hcall.mono fun e W' ⟨v, he, hv, ho⟩ => ?_
  subst he hv
  have bel := ho.below
  exact ⟨_, rfl, _, _, _, [], _, [], hW', trodAll_mk1 (shut_bool Try.underlying4 _), (trodAll_cons_mk (Below.trod laidOut (by kernel_rfl) (of_decide_eq_true (by kernel_rfl)) k0 bel lt0) trodAll_mk0), rfl, bel.frame _, fun h => by cases h⟩
theorem over : Rows.ledgerActsRow.holds Try.pinned (OpenSpec.ofChange Rows.ledgerActsSpec) :=
  OpenClaim.holds_of_wide 5 Try.f5 rfl rfl rfl rfl rfl rfl rfl ⟨rfl, rfl, rfl, rfl, rfl⟩ rfl rfl rfl rfl rfl (by kernel_rfl) Try.func5 (by kernel_rfl)
    (of_decide_eq_true (by kernel_rfl)) (by unfold Func.isWrapper; first | (rw [if_pos (by decide +kernel)]; kernel_rfl) | (rw [if_neg (by decide +kernel)]; exact ⟨rfl, rfl⟩))
    (fun os started H enc _ => lifted os started H enc)
end Go.Proofs.Ytfhpmaphgkiegaa.ledgerActs
namespace Go.Proofs.Ytfhpmaphgkiegaa
theorem ledgerActs_holds : Rows.LedgerActsSaid := ledgerActs.over
#print axioms ledgerActs_holds
end Go.Proofs.Ytfhpmaphgkiegaa
