/- Requests of a ledger don't touch one another: for every list of requests, every order of answers. -/
import Derived.Test.YtfhpmaphgkiegaaRows
import Derived.Test.YtfhpmaphgkiegaaSl6
import Derived.Test.YtfhpmaphgkiegaaP1
import Derived.WalkKit
import Derived.ProofKit
import Derived.OpenShut
import Derived.ShutString
import Derived.ChangeOld
import Derived.Below
import Derived.SizedLaws
import Derived.Carry
namespace Go.Proofs.Ytfhpmaphgkiegaa.ledgerApart
open Go Go.Hp Go.ChangeShapes Go.WideShapes Go.ChangeAt Go.RowKit Go.Proofs.Ytfhpmaphgkiegaa
open Go.ChangeMaps (open_string shut_string)
set_option linter.unusedVariables false
set_option linter.unusedSimpArgs false
theorem own : ownKnob Try.prog.godebug = none := by kernel_rfl
theorem laidOut : laidOutB Try.prog = true := by kernel_rfl
theorem S_api_Request.opens {H : Type} {enc : TypeId × Value → H} {w : World} {base : Nat} {spare : Nat → Bool} {held : Bool} : Opens enc Try.prog w base spare held S_api_Request.pr 29 := by
  intro n cs y h
  have hl : cs.length = 3 := by rw [opens_len Try.underlying29 h]; kernel_rfl
  obtain ⟨x0, e0⟩ := opens_field Try.underlying29 h (i := 0) rfl (opens_int Try.underlying3) (o := 0) (q := 1) rfl (by kernel_rfl)
  obtain ⟨x1, e1⟩ := opens_field Try.underlying29 h (i := 1) rfl (opens_int Try.underlying3) (o := 1) (q := 1) rfl (by kernel_rfl)
  obtain ⟨x2, e2⟩ := opens_field Try.underlying29 h (i := 2) rfl (opens_ro (E := (pInt .i64)) Try.underlying23 (by kernel_rfl) rfl (opens_int Try.underlying3)) (o := 2) (q := 1) rfl (by kernel_rfl)
  exact ⟨⟨x0, x1, x2⟩, (cs.drop 0).take 1, cs.drop 1, (by have := takedrop cs 0 1; simpa using this), e0, (cs.drop 1).take 1, cs.drop 2, (by have := takedrop cs 1 1; simpa using this), e1, (by have := e2; rwa [List.take_of_length_le (by simp; omega)] at this)⟩

set_option maxRecDepth 100000 in
theorem lifted (os : Os) (started : os.Started) (H : Type) (enc : TypeId × Value → H) :
    ReturnsInHanded {} Try.checked os 3 .any (Rows.ledgerApartSpec.pre6 enc Try.prog Try.f3 Rows.ledgerApartRow.domain false) (Rows.ledgerApartSpec.post enc Try.prog Try.f3 false true false false) := by
  refine returnsInHanded_of_change_sized (C := Try.checked) own started (by kernel_rfl) Try.func3
    (ChangeSpec.witness6 (enc := enc) (C := Try.checked) false ⟨#[], #[.slice none 0 0, .slice none 0 0], []⟩ 8 (by kernel_rfl) (by kernel_rfl) (by kernel_rfl) (by kernel_rfl)) ?_
  intro W base args ds gs before hval0 hW hcnd hsz0 _
  have hval : ∀ (j : Nat) t v, Try.f3.params[j]? = some t → args[j]? = some v → Value.okWide Try.prog W .any base t v := hval0
  have hW' := hW
  obtain ⟨p, q, hA0, hV, rfl, hfz, hnd⟩ := hW
  have hA : DataW.TrodAll enc Try.prog W 0 (fun _ => true) true Try.f3.params.toList args.toList ds p := hA0
  rw [Try.params3] at hA hval
  obtain ⟨v0, vs0, d0, ds0, p0, q0, hargs, rfl, rfl, h0, r0⟩ := trodAll_cons hA
  obtain ⟨v1, vs1, d1, ds1, p1, q1, rfl, rfl, rfl, h1, r1⟩ := trodAll_cons r0
  obtain ⟨rfl, rfl, rfl⟩ := trodAll_nil r1
  obtain rfl : args = #[v0, v1] := by cases args; simp_all
  obtain ⟨rfl, rfl⟩ := trodVars_none hV
  have k0 := h0
  have lt0 : ∀ x ∈ p0, x.block < W.heap.size := by obtain ⟨m, hm⟩ := k0; exact DataW.trod_lt m _ _ _ hm
  obtain ⟨s0, len0, cap0, rfl⟩ := okWide_slice Try.underlying22 (hval 0 22 v0 rfl rfl)
  obtain ⟨a0, hx0⟩ := opens_arg (opens_ro (E := S_api_Request.pr) Try.underlying22 (by kernel_rfl) rfl (S_api_Request.opens)) h0
  have k1 := h1
  have lt1 : ∀ x ∈ p1, x.block < W.heap.size := by obtain ⟨m, hm⟩ := k1; exact DataW.trod_lt m _ _ _ hm
  obtain ⟨s1, len1, cap1, rfl⟩ := okWide_slice Try.underlying23 (hval 1 23 v1 rfl rfl)
  obtain ⟨a1, hx1⟩ := opens_arg (opens_ro (E := (pInt .i64)) Try.underlying23 (by kernel_rfl) rfl (opens_int Try.underlying3)) h1
  have hc := (((CtxAt.start W).hold hx1).hold hx0).ctx
  replace hc := hc.pull 1 rfl rfl
  replace hc := hc.pull 1 rfl rfl
  clear hA0 hval0 hsz0
  have hcall : Calls Try.prog 3 _ W (Ret fun v w' => v = .bool true ∧ Only [] W w') := law23_LedgerApart_any (K := fun v w' => v = .bool true ∧ Only [] W w') reads_ro reads_ro hc (ledgerApart a0 a1) (fun w' hc' => ⟨rfl, hc'.only (k := 2) rfl rfl⟩)
  refine hcall.mono fun e W' ⟨v, he, hv, ho⟩ => ?_
  subst he hv
  have bel := ho.below
  exact ⟨_, rfl, _, _, _, [], _, [], hW', trodAll_mk1 (shut_bool Try.underlying4 _), (trodAll_cons_mk (Below.trod laidOut (by kernel_rfl) (of_decide_eq_true (by kernel_rfl)) k0 bel lt0) (trodAll_cons_mk (Below.trod laidOut (by kernel_rfl) (of_decide_eq_true (by kernel_rfl)) k1 bel lt1) trodAll_mk0)), rfl, bel.frame _, fun h => by cases h⟩
theorem over : Rows.ledgerApartRow.holds Try.pinned (OpenSpec.ofChange Rows.ledgerApartSpec) :=
  OpenClaim.holds_of_wide 3 Try.f3 rfl rfl rfl rfl rfl rfl rfl ⟨rfl, rfl, rfl, rfl, rfl⟩ rfl rfl rfl rfl rfl (by kernel_rfl) Try.func3 (by kernel_rfl)
    (of_decide_eq_true (by kernel_rfl)) (by unfold Func.isWrapper; first | (rw [if_pos (by decide +kernel)]; kernel_rfl) | (rw [if_neg (by decide +kernel)]; exact ⟨rfl, rfl⟩))
    (fun os started H enc _ => lifted os started H enc)
end Go.Proofs.Ytfhpmaphgkiegaa.ledgerApart
namespace Go.Proofs.Ytfhpmaphgkiegaa
theorem ledgerApart_holds : Rows.LedgerApartSaid := ledgerApart.over
#print axioms ledgerApart_holds
end Go.Proofs.Ytfhpmaphgkiegaa
