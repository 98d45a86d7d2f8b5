/- Rows summed by weights, gated, and added to others, are the document's: of any numbers and widths. -/
import Derived.Test.YtmpdkjcobpghaaaRows
import Derived.Test.YtmpdkjcobpghaaaSl6
import Derived.Test.YtmpdkjcobpghaaaP3
import Derived.WalkKit
import Derived.ProofKit
import Derived.OpenShut
import Derived.ShutString
import Derived.ChangeOld
import Derived.Below
import Derived.SizedLaws
import Derived.Carry
namespace Go.Proofs.Ytmpdkjcobpghaaa.normMixes
open Go Go.Hp Go.ChangeShapes Go.WideShapes Go.ChangeAt Go.RowKit Go.Proofs.Ytmpdkjcobpghaaa
open Go.ChangeMaps (open_string shut_string)
set_option linter.unusedVariables false
set_option linter.unusedSimpArgs false
theorem own : ownKnob Try.prog.godebug = none := by kernel_rfl
theorem laidOut : laidOutB Try.prog = true := by kernel_rfl
theorem S_law05_Joined.opens {H : Type} {enc : TypeId × Value → H} {w : World} {base : Nat} {spare : Nat → Bool} {held : Bool} : Opens enc Try.prog w base spare held S_law05_Joined.pr 42 := by
  intro n cs y h
  have hl : cs.length = 4 := by rw [opens_len Try.underlying42 h]; kernel_rfl
  obtain ⟨x0, e0⟩ := opens_field Try.underlying42 h (i := 0) rfl (opens_ro (E := (pInt .i32)) Try.underlying23 (by kernel_rfl) rfl (opens_int Try.underlying21)) (o := 0) (q := 1) rfl (by kernel_rfl)
  obtain ⟨x1, e1⟩ := opens_field Try.underlying42 h (i := 1) rfl (opens_ro (E := (pInt .i32)) Try.underlying23 (by kernel_rfl) rfl (opens_int Try.underlying21)) (o := 1) (q := 1) rfl (by kernel_rfl)
  obtain ⟨x2, e2⟩ := opens_field Try.underlying42 h (i := 2) rfl (opens_int Try.underlying21) (o := 2) (q := 1) rfl (by kernel_rfl)
  obtain ⟨x3, e3⟩ := opens_field Try.underlying42 h (i := 3) rfl (opens_int Try.underlying3) (o := 3) (q := 1) rfl (by kernel_rfl)
  exact ⟨⟨x0, x1, x2, x3⟩, (cs.drop 0).take 1, cs.drop 1, (by have := takedrop cs 0 1; simpa using this), e0, (cs.drop 1).take 1, cs.drop 2, (by have := takedrop cs 1 1; simpa using this), e1, (cs.drop 2).take 1, cs.drop 3, (by have := takedrop cs 2 1; simpa using this), e2, (by have := e3; rwa [List.take_of_length_le (by simp; omega)] at this)⟩

set_option maxRecDepth 100000 in
theorem lifted (os : Os) (started : os.Started) (H : Type) (enc : TypeId × Value → H) :
    ReturnsInHanded {} Try.checked os 8 .any (Rows.normMixesSpec.pre6 enc Try.prog Try.f8 Rows.normMixesRow.domain false) (Rows.normMixesSpec.post enc Try.prog Try.f8 false true false false) := by
  refine returnsInHanded_of_change_sized (C := Try.checked) own started (by kernel_rfl) Try.func8
    (ChangeSpec.witness6 (enc := enc) (C := Try.checked) false ⟨#[], #[.slice none 0 0, .slice none 0 0, .agg #[.slice none 0 0, .slice none 0 0, .int .i32 0, .int .i64 0]], []⟩ 8 (by kernel_rfl) (by kernel_rfl) (by kernel_rfl) (by kernel_rfl)) ?_
  intro W base args ds gs before hval0 hW hcnd hsz0 _
  have hval : ∀ (j : Nat) t v, Try.f8.params[j]? = some t → args[j]? = some v → Value.okWide Try.prog W .any base t v := hval0
  have hW' := hW
  obtain ⟨p, q, hA0, hV, rfl, hfz, hnd⟩ := hW
  have hA : DataW.TrodAll enc Try.prog W 0 (fun _ => true) true Try.f8.params.toList args.toList ds p := hA0
  rw [Try.params8] at hA hval
  obtain ⟨v0, vs0, d0, ds0, p0, q0, hargs, rfl, rfl, h0, r0⟩ := trodAll_cons hA
  obtain ⟨v1, vs1, d1, ds1, p1, q1, rfl, rfl, rfl, h1, r1⟩ := trodAll_cons r0
  obtain ⟨v2, vs2, d2, ds2, p2, q2, rfl, rfl, rfl, h2, r2⟩ := trodAll_cons r1
  obtain ⟨rfl, rfl, rfl⟩ := trodAll_nil r2
  obtain rfl : args = #[v0, v1, v2] := by cases args; simp_all
  obtain ⟨rfl, rfl⟩ := trodVars_none hV
  have k0 := h0
  have lt0 : ∀ x ∈ p0, x.block < W.heap.size := by obtain ⟨m, hm⟩ := k0; exact DataW.trod_lt m _ _ _ hm
  obtain ⟨s0, len0, cap0, rfl⟩ := okWide_slice Try.underlying23 (hval 0 23 v0 rfl rfl)
  obtain ⟨a0, hx0⟩ := opens_arg (opens_ro (E := (pInt .i32)) Try.underlying23 (by kernel_rfl) rfl (opens_int Try.underlying21)) h0
  have k1 := h1
  have lt1 : ∀ x ∈ p1, x.block < W.heap.size := by obtain ⟨m, hm⟩ := k1; exact DataW.trod_lt m _ _ _ hm
  obtain ⟨s1, len1, cap1, rfl⟩ := okWide_slice Try.underlying40 (hval 1 40 v1 rfl rfl)
  obtain ⟨a1, hx1⟩ := opens_arg (opens_ro (E := (pRo (pInt .i8))) Try.underlying40 (by kernel_rfl) rfl (opens_ro (E := (pInt .i8)) Try.underlying22 (by kernel_rfl) rfl (opens_int Try.underlying38))) h1
  have k2 := h2
  have lt2 : ∀ x ∈ p2, x.block < W.heap.size := by obtain ⟨m, hm⟩ := k2; exact DataW.trod_lt m _ _ _ hm
  obtain ⟨cs2, rfl, _⟩ := okWide_struct Try.underlying42 (hval 2 42 v2 rfl rfl)
  obtain ⟨a2, hx2⟩ := opens_arg (S_law05_Joined.opens) h2
  have hc := ((((CtxAt.start W).hold hx2).hold hx1).hold hx0).ctx
  replace hc := hc.pull 2 rfl rfl
  replace hc := S_law05_Joined.op hc
  obtain ⟨sa2_0, sq2_0, sa2_1, sq2_1, ec2, hc⟩ := hc
  obtain rfl : cs2 = #[.slice sa2_0 a2.X.length sq2_0, .slice sa2_1 a2.Y.length sq2_1, .int .i32 a2.By, .int .i64 a2.N] := by have e : cs2.toList = [.slice sa2_0 a2.X.length sq2_0, .slice sa2_1 a2.Y.length sq2_1, .int .i32 a2.By, .int .i64 a2.N] := ec2; have := congrArg List.toArray e; simpa using this
  replace hc := hc.pull 1 rfl rfl
  replace hc := hc.pull 1 rfl rfl
  replace hc := hc.pull 3 rfl rfl
  replace hc := hc.pull 3 rfl rfl
  clear hA0 hval0 hsz0
  have hcall : Calls Try.prog 8 _ W (Ret fun v w' => v = .bool true ∧ Only [] W w') := law05_NormMixes_any (K := fun v w' => v = .bool true ∧ Only [] W w') reads_ro reads_ro hc (normMixes a0 a1 a2) (fun w' hc' => ⟨rfl, hc'.only (k := 2) rfl rfl⟩)
  refine hcall.mono fun e W' ⟨v, he, hv, ho⟩ => ?_
  subst he hv
  have bel := ho.below
  exact ⟨_, rfl, _, _, _, [], _, [], hW', trodAll_mk1 (shut_bool Try.underlying4 _), (trodAll_cons_mk (Below.trod laidOut (by kernel_rfl) (of_decide_eq_true (by kernel_rfl)) k0 bel lt0) (trodAll_cons_mk (Below.trod laidOut (by kernel_rfl) (of_decide_eq_true (by kernel_rfl)) k1 bel lt1) (trodAll_cons_mk (Below.trod laidOut (by kernel_rfl) (of_decide_eq_true (by kernel_rfl)) k2 bel lt2) trodAll_mk0))), rfl, bel.frame _, fun h => by cases h⟩
theorem over : Rows.normMixesRow.holds Try.pinned (OpenSpec.ofChange Rows.normMixesSpec) :=
  OpenClaim.holds_of_wide 8 Try.f8 rfl rfl rfl rfl rfl rfl rfl ⟨rfl, rfl, rfl, rfl, rfl⟩ rfl rfl rfl rfl rfl (by kernel_rfl) Try.func8 (by kernel_rfl)
    (of_decide_eq_true (by kernel_rfl)) (by unfold Func.isWrapper; first | (rw [if_pos (by decide +kernel)]; kernel_rfl) | (rw [if_neg (by decide +kernel)]; exact ⟨rfl, rfl⟩))
    (fun os started H enc _ => lifted os started H enc)
end Go.Proofs.Ytmpdkjcobpghaaa.normMixes
namespace Go.Proofs.Ytmpdkjcobpghaaa
theorem normMixes_holds : Rows.NormMixesSaid := normMixes.over
#print axioms normMixes_holds
end Go.Proofs.Ytmpdkjcobpghaaa
