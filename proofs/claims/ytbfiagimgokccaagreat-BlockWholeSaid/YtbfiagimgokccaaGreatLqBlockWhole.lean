/- All workers together reckon what the model reckons, token by token of two requests, and keep its parts: for every small model, cut, tokens and turns. -/
import Derived.Test.YtbfiagimgokccaaGreatMBlockWholea
import Derived.Test.YtbfiagimgokccaaGreatMBlockWholek
import Derived.Test.YtbfiagimgokccaaGreatRows
import Derived.WalkKit
import Derived.ProofKit
import Derived.OpenShut
import Derived.ShutString
import Derived.ChangeOld
import Derived.Below
import Derived.SizedLaws
import Derived.Carry
namespace Go.Proofs.YtbfiagimgokccaaGreat.blockWhole
open Go Go.Hp Go.ChangeShapes Go.WideShapes Go.ChangeAt Go.RowKit Go.Proofs.YtbfiagimgokccaaGreat
open Go.ChangeMaps (open_string shut_string)
set_option linter.unusedVariables false
set_option linter.unusedSimpArgs false
set_option linter.unnecessarySimpa false
theorem own : ownKnob Tryz.prog.godebug = none := by kernel_rfl
theorem laidOut : laidOutB Tryz.prog = true := by kernel_rfl
theorem A6_i64.opens {H : Type} {enc : TypeId × Value → H} {w : World} {base : Nat} {spare : Nat → Bool} {held : Bool} : Opens enc Tryz.prog w base spare held A6_i64.pr 22 := by
  intro n cs y h
  have hl : cs.length = 6 := by rw [opens_lenA Tryz.underlying22 h]; kernel_rfl
  obtain ⟨x0, e0⟩ := opens_elem Tryz.underlying22 h (i := 0) (by decide) (opens_int Tryz.underlying3) (o := 0) (q := 1) (by kernel_rfl) rfl
  obtain ⟨x1, e1⟩ := opens_elem Tryz.underlying22 h (i := 1) (by decide) (opens_int Tryz.underlying3) (o := 1) (q := 1) (by kernel_rfl) rfl
  obtain ⟨x2, e2⟩ := opens_elem Tryz.underlying22 h (i := 2) (by decide) (opens_int Tryz.underlying3) (o := 2) (q := 1) (by kernel_rfl) rfl
  obtain ⟨x3, e3⟩ := opens_elem Tryz.underlying22 h (i := 3) (by decide) (opens_int Tryz.underlying3) (o := 3) (q := 1) (by kernel_rfl) rfl
  obtain ⟨x4, e4⟩ := opens_elem Tryz.underlying22 h (i := 4) (by decide) (opens_int Tryz.underlying3) (o := 4) (q := 1) (by kernel_rfl) rfl
  obtain ⟨x5, e5⟩ := opens_elem Tryz.underlying22 h (i := 5) (by decide) (opens_int Tryz.underlying3) (o := 5) (q := 1) (by kernel_rfl) rfl
  match cs, hl with
  | [c0, c1, c2, c3, c4, c5], _ =>
    have g0 : [c0] = [.int .i64 x0] := e0
    simp only [List.cons.injEq, and_true] at g0
    subst g0
    have g1 : [c1] = [.int .i64 x1] := e1
    simp only [List.cons.injEq, and_true] at g1
    subst g1
    have g2 : [c2] = [.int .i64 x2] := e2
    simp only [List.cons.injEq, and_true] at g2
    subst g2
    have g3 : [c3] = [.int .i64 x3] := e3
    simp only [List.cons.injEq, and_true] at g3
    subst g3
    have g4 : [c4] = [.int .i64 x4] := e4
    simp only [List.cons.injEq, and_true] at g4
    subst g4
    have g5 : [c5] = [.int .i64 x5] := e5
    simp only [List.cons.injEq, and_true] at g5
    subst g5
    exact ⟨⟨x0, x1, x2, x3, x4, x5⟩, rfl⟩

theorem S_law13_Seeds.opens {H : Type} {enc : TypeId × Value → H} {w : World} {base : Nat} {spare : Nat → Bool} {held : Bool} : Opens enc Tryz.prog w base spare held S_law13_Seeds.pr 25 := by
  intro n cs y h
  have hl : cs.length = 9 := by rw [opens_len Tryz.underlying25 h]; kernel_rfl
  obtain ⟨x0, e0⟩ := opens_field Tryz.underlying25 h (i := 0) rfl (A6_i64.opens) (o := 0) (q := 6) rfl (by kernel_rfl)
  obtain ⟨x1, e1⟩ := opens_field Tryz.underlying25 h (i := 1) rfl (opens_int Tryz.underlying23) (o := 6) (q := 1) rfl (by kernel_rfl)
  obtain ⟨x2, e2⟩ := opens_field Tryz.underlying25 h (i := 2) rfl (opens_int Tryz.underlying3) (o := 7) (q := 1) rfl (by kernel_rfl)
  obtain ⟨x3, e3⟩ := opens_field Tryz.underlying25 h (i := 3) rfl (opens_int Tryz.underlying3) (o := 8) (q := 1) rfl (by kernel_rfl)
  match cs, hl with
  | [c0, c1, c2, c3, c4, c5, c6, c7, c8], _ =>
    have g0 : [c0, c1, c2, c3, c4, c5] = [.int .i64 x0.c0, .int .i64 x0.c1, .int .i64 x0.c2, .int .i64 x0.c3, .int .i64 x0.c4, .int .i64 x0.c5] := e0
    simp only [List.cons.injEq, and_true] at g0
    obtain ⟨rfl, rfl, rfl, rfl, rfl, rfl⟩ := g0
    have g1 : [c6] = [.int .u64 x1] := e1
    simp only [List.cons.injEq, and_true] at g1
    subst g1
    have g2 : [c7] = [.int .i64 x2] := e2
    simp only [List.cons.injEq, and_true] at g2
    subst g2
    have g3 : [c8] = [.int .i64 x3] := e3
    simp only [List.cons.injEq, and_true] at g3
    subst g3
    exact ⟨⟨x0, x1, x2, x3⟩, rfl⟩

set_option maxRecDepth 100000 in
theorem lifted (os : Os) (started : os.Started) (H : Type) (enc : TypeId × Value → H) :
    ReturnsInHanded {} Tryz.checked os 5 .any (Rows.blockWholeSpec.pre6 enc Tryz.prog Tryz.f5 Rows.blockWholeRow.domain false) (Rows.blockWholeSpec.post enc Tryz.prog Tryz.f5 false true false false) := by
  refine returnsInHanded_of_change_sized (C := Tryz.checked) own started (by kernel_rfl) Tryz.func5
    (ChangeSpec.witness6 (enc := enc) (C := Tryz.checked) false ⟨#[], #[.agg #[.int .i64 0, .int .i64 0, .int .i64 0, .int .i64 0, .int .i64 0, .int .i64 0, .int .u64 0, .int .i64 0, .int .i64 0], .slice none 0 0, .slice none 0 0], []⟩ 8 (by kernel_rfl) (by kernel_rfl) (by kernel_rfl) (by kernel_rfl)) ?_
  intro W base args ds gs before hval0 hW hcnd hsz0 _
  have hval : ∀ (j : Nat) t v, Tryz.f5.params[j]? = some t → args[j]? = some v → Value.okWide Tryz.prog W .any base t v := hval0
  have hW' := hW
  obtain ⟨p, q, hA0, hV, rfl, hfz, hnd⟩ := hW
  have hA : DataW.TrodAll enc Tryz.prog W 0 (fun _ => true) true Tryz.f5.params.toList args.toList ds p := hA0
  rw [Tryz.params5] at hA hval
  obtain ⟨v0, vs0, d0, ds0, p0, q0, hargs, rfl, rfl, h0, r0⟩ := trodAll_cons hA
  obtain ⟨v1, vs1, d1, ds1, p1, q1, rfl, rfl, rfl, h1, r1⟩ := trodAll_cons r0
  obtain ⟨v2, vs2, d2, ds2, p2, q2, rfl, rfl, rfl, h2, r2⟩ := trodAll_cons r1
  obtain ⟨rfl, rfl, rfl⟩ := trodAll_nil r2
  obtain rfl : args = #[v0, v1, v2] := by cases args; simp_all
  obtain ⟨rfl, rfl⟩ := trodVars_none hV
  have k0 := h0
  have lt0 : ∀ x ∈ p0, x.block < W.heap.size := by obtain ⟨m, hm⟩ := k0; exact DataW.trod_lt m _ _ _ hm
  obtain ⟨cs0, rfl, _⟩ := okWide_struct Tryz.underlying25 (hval 0 25 v0 rfl rfl)
  obtain ⟨a0, hx0⟩ := opens_arg (S_law13_Seeds.opens) h0
  obtain rfl : cs0 = #[.int .i64 a0.N.c0, .int .i64 a0.N.c1, .int .i64 a0.N.c2, .int .i64 a0.N.c3, .int .i64 a0.N.c4, .int .i64 a0.N.c5, .int .u64 a0.Seed, .int .i64 a0.A, .int .i64 a0.B] := by have e : cs0.toList = [.int .i64 a0.N.c0, .int .i64 a0.N.c1, .int .i64 a0.N.c2, .int .i64 a0.N.c3, .int .i64 a0.N.c4, .int .i64 a0.N.c5, .int .u64 a0.Seed, .int .i64 a0.A, .int .i64 a0.B] := hx0; have := congrArg List.toArray e; simpa using this
  have k1 := h1
  have lt1 : ∀ x ∈ p1, x.block < W.heap.size := by obtain ⟨m, hm⟩ := k1; exact DataW.trod_lt m _ _ _ hm
  obtain ⟨s1, len1, cap1, rfl⟩ := okWide_slice Tryz.underlying71 (hval 1 71 v1 rfl rfl)
  obtain ⟨a1, hx1⟩ := opens_arg (opens_ro (E := (pInt .i64)) Tryz.underlying71 (by kernel_rfl) rfl (opens_int Tryz.underlying3)) h1
  have k2 := h2
  have lt2 : ∀ x ∈ p2, x.block < W.heap.size := by obtain ⟨m, hm⟩ := k2; exact DataW.trod_lt m _ _ _ hm
  obtain ⟨s2, len2, cap2, rfl⟩ := okWide_slice Tryz.underlying71 (hval 2 71 v2 rfl rfl)
  obtain ⟨a2, hx2⟩ := opens_arg (opens_ro (E := (pInt .i64)) Tryz.underlying71 (by kernel_rfl) rfl (opens_int Tryz.underlying3)) h2
  have hc := (((CtxAt.start W).hold hx2).hold hx1).ctx
  replace hc := hc.pull 1 rfl rfl
  replace hc := hc.pull 1 rfl rfl
  clear hA0 hval0 hsz0
  have hcall : Calls Tryz.prog 5 _ W (Ret fun v w' => v = .bool true ∧ Only [] W w') := law13_BlockWhole_any (K := fun v w' => v = .bool true ∧ Only [] W w') reads_ro reads_ro hc (blockWhole a0 a1 a2) (fun w' hc' => ⟨rfl, hc'.only (k := 2) rfl rfl⟩)
  refine hcall.mono fun e W' ⟨v, he, hv, ho⟩ => ?_
  subst he hv
  have bel := ho.below
  exact ⟨_, rfl, _, _, _, [], _, [], hW', trodAll_mk1 (shut_bool Tryz.underlying4 _), (trodAll_cons_mk (Below.trod laidOut (by kernel_rfl) (of_decide_eq_true (by kernel_rfl)) k0 bel lt0) (trodAll_cons_mk (Below.trod laidOut (by kernel_rfl) (of_decide_eq_true (by kernel_rfl)) k1 bel lt1) (trodAll_cons_mk (Below.trod laidOut (by kernel_rfl) (of_decide_eq_true (by kernel_rfl)) k2 bel lt2) trodAll_mk0))), rfl, bel.frame _, fun h => by cases h⟩
theorem over : Rows.blockWholeRow.holds Tryz.pinned (OpenSpec.ofChange Rows.blockWholeSpec) :=
  OpenClaim.holds_of_wide 5 Tryz.f5 rfl rfl rfl rfl rfl rfl rfl ⟨rfl, rfl, rfl, rfl, rfl⟩ rfl rfl rfl rfl rfl (by kernel_rfl) Tryz.func5 (by kernel_rfl)
    (of_decide_eq_true (by kernel_rfl)) (by unfold Func.isWrapper; first | (rw [if_pos (by decide +kernel)]; kernel_rfl) | (rw [if_neg (by decide +kernel)]; exact ⟨rfl, rfl⟩))
    (fun os started H enc _ => lifted os started H enc)
end Go.Proofs.YtbfiagimgokccaaGreat.blockWhole
namespace Go.Proofs.YtbfiagimgokccaaGreat
theorem blockWhole_holds : Rows.BlockWholeSaid := blockWhole.over
#print axioms blockWhole_holds
end Go.Proofs.YtbfiagimgokccaaGreat
