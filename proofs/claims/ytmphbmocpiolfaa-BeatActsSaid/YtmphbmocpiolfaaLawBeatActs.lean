/- Whatever a watch hears, each answer is the document's: for every number of workers, every patience, every list of acts. -/
import Derived.Test.YtmphbmocpiolfaaRows
import Derived.Test.YtmphbmocpiolfaaB3
import Derived.WalkKit
import Derived.ProofKit
import Derived.OpenShut
import Derived.ShutString
import Derived.ChangeOld
import Derived.Below
import Derived.SizedLaws
import Derived.Carry
namespace Go.Proofs.Ytmphbmocpiolfaa.beatActs
open Go Go.Hp Go.ChangeShapes Go.WideShapes Go.ChangeAt Go.RowKit Go.Proofs.Ytmphbmocpiolfaa
open Go.ChangeMaps (open_string shut_string)
set_option linter.unusedVariables false
set_option linter.unusedSimpArgs false
theorem own : ownKnob Try.prog.godebug = none := by kernel_rfl
theorem laidOut : laidOutB Try.prog = true := by kernel_rfl
theorem actE {H : Type} {enc : TypeId × Value → H} {w : World} {base : Nat} {spare : Nat → Bool} {held : Bool} : ∀ n cs y, DataW.trod enc Try.prog w base spare held n 31 cs = some y → ∃ a : ActV, cs = [.int .i64 a.kd, .int .i64 a.wk, .int .i64 a.epo, .int .i64 a.li] ∧ True := by
  intro n cs y h
  obtain ⟨xs, m, _, _, hl, hx, hf⟩ := DataW.trod_struct Try.underlying31 h
  have hc : cs.length = 4 := by rw [hl]; kernel_rfl
  match cs, hc with
  | [c0, c1, c2, c3], _ =>
    match xs, hx with
    | [x0, x1, x2, x3], _ =>
      have e : Try.prog.cellsOf 3 = 1 := by kernel_rfl
      have f0 : DataW.trod enc Try.prog w base spare held m 3 [c0] = some x0 := by have := hf 0 _ rfl; simpa [e] using this
      have f1 : DataW.trod enc Try.prog w base spare held m 3 [c1] = some x1 := by have := hf 1 _ rfl; simpa [e] using this
      have f2 : DataW.trod enc Try.prog w base spare held m 3 [c2] = some x2 := by have := hf 2 _ rfl; simpa [e] using this
      have f3 : DataW.trod enc Try.prog w base spare held m 3 [c3] = some x3 := by have := hf 3 _ rfl; simpa [e] using this
      obtain ⟨a0, rfl, _⟩ := int_cells Try.underlying3 f0
      obtain ⟨a1, rfl, _⟩ := int_cells Try.underlying3 f1
      obtain ⟨a2, rfl, _⟩ := int_cells Try.underlying3 f2
      obtain ⟨a3, rfl, _⟩ := int_cells Try.underlying3 f3
      exact ⟨⟨a0, a1, a2, a3⟩, rfl, trivial⟩
set_option maxRecDepth 100000 in
theorem lifted (os : Os) (started : os.Started) (H : Type) (enc : TypeId × Value → H) :
    ReturnsInHanded {} Try.checked os 3 .any (Rows.beatActsSpec.pre6 enc Try.prog Try.f3 Rows.beatActsRow.domain false) (Rows.beatActsSpec.post enc Try.prog Try.f3 false true false false) := by
  refine returnsInHanded_of_change_sized (C := Try.checked) own started (by kernel_rfl) Try.func3
    (ChangeSpec.witness6 (enc := enc) (C := Try.checked) false ⟨#[], #[.int .i64 0, .int .i64 0, .slice none 0 0], []⟩ 8 (by kernel_rfl) (by kernel_rfl) (by kernel_rfl) (by kernel_rfl)) ?_
  intro W base args ds gs before hval0 hW hcnd hsz0 _
  have hsz : (DataW.weightsEach Try.prog (Try.f3.params.toList ++ Rows.beatActsSpec.plain.varTypes Try.prog) (ds ++ gs)).all (· ≤ reachBytes) = true := hsz0
  have hval : ∀ (j : Nat) t v, Try.f3.params[j]? = some t → args[j]? = some v → Value.okWide Try.prog W .any base t v := hval0
  have hW' := hW
  obtain ⟨p, q, hA0, hV, rfl, hfz, hnd⟩ := hW
  have hA : DataW.TrodAll enc Try.prog W 0 (fun _ => true) true Try.f3.params.toList args.toList ds p := hA0
  rw [Try.params3] at hA hval hsz
  obtain ⟨v0, vs0, d0, ds0, p0, q0, hargs, rfl, rfl, h0, r0⟩ := trodAll_cons hA
  obtain ⟨v1, vs1, d1, ds1, p1, q1, rfl, rfl, rfl, h1, r1⟩ := trodAll_cons r0
  obtain ⟨v2, vs2, d2, ds2, p2, q2, rfl, rfl, rfl, h2, r2⟩ := trodAll_cons r1
  obtain ⟨rfl, rfl, rfl⟩ := trodAll_nil r2
  obtain rfl : args = #[v0, v1, v2] := by cases args; simp_all
  obtain ⟨rfl, rfl⟩ := trodVars_none hV
  have k0 := h0
  have lt0 : ∀ x ∈ p0, x.block < W.heap.size := by obtain ⟨m, hm⟩ := k0; exact DataW.trod_lt m _ _ _ hm
  obtain ⟨a0, rfl, hd0, hp0, w0⟩ := open_int Try.underlying3 (hval 0 3 v0 rfl rfl) h0
  have k1 := h1
  have lt1 : ∀ x ∈ p1, x.block < W.heap.size := by obtain ⟨m, hm⟩ := k1; exact DataW.trod_lt m _ _ _ hm
  obtain ⟨a1, rfl, hd1, hp1, w1⟩ := open_int Try.underlying3 (hval 1 3 v1 rfl rfl) h1
  have k2 := h2
  have lt2 : ∀ x ∈ p2, x.block < W.heap.size := by obtain ⟨m, hm⟩ := k2; exact DataW.trod_lt m _ _ _ hm
  obtain ⟨s0, len0, cap0, rfl⟩ := okWide_slice Try.underlying22 (hval 2 22 v2 rfl rfl)
  obtain ⟨acts, rfl, hacts, _, hlen⟩ := open_rows (fun a : ActV => [.int .i64 a.kd, .int .i64 a.wk, .int .i64 a.epo, .int .i64 a.li]) (fun _ => True) 4 (by omega) (fun _ => rfl) Try.underlying22 (by kernel_rfl) actE h2
  clear hA0 hval0 hsz0 hsz
  refine (beatActs_any a0 a1 s0 cap0 acts W hacts hlen).mono fun e W' ⟨v, he, hv, ho⟩ => ?_
  subst he hv
  have bel := ho.below
  exact ⟨_, rfl, _, _, _, [], _, [], hW', trodAll_mk1 (shut_bool Try.underlying4 _), (trodAll_cons_mk (Below.trod laidOut (by kernel_rfl) (of_decide_eq_true (by kernel_rfl)) k0 bel lt0) (trodAll_cons_mk (Below.trod laidOut (by kernel_rfl) (of_decide_eq_true (by kernel_rfl)) k1 bel lt1) (trodAll_cons_mk (Below.trod laidOut (by kernel_rfl) (of_decide_eq_true (by kernel_rfl)) k2 bel lt2) trodAll_mk0))), rfl, bel.frame _, fun h => by cases h⟩
theorem over : Rows.beatActsRow.holds Try.pinned (OpenSpec.ofChange Rows.beatActsSpec) :=
  OpenClaim.holds_of_wide 3 Try.f3 rfl rfl rfl rfl rfl rfl rfl ⟨rfl, rfl, rfl, rfl, rfl⟩ rfl rfl rfl rfl rfl (by kernel_rfl) Try.func3 (by kernel_rfl)
    (of_decide_eq_true (by kernel_rfl)) (by unfold Func.isWrapper; first | (rw [if_pos (by decide +kernel)]; kernel_rfl) | (rw [if_neg (by decide +kernel)]; exact ⟨rfl, rfl⟩))
    (fun os started H enc _ => lifted os started H enc)
end Go.Proofs.Ytmphbmocpiolfaa.beatActs
namespace Go.Proofs.Ytmphbmocpiolfaa
theorem beatActs_holds : Rows.BeatActsSaid := beatActs.over
#print axioms beatActs_holds
end Go.Proofs.Ytmphbmocpiolfaa
