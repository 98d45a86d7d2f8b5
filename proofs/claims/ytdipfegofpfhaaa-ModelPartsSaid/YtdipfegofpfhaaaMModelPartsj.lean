/- What the law needs. -/
import Derived.Test.YtdipfegofpfhaaaMModelPartsi
import Derived.Test.YtdipfegofpfhaaaMModelPartsa
import Derived.Laws.BitsLemmas
import Derived.Lib.BitFns
section
namespace Go.Proofs.Ytdipfegofpfhaaa
open Go Go.RowKit Go.Hp
set_option linter.unusedVariables false
set_option linter.unusedSimpArgs false
set_option maxRecDepth 100000

theorem bd_35_0_2_1_3_4_5 {ρ : Operand → Value} {w : World} {dst : Option Nat} {ty : TypeId} {pos : String} {after : Array Edge} {g : Option (Nat × Bool)} {x0 x2 x1 x3 x4 x5 : Operand} {k0 : IntKind} {a0 : Int} {k2 : IntKind} {a2 : Int} {k1 : IntKind} {a1 : Int} {k3 : IntKind} {a3 : Int} {k4 : IntKind} {a4 : Int} {k5 : IntKind} {a5 : Int} (h0 : ρ x0 = (.int k0 a0)) (h2 : ρ x2 = (.int k2 a2)) (h1 : ρ x1 = (.int k1 a1)) (h3 : ρ x3 = (.int k3 a3)) (h4 : ρ x4 = (.int k4 a4)) (h5 : ρ x5 = (.int k5 a5)) :
    (execOp ρ ⟨dst, .build 35 #[(0, x0), (2, x2), (1, x1), (3, x3), (4, x4), (5, x5)], ty, pos, after, g⟩).run Try.prog w = .ok (.value (.agg #[(.int k0 a0), (.int k1 a1), (.int k2 a2), (.int k3 a3), (.int k4 a4), (.int k5 a5)])) w := by
  simp [execOp, Instr.build, Instr.fill, Try.zeroValue35, Try.runUnderlying35, Try.sizeOf3, h0, h2, h1, h3, h4, h5, Value.cells]

def ref07_Tiny (x0 : A6_i64) : Option (S_api_Shape) :=
  (ref07_rest x0.c2 3).bind fun r9 =>
  (idx ([1, 2, 4]) r9).bind fun y11 =>
  (ref07_rest x0.c0 3).bind fun r21 =>
  (ref07_rest x0.c1 2).bind fun r23 =>
  (ref07_rest x0.c3 8).bind fun r25 =>
  (ref07_rest x0.c4 9).bind fun r27 =>
  (ref07_rest x0.c5 9).bind fun r29 =>
  some (⟨(IntKind.i64.wrap (1 + r21)), (IntKind.i64.wrap ((IntKind.i64.wrap (2 * y11)) * (IntKind.i64.wrap (1 + r23)))), y11, (IntKind.i64.wrap (1 + r25)), (IntKind.i64.wrap (2 + r27)), (IntKind.i64.wrap (4 + r29))⟩ : S_api_Shape)

set_option maxHeartbeats 8000000 in
theorem ref07_Tiny_any {x0 : A6_i64} {Fr : List HP} {w : World} {r : S_api_Shape} {K : Value → World → Prop}  (hc : Ctx w (Fr)) (hp : ref07_Tiny x0 = some r)
    (k : ∀ w', Ctx w' (Fr) → K (.agg #[.int .i64 r.Layers, .int .i64 r.Width, .int .i64 r.Heads, .int .i64 r.Inner, .int .i64 r.Vocab, .int .i64 r.Places]) w') : Calls Try.prog 40 #[.agg #[.int .i64 x0.c0, .int .i64 x0.c1, .int .i64 x0.c2, .int .i64 x0.c3, .int .i64 x0.c4, .int .i64 x0.c5]] w (Ret K) := by
 unfold ref07_Tiny at hp; refine Center (args := [.agg #[.int .i64 x0.c0, .int .i64 x0.c1, .int .i64 x0.c2, .int .i64 x0.c3, .int .i64 x0.c4, .int .i64 x0.c5]]) (l := [(0, .agg #[.int .i64 x0.c0, .int .i64 x0.c1, .int .i64 x0.c2, .int .i64 x0.c3, .int .i64 x0.c4, .int .i64 x0.c5])]) Try.func40 Try.ntmps40 rfl rfl rfl ?_; refine Wseq (Wreg ?_); refine rsE (Ctx.boxOp (cs := [.int .i64 x0.c0, .int .i64 x0.c1, .int .i64 x0.c2, .int .i64 x0.c3, .int .i64 x0.c4, .int .i64 x0.c5]) (v := .agg #[.int .i64 x0.c0, .int .i64 x0.c1, .int .i64 x0.c2, .int .i64 x0.c3, .int .i64 x0.c4, .int .i64 x0.c5]) hc rfl rfl) rfl ?_; clear hc; rintro _ w3 ⟨b1, rfl, hc⟩; refine rsE (Ctx.allocOp (cs := [.int .i64 0, .int .i64 0, .int .i64 0, .int .i64 0, .int .i64 0, .int .i64 0]) hc Try.zeroValue35 rfl) rfl ?_; clear hc; rintro _ w6 ⟨b4, rfl, hc⟩; refine rn (qn (Wseq (Wreg ?_))); refine rsE (Ctx.builtOp (css := [[.int .i64 1], [.int .i64 2], [.int .i64 4]]) (xs := ([1, 2, 4] : List Int)) (E := (pInt .i64)) (Ctx.holdsC (f := fun x : Int => [.int .i64 x]) (fun _ _ _ => rfl) hc ([1, 2, 4] : List Int)) Try.underlying27 Try.sizeOf3 Try.zeroValue3 rfl rfl rfl rfl rfl rfl rfl rfl) rfl ?_; clear hc; rintro _ w8 ⟨a7, rfl, hc⟩; refine rs (v := .pointer (some ⟨b1, 2, none⟩)) (ixa (i := 2) rfl rfl Try.underlying22 Try.sizeOf3 (by decide) (by decide) (by decide) (by decide) rfl) rfl ?_; refine rs (ld rfl Try.isAgg3 (Ctx.cell hc (k := 2) rfl rfl rfl)) rfl ?_; replace hp := bind_some hp; obtain ⟨r9, hr9, hp⟩ := hp; refine rc (cl Try.call55 rfl rfl) rfl ?_; refine ref07_rest_any hc hr9 ?_; clear hc; intro w10 hc; replace hp := bind_some hp; obtain ⟨y11, hy11, hp⟩ := hp; obtain ⟨b14, o15, u16, hi12, hi13⟩ := Ctx.rdAt hc (k := 0) rfl rfl reads_own hy11; subst u16; refine rs (ixx rfl rfl Try.underlying27 Try.sizeOf3 hi12 hi13 rfl) rfl ?_; replace hc := Ctx.rdCell hc (k := 0) rfl rfl reads_own hy11; obtain ⟨cs17, hc, hcell18⟩ := hc; replace hc := Ctx.holdC hc; obtain ⟨u19, hc⟩ := hc; subst u19; refine rs (ld rfl Try.isAgg3 (hcell18 0 _ rfl)) rfl ?_; refine rA (.int .i64 y11) rfl rfl ?_; refine rn (qn (Wseq ?_)); replace hc := hc.drew; have hF : ∀ j, free [0, 1, 3, 7, 0, 0, 32, 0, 128, 391, 903, 2023, 0, 4096, 13191, 29575, 0, 65536, 226183, 488327, 0, 1048576, 3634055, 7828359, 16777215, 33554431] 0 j = true → (fun j w' => (j = 8 → w'.cell? ⟨b1, 1, none⟩ = some (.int .i64 x0.c1)) ∧ (j = 13 → w'.cell? ⟨b1, 3, none⟩ = some (.int .i64 x0.c3)) ∧ (j = 17 → w'.cell? ⟨b1, 4, none⟩ = some (.int .i64 x0.c4)) ∧ (j = 21 → w'.cell? ⟨b1, 5, none⟩ = some (.int .i64 x0.c5)) ∧ True) j (World.drew w10) := fun j hj => ⟨fun _ => hc.cell (k := 2) rfl rfl rfl, fun _ => hc.cell (k := 2) rfl rfl rfl, fun _ => hc.cell (k := 2) rfl rfl rfl, fun _ => hc.cell (k := 2) rfl rfl rfl, trivial⟩; refine Wdrw (fun j w' => (j = 8 → w'.cell? ⟨b1, 1, none⟩ = some (.int .i64 x0.c1)) ∧ (j = 13 → w'.cell? ⟨b1, 3, none⟩ = some (.int .i64 x0.c3)) ∧ (j = 17 → w'.cell? ⟨b1, 4, none⟩ = some (.int .i64 x0.c4)) ∧ (j = 21 → w'.cell? ⟨b1, 5, none⟩ = some (.int .i64 x0.c5)) ∧ True) [0, 1, 3, 7, 0, 0, 32, 0, 128, 391, 903, 2023, 0, 4096, 13191, 29575, 0, 65536, 226183, 488327, 0, 1048576, 3634055, 7828359, 16777215, 33554431] 0 2 rfl (by kernel_rfl) (hF) ?_; generalize hw : World.drew w10 = w20 at *; clear hw; refine ds (v := .pointer (some ⟨b1, 0, none⟩)) rfl (fun w' hF => ixa (i := 0) rfl rfl Try.underlying22 Try.sizeOf3 (by decide) (by decide) (by decide) (by decide) rfl) rfl ?_; refine dx rfl (ld rfl Try.isAgg3 (Ctx.cell hc (k := 2) rfl rfl rfl)) rfl rfl ?_; replace hp := bind_some hp; obtain ⟨r21, hr21, hp⟩ := hp; refine dc (cl Try.call55 rfl rfl) rfl rfl ?_; refine ref07_rest_any hc hr21 ?_; clear hc; intro w22 hc; refine ⟨fun j hj hb => ⟨fun _ => hc.cell (k := 2) rfl rfl rfl, fun _ => hc.cell (k := 2) rfl rfl rfl, fun _ => hc.cell (k := 2) rfl rfl rfl, fun _ => hc.cell (k := 2) rfl rfl rfl, trivial⟩, ?_⟩; refine ds rfl (fun w' hF => adw rfl rfl) rfl ?_; refine dM (.int .i64 y11) rfl rfl rfl ?_; refine dM (.int .i64 y11) rfl rfl rfl ?_; refine ds rfl (fun w' hF => mlw rfl rfl) rfl ?_; refine ds (v := .pointer (some ⟨b1, 1, none⟩)) rfl (fun w' hF => ixa (i := 1) rfl rfl Try.underlying22 Try.sizeOf3 (by decide) (by decide) (by decide) (by decide) rfl) rfl ?_; refine ds rfl (fun w' hF => ld rfl Try.isAgg3 ((hF.1 rfl))) rfl ?_; replace hp := bind_some hp; obtain ⟨r23, hr23, hp⟩ := hp; refine dc (cl Try.call55 rfl rfl) rfl rfl ?_; refine ref07_rest_any hc hr23 ?_; clear hc; intro w24 hc; refine ⟨fun j hj hb => ⟨fun e => (by subst e; exact absurd hj (by decide)), fun _ => hc.cell (k := 2) rfl rfl rfl, fun _ => hc.cell (k := 2) rfl rfl rfl, fun _ => hc.cell (k := 2) rfl rfl rfl, trivial⟩, ?_⟩; refine ds rfl (fun w' hF => adw rfl rfl) rfl ?_; refine ds rfl (fun w' hF => mlw rfl rfl) rfl ?_; refine ds (v := .pointer (some ⟨b1, 3, none⟩)) rfl (fun w' hF => ixa (i := 3) rfl rfl Try.underlying22 Try.sizeOf3 (by decide) (by decide) (by decide) (by decide) rfl) rfl ?_; refine ds rfl (fun w' hF => ld rfl Try.isAgg3 ((hF.2.1 rfl))) rfl ?_; replace hp := bind_some hp; obtain ⟨r25, hr25, hp⟩ := hp; refine dc (cl Try.call55 rfl rfl) rfl rfl ?_; refine ref07_rest_any hc hr25 ?_; clear hc; intro w26 hc; refine ⟨fun j hj hb => ⟨fun e => (by subst e; exact absurd hj (by decide)), fun e => (by subst e; exact absurd hj (by decide)), fun _ => hc.cell (k := 2) rfl rfl rfl, fun _ => hc.cell (k := 2) rfl rfl rfl, trivial⟩, ?_⟩; refine ds rfl (fun w' hF => adw rfl rfl) rfl ?_; refine ds (v := .pointer (some ⟨b1, 4, none⟩)) rfl (fun w' hF => ixa (i := 4) rfl rfl Try.underlying22 Try.sizeOf3 (by decide) (by decide) (by decide) (by decide) rfl) rfl ?_; refine ds rfl (fun w' hF => ld rfl Try.isAgg3 ((hF.2.2.1 rfl))) rfl ?_; replace hp := bind_some hp; obtain ⟨r27, hr27, hp⟩ := hp; refine dc (cl Try.call55 rfl rfl) rfl rfl ?_; refine ref07_rest_any hc hr27 ?_; clear hc; intro w28 hc; refine ⟨fun j hj hb => ⟨fun e => (by subst e; exact absurd hj (by decide)), fun e => (by subst e; exact absurd hj (by decide)), fun e => (by subst e; exact absurd hj (by decide)), fun _ => hc.cell (k := 2) rfl rfl rfl, trivial⟩, ?_⟩; refine ds rfl (fun w' hF => adw rfl rfl) rfl ?_; refine ds (v := .pointer (some ⟨b1, 5, none⟩)) rfl (fun w' hF => ixa (i := 5) rfl rfl Try.underlying22 Try.sizeOf3 (by decide) (by decide) (by decide) (by decide) rfl) rfl ?_; refine ds rfl (fun w' hF => ld rfl Try.isAgg3 ((hF.2.2.2.1 rfl))) rfl ?_; replace hp := bind_some hp; obtain ⟨r29, hr29, hp⟩ := hp; refine dc (cl Try.call55 rfl rfl) rfl rfl ?_; refine ref07_rest_any hc hr29 ?_; clear hc; intro w30 hc; refine ⟨fun j hj hb => ⟨fun e => (by subst e; exact absurd hj (by decide)), fun e => (by subst e; exact absurd hj (by decide)), fun e => (by subst e; exact absurd hj (by decide)), fun e => (by subst e; exact absurd hj (by decide)), trivial⟩, ?_⟩; refine ds rfl (fun w' hF => adw rfl rfl) rfl ?_; refine ds (v := .agg #[.int .i64 (IntKind.i64.wrap (1 + r21)), .int .i64 (IntKind.i64.wrap ((IntKind.i64.wrap (2 * y11)) * (IntKind.i64.wrap (1 + r23)))), .int .i64 y11, .int .i64 (IntKind.i64.wrap (1 + r25)), .int .i64 (IntKind.i64.wrap (2 + r27)), .int .i64 (IntKind.i64.wrap (4 + r29))]) rfl (fun w' hF => bd_35_0_2_1_3_4_5 rfl rfl rfl rfl rfl rfl) rfl ?_; refine duE (Ctx.putAgg hc (k := 1) rfl rfl (vs := [.int .i64 (IntKind.i64.wrap (1 + r21)), .int .i64 (IntKind.i64.wrap ((IntKind.i64.wrap (2 * y11)) * (IntKind.i64.wrap (1 + r23)))), .int .i64 y11, .int .i64 (IntKind.i64.wrap (1 + r25)), .int .i64 (IntKind.i64.wrap (2 + r27)), .int .i64 (IntKind.i64.wrap (4 + r29))]) (cs' := [.int .i64 (IntKind.i64.wrap (1 + r21)), .int .i64 (IntKind.i64.wrap ((IntKind.i64.wrap (2 * y11)) * (IntKind.i64.wrap (1 + r23)))), .int .i64 y11, .int .i64 (IntKind.i64.wrap (1 + r25)), .int .i64 (IntKind.i64.wrap (2 + r27)), .int .i64 (IntKind.i64.wrap (4 + r29))]) rfl rfl rfl Try.sizeOf35 rfl rfl rfl) rfl rfl ?_; clear hc; rintro w31 hc; replace hc := Ctx.n1 hc; refine ⟨fun j hj hb => ⟨fun e => (by subst e; exact absurd hj (by decide)), fun e => (by subst e; exact absurd hj (by decide)), fun e => (by subst e; exact absurd hj (by decide)), fun e => (by subst e; exact absurd hj (by decide)), trivial⟩, ?_⟩; refine dn (qn (Wret ?_)); have hres := Ctx.cells hc (k := 1) rfl rfl 0 (vs := [.int .i64 (IntKind.i64.wrap (1 + r21)), .int .i64 (IntKind.i64.wrap ((IntKind.i64.wrap (2 * y11)) * (IntKind.i64.wrap (1 + r23)))), .int .i64 y11, .int .i64 (IntKind.i64.wrap (1 + r25)), .int .i64 (IntKind.i64.wrap (2 + r27)), .int .i64 (IntKind.i64.wrap (4 + r29))]) rfl; replace hc := Ctx.r0 (Ctx.r1 (Ctx.r2 hc)); injection hp with hp; subst hp; refine f1c (cs := [.int .i64 (IntKind.i64.wrap (1 + r21)), .int .i64 (IntKind.i64.wrap ((IntKind.i64.wrap (2 * y11)) * (IntKind.i64.wrap (1 + r23)))), .int .i64 y11, .int .i64 (IntKind.i64.wrap (1 + r25)), .int .i64 (IntKind.i64.wrap (2 + r27)), .int .i64 (IntKind.i64.wrap (4 + r29))]) Try.results40 Try.ntmps40 rfl Try.isAgg35 Try.sizeOf35 rfl hres ?_; exact ⟨_, rfl, k _ hc⟩

theorem bd_128_0_1 {ρ : Operand → Value} {w : World} {dst : Option Nat} {ty : TypeId} {pos : String} {after : Array Edge} {g : Option (Nat × Bool)} {x0 x1 : Operand} {a0 : Bool} {k1 : IntKind} {a1 : Int} (h0 : ρ x0 = (.bool a0)) (h1 : ρ x1 = (.int k1 a1)) :
    (execOp ρ ⟨dst, .build 128 #[(0, x0), (1, x1)], ty, pos, after, g⟩).run Try.prog w = .ok (.value (.agg #[(.bool a0), (.int k1 a1)])) w := by
  simp [execOp, Instr.build, Instr.fill, Try.zeroValue128, Try.runUnderlying128, Try.sizeOf3, Try.sizeOf4, h0, h1, Value.cells]

def ref07_Rows.L1 (x0 : S_api_Shape) : Nat → (List S_ref07_Row) → Int → Option ((List S_ref07_Row))
  | 0, _, _ => none
  | m1 + 1, j6, j10 =>
    if j10 < x0.Layers then
      (app j6 ([(⟨true, x0.Width⟩ : S_ref07_Row), (⟨false, (IntKind.i64.wrap (x0.Width * x0.Width))⟩ : S_ref07_Row), (⟨false, (IntKind.i64.wrap (x0.Width * x0.Width))⟩ : S_ref07_Row), (⟨false, (IntKind.i64.wrap (x0.Width * x0.Width))⟩ : S_ref07_Row), (⟨false, (IntKind.i64.wrap (x0.Width * x0.Width))⟩ : S_ref07_Row), (⟨true, x0.Width⟩ : S_ref07_Row), (⟨false, (IntKind.i64.wrap (x0.Inner * x0.Width))⟩ : S_ref07_Row), (⟨false, (IntKind.i64.wrap (x0.Width * x0.Inner))⟩ : S_ref07_Row)])).bind fun z24 =>
      (ref07_Rows.L1 x0 m1) z24 (IntKind.i64.wrap (j10 + 1))
    else
      (app j6 ([(⟨true, x0.Width⟩ : S_ref07_Row), (⟨false, (IntKind.i64.wrap (x0.Vocab * x0.Width))⟩ : S_ref07_Row)])).bind fun z16 =>
      some z16

def ref07_Rows (N : Nat) (x0 : S_api_Shape) : Option ((List S_ref07_Row)) :=
  ref07_Rows.L1 x0 N ([(⟨false, (IntKind.i64.wrap (x0.Vocab * x0.Width))⟩ : S_ref07_Row)]) 0

set_option maxHeartbeats 8000000 in
theorem ref07_Rows_any {N : Nat} {x0 : S_api_Shape} {Fr : List HP} {w : World} {r : (List S_ref07_Row)} {K : Value → World → Prop}  (hc : Ctx w (Fr)) (hp : ref07_Rows N x0 = some r)
    (k : ∀ (a30 : Option Addr) (n31 : Nat) (q32 : Nat) w', Ctx w' (Own S_ref07_Row.pr 128 (.slice a30 n31 q32) r :: Fr) → K (.slice a30 n31 q32) w') : Calls Try.prog 56 #[.agg #[.int .i64 x0.Layers, .int .i64 x0.Width, .int .i64 x0.Heads, .int .i64 x0.Inner, .int .i64 x0.Vocab, .int .i64 x0.Places]] w (Ret K) := by
 unfold ref07_Rows at hp; refine Center (args := [.agg #[.int .i64 x0.Layers, .int .i64 x0.Width, .int .i64 x0.Heads, .int .i64 x0.Inner, .int .i64 x0.Vocab, .int .i64 x0.Places]]) (l := [(0, .agg #[.int .i64 x0.Layers, .int .i64 x0.Width, .int .i64 x0.Heads, .int .i64 x0.Inner, .int .i64 x0.Vocab, .int .i64 x0.Places])]) Try.func56 Try.ntmps56 rfl rfl rfl ?_; refine Wseq (Wreg ?_); refine rsE (Ctx.boxOp (cs := [.int .i64 x0.Layers, .int .i64 x0.Width, .int .i64 x0.Heads, .int .i64 x0.Inner, .int .i64 x0.Vocab, .int .i64 x0.Places]) (v := .agg #[.int .i64 x0.Layers, .int .i64 x0.Width, .int .i64 x0.Heads, .int .i64 x0.Inner, .int .i64 x0.Vocab, .int .i64 x0.Places]) hc rfl rfl) rfl ?_; clear hc; rintro _ w3 ⟨b1, rfl, hc⟩; refine rA (.slice none 0 0) rfl rfl ?_; refine rn (qn (Wseq (Wreg ?_))); refine rs (v := .pointer (some ⟨b1, 4, none⟩)) (fax 4 rfl Try.underlying35 rfl Try.sizeOf3 rfl rfl rfl) rfl ?_; refine rs (ld rfl Try.isAgg3 (Ctx.cell hc (k := 0) rfl rfl rfl)) rfl ?_; refine rs (v := .pointer (some ⟨b1, 1, none⟩)) (fax 1 rfl Try.underlying35 rfl Try.sizeOf3 rfl rfl rfl) rfl ?_; refine rs (ld rfl Try.isAgg3 (Ctx.cell hc (k := 0) rfl rfl rfl)) rfl ?_; refine rs (mlw rfl rfl) rfl ?_; refine rs (v := .agg #[.bool false, .int .i64 (IntKind.i64.wrap (x0.Vocab * x0.Width))]) (bd_128_0_1 rfl rfl) rfl ?_; refine rsE (Ctx.builtOp (css := [[.bool false, .int .i64 (IntKind.i64.wrap (x0.Vocab * x0.Width))]]) (xs := ([(⟨false, (IntKind.i64.wrap (x0.Vocab * x0.Width))⟩ : S_ref07_Row)] : List S_ref07_Row)) (E := S_ref07_Row.pr) (Ctx.holdsC (f := fun x : S_ref07_Row => [.bool x.Gain, .int .i64 x.N]) (fun _ _ _ => rfl) hc ([(⟨false, (IntKind.i64.wrap (x0.Vocab * x0.Width))⟩ : S_ref07_Row)] : List S_ref07_Row)) Try.underlying125 Try.sizeOf128 Try.zeroValue128 rfl rfl rfl rfl rfl rfl rfl rfl) rfl ?_; clear hc; rintro _ w5 ⟨a4, rfl, hc⟩; refine rA (.slice a4 1 1) rfl rfl ?_; refine rn (qn (Wseq (Wseq (Wreg ?_)))); refine rA (.int .i64 0) rfl rfl ?_; refine rn (qn (Wblk ?_)); replace hc := Ctx.p1 hc; refine Wloop (3 :: 4 :: 12 :: 13 :: 14 :: 15 :: 16 :: 17 :: 18 :: 19 :: 20 :: 21 :: 22 :: 23 :: 24 :: 25 :: 26 :: 27 :: 28 :: 29 :: 30 :: 31 :: 32 :: 33 :: 34 :: 35 :: 36 :: 37 :: 38 :: 39 :: 40 :: 41 :: 42 :: 43 :: 44 :: 45 :: 46 :: 47 :: 48 :: 49 :: 50 :: 51 :: 52 :: 53 :: 54 :: 55 :: 56 :: 57 :: 58 :: 59 :: 60 :: 61 :: 62 :: []) [3, 4] (fun m vs w' => ∃ j6 : (List S_ref07_Row), ∃ j10 : Int, ∃ a7 : Option Addr, ∃ n8 : Nat, ∃ q9 : Nat, vs = [.slice a7 n8 q9, .int .i64 j10] ∧ ref07_Rows.L1 x0 m j6 j10 = some r ∧ Ctx w' (B b1 [.int .i64 x0.Layers, .int .i64 x0.Width, .int .i64 x0.Heads, .int .i64 x0.Inner, .int .i64 x0.Vocab, .int .i64 x0.Places] 35 :: Own S_ref07_Row.pr 128 (.slice a7 n8 q9) j6 :: Fr)) N ?_ ?_
 · exact ⟨[(⟨false, (IntKind.i64.wrap (x0.Vocab * x0.Width))⟩ : S_ref07_Row)], 0, a4, 1, 1, rfl, hp, hc⟩
 · clear hp hc; intro m vs u w11 hJ; obtain ⟨j6, j10, a7, n8, q9, rfl, hp, hc⟩ := hJ; obtain ⟨u12, _⟩ := Ctx.rdLen hc (k := 1) rfl rfl reads_own; subst u12; rcases m with _ | m1
   · cases (show none = some r from hp)
   rw [ref07_Rows.L1] at hp; refine Wseq (Wseq (Wreg ?_)); refine rM (.int .i64 j10) rfl rfl ?_; refine rs (v := .pointer (some ⟨b1, 0, none⟩)) (fax 0 rfl Try.underlying35 rfl Try.sizeOf3 rfl rfl rfl) rfl ?_; refine rs (ld rfl Try.isAgg3 (Ctx.cell hc (k := 0) rfl rfl rfl)) rfl ?_; refine rs (lt' rfl rfl) rfl ?_; refine rn (qn ?_); cases hb13 : (decide (j10 < x0.Layers))
   · replace hp := gneg hp (of_decide_eq_false hb13); refine Wcf rfl (Wexit (qx (qx (be (qn (Wseq (Wreg ?_))))))); refine rM (.slice a7 j6.length q9) rfl rfl ?_; refine rs (v := .pointer (some ⟨b1, 1, none⟩)) (fax 1 rfl Try.underlying35 rfl Try.sizeOf3 rfl rfl rfl) rfl ?_; refine rs (ld rfl Try.isAgg3 (Ctx.cell hc (k := 0) rfl rfl rfl)) rfl ?_; refine rs (v := .agg #[.bool true, .int .i64 x0.Width]) (bd_128_0_1 rfl rfl) rfl ?_; refine rs (v := .pointer (some ⟨b1, 4, none⟩)) (fax 4 rfl Try.underlying35 rfl Try.sizeOf3 rfl rfl rfl) rfl ?_; refine rs (ld rfl Try.isAgg3 (Ctx.cell hc (k := 0) rfl rfl rfl)) rfl ?_; refine rs (v := .pointer (some ⟨b1, 1, none⟩)) (fax 1 rfl Try.underlying35 rfl Try.sizeOf3 rfl rfl rfl) rfl ?_; refine rs (ld rfl Try.isAgg3 (Ctx.cell hc (k := 0) rfl rfl rfl)) rfl ?_; refine rs (mlw rfl rfl) rfl ?_; refine rs (v := .agg #[.bool false, .int .i64 (IntKind.i64.wrap (x0.Vocab * x0.Width))]) (bd_128_0_1 rfl rfl) rfl ?_; refine rsE (Ctx.builtOp (css := [[.bool true, .int .i64 x0.Width], [.bool false, .int .i64 (IntKind.i64.wrap (x0.Vocab * x0.Width))]]) (xs := ([(⟨true, x0.Width⟩ : S_ref07_Row), (⟨false, (IntKind.i64.wrap (x0.Vocab * x0.Width))⟩ : S_ref07_Row)] : List S_ref07_Row)) (E := S_ref07_Row.pr) (Ctx.holdsC (f := fun x : S_ref07_Row => [.bool x.Gain, .int .i64 x.N]) (fun _ _ _ => rfl) hc ([(⟨true, x0.Width⟩ : S_ref07_Row), (⟨false, (IntKind.i64.wrap (x0.Vocab * x0.Width))⟩ : S_ref07_Row)] : List S_ref07_Row)) Try.underlying125 Try.sizeOf128 Try.zeroValue128 rfl rfl rfl rfl rfl rfl rfl rfl) rfl ?_; clear hc; rintro _ w15 ⟨a14, rfl, hc⟩; replace hp := bind_some hp; obtain ⟨z16, hz16, hp⟩ := hp; obtain ⟨hg17, e18⟩ := app_some hz16; refine rsE (Ctx.append hc (k := 2) rfl rfl (k2 := 0) rfl rfl reads_own Try.underlying125 (i := Try.t128) rfl rfl rfl rfl rfl rfl rfl rfl hg17) rfl ?_; clear hc; rintro _ w21 ⟨a19, q20, rfl, hc⟩; rw [← e18] at hc ⊢; replace hc := Ctx.n2 hc; refine rA (.slice a19 z16.length q20) rfl rfl ?_; refine rn (qn (Wret ?_)); replace hc := Ctx.r0 (Ctx.r1 hc); injection hp with hp; subst hp; refine f1 (v := .slice a19 z16.length q20) Try.results56 Try.ntmps56 rfl ?_; exact ⟨_, rfl, k _ _ _ _ hc⟩
   · replace hp := gpos hp (of_decide_eq_true hb13); refine Wct rfl (Wskip (qn (Wseq (Wblk (Wreg ?_))))); refine rM (.slice a7 j6.length q9) rfl rfl ?_; refine rs (v := .pointer (some ⟨b1, 1, none⟩)) (fax 1 rfl Try.underlying35 rfl Try.sizeOf3 rfl rfl rfl) rfl ?_; refine rs (ld rfl Try.isAgg3 (Ctx.cell hc (k := 0) rfl rfl rfl)) rfl ?_; refine rs (v := .agg #[.bool true, .int .i64 x0.Width]) (bd_128_0_1 rfl rfl) rfl ?_; refine rs (v := .pointer (some ⟨b1, 1, none⟩)) (fax 1 rfl Try.underlying35 rfl Try.sizeOf3 rfl rfl rfl) rfl ?_; refine rs (ld rfl Try.isAgg3 (Ctx.cell hc (k := 0) rfl rfl rfl)) rfl ?_; refine rs (v := .pointer (some ⟨b1, 1, none⟩)) (fax 1 rfl Try.underlying35 rfl Try.sizeOf3 rfl rfl rfl) rfl ?_; refine rs (ld rfl Try.isAgg3 (Ctx.cell hc (k := 0) rfl rfl rfl)) rfl ?_; refine rs (mlw rfl rfl) rfl ?_; refine rs (v := .agg #[.bool false, .int .i64 (IntKind.i64.wrap (x0.Width * x0.Width))]) (bd_128_0_1 rfl rfl) rfl ?_; refine rs (v := .pointer (some ⟨b1, 1, none⟩)) (fax 1 rfl Try.underlying35 rfl Try.sizeOf3 rfl rfl rfl) rfl ?_; refine rs (ld rfl Try.isAgg3 (Ctx.cell hc (k := 0) rfl rfl rfl)) rfl ?_; refine rs (v := .pointer (some ⟨b1, 1, none⟩)) (fax 1 rfl Try.underlying35 rfl Try.sizeOf3 rfl rfl rfl) rfl ?_; refine rs (ld rfl Try.isAgg3 (Ctx.cell hc (k := 0) rfl rfl rfl)) rfl ?_; refine rs (mlw rfl rfl) rfl ?_; refine rs (v := .agg #[.bool false, .int .i64 (IntKind.i64.wrap (x0.Width * x0.Width))]) (bd_128_0_1 rfl rfl) rfl ?_; refine rs (v := .pointer (some ⟨b1, 1, none⟩)) (fax 1 rfl Try.underlying35 rfl Try.sizeOf3 rfl rfl rfl) rfl ?_; refine rs (ld rfl Try.isAgg3 (Ctx.cell hc (k := 0) rfl rfl rfl)) rfl ?_; refine rs (v := .pointer (some ⟨b1, 1, none⟩)) (fax 1 rfl Try.underlying35 rfl Try.sizeOf3 rfl rfl rfl) rfl ?_; refine rs (ld rfl Try.isAgg3 (Ctx.cell hc (k := 0) rfl rfl rfl)) rfl ?_; refine rs (mlw rfl rfl) rfl ?_; refine rs (v := .agg #[.bool false, .int .i64 (IntKind.i64.wrap (x0.Width * x0.Width))]) (bd_128_0_1 rfl rfl) rfl ?_; refine rs (v := .pointer (some ⟨b1, 1, none⟩)) (fax 1 rfl Try.underlying35 rfl Try.sizeOf3 rfl rfl rfl) rfl ?_; refine rs (ld rfl Try.isAgg3 (Ctx.cell hc (k := 0) rfl rfl rfl)) rfl ?_; refine rs (v := .pointer (some ⟨b1, 1, none⟩)) (fax 1 rfl Try.underlying35 rfl Try.sizeOf3 rfl rfl rfl) rfl ?_; refine rs (ld rfl Try.isAgg3 (Ctx.cell hc (k := 0) rfl rfl rfl)) rfl ?_; refine rs (mlw rfl rfl) rfl ?_; refine rs (v := .agg #[.bool false, .int .i64 (IntKind.i64.wrap (x0.Width * x0.Width))]) (bd_128_0_1 rfl rfl) rfl ?_; refine rs (v := .pointer (some ⟨b1, 1, none⟩)) (fax 1 rfl Try.underlying35 rfl Try.sizeOf3 rfl rfl rfl) rfl ?_; refine rs (ld rfl Try.isAgg3 (Ctx.cell hc (k := 0) rfl rfl rfl)) rfl ?_; refine rs (v := .agg #[.bool true, .int .i64 x0.Width]) (bd_128_0_1 rfl rfl) rfl ?_; refine rs (v := .pointer (some ⟨b1, 3, none⟩)) (fax 3 rfl Try.underlying35 rfl Try.sizeOf3 rfl rfl rfl) rfl ?_; refine rs (ld rfl Try.isAgg3 (Ctx.cell hc (k := 0) rfl rfl rfl)) rfl ?_; refine rs (v := .pointer (some ⟨b1, 1, none⟩)) (fax 1 rfl Try.underlying35 rfl Try.sizeOf3 rfl rfl rfl) rfl ?_; refine rs (ld rfl Try.isAgg3 (Ctx.cell hc (k := 0) rfl rfl rfl)) rfl ?_; refine rs (mlw rfl rfl) rfl ?_; refine rs (v := .agg #[.bool false, .int .i64 (IntKind.i64.wrap (x0.Inner * x0.Width))]) (bd_128_0_1 rfl rfl) rfl ?_; refine rs (v := .pointer (some ⟨b1, 1, none⟩)) (fax 1 rfl Try.underlying35 rfl Try.sizeOf3 rfl rfl rfl) rfl ?_; refine rs (ld rfl Try.isAgg3 (Ctx.cell hc (k := 0) rfl rfl rfl)) rfl ?_; refine rs (v := .pointer (some ⟨b1, 3, none⟩)) (fax 3 rfl Try.underlying35 rfl Try.sizeOf3 rfl rfl rfl) rfl ?_; refine rs (ld rfl Try.isAgg3 (Ctx.cell hc (k := 0) rfl rfl rfl)) rfl ?_; refine rs (mlw rfl rfl) rfl ?_; refine rs (v := .agg #[.bool false, .int .i64 (IntKind.i64.wrap (x0.Width * x0.Inner))]) (bd_128_0_1 rfl rfl) rfl ?_; refine rsE (Ctx.builtOp (css := [[.bool true, .int .i64 x0.Width], [.bool false, .int .i64 (IntKind.i64.wrap (x0.Width * x0.Width))], [.bool false, .int .i64 (IntKind.i64.wrap (x0.Width * x0.Width))], [.bool false, .int .i64 (IntKind.i64.wrap (x0.Width * x0.Width))], [.bool false, .int .i64 (IntKind.i64.wrap (x0.Width * x0.Width))], [.bool true, .int .i64 x0.Width], [.bool false, .int .i64 (IntKind.i64.wrap (x0.Inner * x0.Width))], [.bool false, .int .i64 (IntKind.i64.wrap (x0.Width * x0.Inner))]]) (xs := ([(⟨true, x0.Width⟩ : S_ref07_Row), (⟨false, (IntKind.i64.wrap (x0.Width * x0.Width))⟩ : S_ref07_Row), (⟨false, (IntKind.i64.wrap (x0.Width * x0.Width))⟩ : S_ref07_Row), (⟨false, (IntKind.i64.wrap (x0.Width * x0.Width))⟩ : S_ref07_Row), (⟨false, (IntKind.i64.wrap (x0.Width * x0.Width))⟩ : S_ref07_Row), (⟨true, x0.Width⟩ : S_ref07_Row), (⟨false, (IntKind.i64.wrap (x0.Inner * x0.Width))⟩ : S_ref07_Row), (⟨false, (IntKind.i64.wrap (x0.Width * x0.Inner))⟩ : S_ref07_Row)] : List S_ref07_Row)) (E := S_ref07_Row.pr) (Ctx.holdsC (f := fun x : S_ref07_Row => [.bool x.Gain, .int .i64 x.N]) (fun _ _ _ => rfl) hc ([(⟨true, x0.Width⟩ : S_ref07_Row), (⟨false, (IntKind.i64.wrap (x0.Width * x0.Width))⟩ : S_ref07_Row), (⟨false, (IntKind.i64.wrap (x0.Width * x0.Width))⟩ : S_ref07_Row), (⟨false, (IntKind.i64.wrap (x0.Width * x0.Width))⟩ : S_ref07_Row), (⟨false, (IntKind.i64.wrap (x0.Width * x0.Width))⟩ : S_ref07_Row), (⟨true, x0.Width⟩ : S_ref07_Row), (⟨false, (IntKind.i64.wrap (x0.Inner * x0.Width))⟩ : S_ref07_Row), (⟨false, (IntKind.i64.wrap (x0.Width * x0.Inner))⟩ : S_ref07_Row)] : List S_ref07_Row)) Try.underlying125 Try.sizeOf128 Try.zeroValue128 rfl rfl rfl rfl rfl rfl rfl rfl) rfl ?_; clear hc; rintro _ w23 ⟨a22, rfl, hc⟩; replace hp := bind_some hp; obtain ⟨z24, hz24, hp⟩ := hp; obtain ⟨hg25, e26⟩ := app_some hz24; refine rsE (Ctx.append hc (k := 2) rfl rfl (k2 := 0) rfl rfl reads_own Try.underlying125 (i := Try.t128) rfl rfl rfl rfl rfl rfl rfl rfl hg25) rfl ?_; clear hc; rintro _ w29 ⟨a27, q28, rfl, hc⟩; rw [← e26] at hc ⊢; replace hc := Ctx.n2 hc; refine rA (.slice a27 z24.length q28) rfl rfl ?_; refine rn (bn (qn (Wreg ?_))); refine rM (.int .i64 j10) rfl rfl ?_; refine rs (adw rfl rfl) rfl ?_; refine rA (.int .i64 (IntKind.i64.wrap (j10 + 1))) rfl rfl ?_; refine rn (qn ?_); replace hc := Ctx.r0 hc; exact ⟨m1, Nat.lt_succ_self _, ⟨z24, (IntKind.i64.wrap (j10 + 1)), a27, z24.length, q28, rfl, hp, hc⟩, (kl rfl k0)⟩

def ref07_Grown.J3 (j19 : (List Int)) (j24 : Int) (e37 : Int) (k2 : (List Int) → Int → Int → Option ((List Int))) (j39 : Int) : Option ((List Int)) :=
  (app j19 ([(IntKind.i8.wrap j39)])).bind fun z54 =>
  k2 z54 e37 (IntKind.i64.wrap (j24 + 1))

def ref07_Grown.L2 (N : Nat) (r4 : ((List S_ref07_Row))) (j15 : Int) (k1 : (List Int) → Int → Int → Option ((List Int))) : Nat → (List Int) → Int → Int → Option ((List Int))
  | 0, _, _, _ => none
  | m2 + 1, j19, j23, j24 =>
    (idx r4 j15).bind fun y27 =>
    if j24 < y27.N then
      (some (IntKind.u64.wrap ((IntKind.u64.wrap (j23 * 6364136223846793005)) + 1442695040888963407))).bind fun e37 =>
      (some (IntKind.i64.wrap ((IntKind.i64.wrap (IntKind.u64.wrap (Int.tdiv e37 72057594037927936))) - 128))).bind fun e38 =>
      (idx r4 j15).bind fun y40 =>
      if y40.Gain = true then
        (some (IntKind.i64.wrap ((IntKind.i64.wrap (Int.tdiv e38 16)) + 16))).bind fun e50 =>
        ref07_Grown.J3 j19 j24 e37 (ref07_Grown.L2 N r4 j15 k1 m2) e50
      else
        ref07_Grown.J3 j19 j24 e37 (ref07_Grown.L2 N r4 j15 k1 m2) e38
    else
      k1 j19 j23 (IntKind.i64.wrap (j15 + 1))

def ref07_Grown.L1 (N : Nat) (r4 : ((List S_ref07_Row))) : Nat → (List Int) → Int → Int → Option ((List Int))
  | 0, _, _, _ => none
  | m1 + 1, j10, j14, j15 =>
    if j15 < ((r4.length : Nat) : Int) then
      ref07_Grown.L2 N r4 j15 (ref07_Grown.L1 N r4 m1) N j10 j14 0
    else
      some j10

def ref07_Grown (N : Nat) (x0 : S_api_Shape) (x1 : Int) : Option ((List Int)) :=
  (ref07_Rows N (⟨x0.Layers, x0.Width, x0.Heads, x0.Inner, x0.Vocab, x0.Places⟩ : S_api_Shape)).bind fun r4 =>
  ref07_Grown.L1 N r4 N ([]) x1 0

set_option maxHeartbeats 8000000 in
theorem ref07_Grown_any {N : Nat} {x0 : S_api_Shape} {x1 : Int} {Fr : List HP} {w : World} {r : (List Int)} {K : Value → World → Prop}  (hc : Ctx w (Fr)) (hp : ref07_Grown N x0 x1 = some r)
    (k : ∀ (a60 : Option Addr) (n61 : Nat) (q62 : Nat) w', Ctx w' (Own (pInt .i8) 86 (.slice a60 n61 q62) r :: Fr) → K (.slice a60 n61 q62) w') : Calls Try.prog 41 #[.agg #[.int .i64 x0.Layers, .int .i64 x0.Width, .int .i64 x0.Heads, .int .i64 x0.Inner, .int .i64 x0.Vocab, .int .i64 x0.Places], .int .u64 x1] w (Ret K) := by
 unfold ref07_Grown at hp; refine Center (args := [.agg #[.int .i64 x0.Layers, .int .i64 x0.Width, .int .i64 x0.Heads, .int .i64 x0.Inner, .int .i64 x0.Vocab, .int .i64 x0.Places], .int .u64 x1]) (l := [(0, .agg #[.int .i64 x0.Layers, .int .i64 x0.Width, .int .i64 x0.Heads, .int .i64 x0.Inner, .int .i64 x0.Vocab, .int .i64 x0.Places]), (1, .int .u64 x1)]) Try.func41 Try.ntmps41 rfl rfl rfl ?_; refine Wseq (Wreg ?_); refine rsE (Ctx.boxOp (cs := [.int .i64 x0.Layers, .int .i64 x0.Width, .int .i64 x0.Heads, .int .i64 x0.Inner, .int .i64 x0.Vocab, .int .i64 x0.Places]) (v := .agg #[.int .i64 x0.Layers, .int .i64 x0.Width, .int .i64 x0.Heads, .int .i64 x0.Inner, .int .i64 x0.Vocab, .int .i64 x0.Places]) hc rfl rfl) rfl ?_; clear hc; rintro _ w3 ⟨b1, rfl, hc⟩; refine rA (.slice none 0 0) rfl rfl ?_; refine rn (qn (Wseq (Wreg ?_))); refine rA (.slice none 0 0) rfl rfl ?_; refine rn (qn (Wseq (Wreg ?_))); refine rs (v := .agg #[.int .i64 x0.Layers, .int .i64 x0.Width, .int .i64 x0.Heads, .int .i64 x0.Inner, .int .i64 x0.Vocab, .int .i64 x0.Places]) (ldg rfl Try.isAgg35 Try.sizeOf35 rfl (Ctx.cells hc (k := 0) rfl rfl 0 (vs := [.int .i64 x0.Layers, .int .i64 x0.Width, .int .i64 x0.Heads, .int .i64 x0.Inner, .int .i64 x0.Vocab, .int .i64 x0.Places]) rfl)) rfl ?_; replace hp := bind_some hp; obtain ⟨r4, hr4, hp⟩ := hp; refine rc (cl Try.call56 rfl rfl) rfl ?_; refine ref07_Rows_any (x0 := (⟨x0.Layers, x0.Width, x0.Heads, x0.Inner, x0.Vocab, x0.Places⟩ : S_api_Shape)) hc hr4 ?_; clear hc; intro a5 n6 q7 w8 hc; obtain ⟨u9, _⟩ := Ctx.rdLen hc (k := 0) rfl rfl reads_own; subst u9; refine rA (.slice a5 r4.length q7) rfl rfl ?_; refine rn (qn (Wseq (Wreg ?_))); refine rM (.int .u64 x1) rfl rfl ?_; refine rA (.int .u64 x1) rfl rfl ?_; refine rn (qn (Wseq (Wseq (Wreg ?_)))); refine rA (.int .i64 0) rfl rfl ?_; refine rn (qn (Wblk ?_)); replace hc := hc.nilOwn (pInt .i8) 86; replace hc := Ctx.p1 (Ctx.r2 hc); refine Wloop (5 :: 7 :: 8 :: 9 :: 10 :: 14 :: 15 :: 16 :: 17 :: 18 :: 19 :: 20 :: 21 :: 22 :: 23 :: 24 :: 25 :: 26 :: 27 :: 28 :: 29 :: 30 :: 31 :: 32 :: 33 :: 34 :: 35 :: 36 :: 37 :: 38 :: 39 :: 40 :: 41 :: 42 :: 43 :: 44 :: 45 :: 46 :: 47 :: 48 :: []) [5, 7, 8] (fun m vs w' => ∃ j10 : (List Int), ∃ j14 : Int, ∃ j15 : Int, ∃ a11 : Option Addr, ∃ n12 : Nat, ∃ q13 : Nat, vs = [.slice a11 n12 q13, .int .u64 j14, .int .i64 j15] ∧ ref07_Grown.L1 N r4 m j10 j14 j15 = some r ∧ Ctx w' (Own S_ref07_Row.pr 128 (.slice a5 r4.length q7) r4 :: Own (pInt .i8) 86 (.slice a11 n12 q13) j10 :: Fr)) N ?_ ?_
 · exact ⟨[], x1, 0, none, 0, 0, rfl, hp, hc⟩
 · clear hp hc; intro m vs u w16 hJ; obtain ⟨j10, j14, j15, a11, n12, q13, rfl, hp, hc⟩ := hJ; obtain ⟨u17, _⟩ := Ctx.rdLen hc (k := 1) rfl rfl reads_own; subst u17; rcases m with _ | m1
   · cases (show none = some r from hp)
   rw [ref07_Grown.L1] at hp; refine Wseq (Wseq (Wreg ?_)); refine rM (.int .i64 j15) rfl rfl ?_; refine rM (.slice a5 r4.length q7) rfl rfl ?_; refine rs (ln rfl Try.underlying125) rfl ?_; refine rs (lt' rfl rfl) rfl ?_; refine rn (qn ?_); cases hb18 : (decide (j15 < ((r4.length : Nat) : Int)))
   · replace hp := gneg hp (of_decide_eq_false hb18); refine Wcf rfl (Wexit (qx (qx (be (qn (Wseq (Wreg ?_))))))); refine rM (.slice a11 j10.length q13) rfl rfl ?_; refine rA (.slice a11 j10.length q13) rfl rfl ?_; refine rn (qn (Wret ?_)); replace hc := Ctx.r0 hc; injection hp with hp; subst hp; refine f1 (v := .slice a11 j10.length q13) Try.results41 Try.ntmps41 rfl ?_; exact ⟨_, rfl, k _ _ _ _ hc⟩
   · replace hp := gpos hp (of_decide_eq_true hb18); refine Wct rfl (Wskip (qn (Wseq (Wblk (Wseq (Wreg ?_)))))); refine rA (.int .i64 0) rfl rfl ?_; refine rn (qn (Wblk ?_)); refine Wloop (5 :: 7 :: 9 :: 10 :: 20 :: 21 :: 22 :: 23 :: 24 :: 25 :: 26 :: 27 :: 28 :: 29 :: 30 :: 31 :: 32 :: 33 :: 34 :: 35 :: 36 :: 37 :: 38 :: 39 :: 40 :: 41 :: 42 :: 43 :: 44 :: 45 :: 46 :: 47 :: 48 :: []) [5, 7, 9] (fun m vs w' => ∃ j19 : (List Int), ∃ j23 : Int, ∃ j24 : Int, ∃ a20 : Option Addr, ∃ n21 : Nat, ∃ q22 : Nat, vs = [.slice a20 n21 q22, .int .u64 j23, .int .i64 j24] ∧ ref07_Grown.L2 N r4 j15 (ref07_Grown.L1 N r4 m1) m j19 j23 j24 = some r ∧ Ctx w' (Own S_ref07_Row.pr 128 (.slice a5 r4.length q7) r4 :: Own (pInt .i8) 86 (.slice a20 n21 q22) j19 :: Fr)) N ?_ ?_
     · exact ⟨j10, j14, 0, a11, j10.length, q13, rfl, hp, hc⟩
     · clear hp hc; intro m vs u w25 hJ; obtain ⟨j19, j23, j24, a20, n21, q22, rfl, hp, hc⟩ := hJ; obtain ⟨u26, _⟩ := Ctx.rdLen hc (k := 1) rfl rfl reads_own; subst u26; rcases m with _ | m2
       · cases (show none = some r from hp)
       rw [ref07_Grown.L2] at hp; refine Wseq (Wseq (Wreg ?_)); refine rM (.int .i64 j24) rfl rfl ?_; refine rM (.slice a5 r4.length q7) rfl rfl ?_; refine rM (.int .i64 j15) rfl rfl ?_; replace hp := bind_some hp; obtain ⟨y27, hy27, hp⟩ := hp; obtain ⟨b30, o31, u32, hi28, hi29⟩ := Ctx.rdAt hc (k := 0) rfl rfl reads_own hy27; subst u32; refine rs (ixx rfl rfl Try.underlying125 Try.sizeOf128 hi28 hi29 rfl) rfl ?_; refine rs (v := .pointer (some ⟨b30, o31 + (j15).toNat * 2 + 1, none⟩)) (fax 1 rfl Try.underlying128 rfl Try.sizeOf3 rfl rfl rfl) rfl ?_; replace hc := Ctx.rdCell hc (k := 0) rfl rfl reads_own hy27; obtain ⟨cs33, hc, hcell34⟩ := hc; replace hc := Ctx.holdC hc; obtain ⟨u35, hc⟩ := hc; subst u35; refine rs (ld rfl Try.isAgg3 (hcell34 1 _ rfl)) rfl ?_; refine rs (lt' rfl rfl) rfl ?_; refine rn (qn ?_); cases hb36 : (decide (j24 < y27.N))
       · replace hp := gneg hp (of_decide_eq_false hb36); refine Wcf rfl (Wexit (qx (qx (be (bn (qn (Wreg ?_))))))); refine rM (.int .i64 j15) rfl rfl ?_; refine rs (adw rfl rfl) rfl ?_; refine rA (.int .i64 (IntKind.i64.wrap (j15 + 1))) rfl rfl ?_; refine rn (qn ?_); exact ⟨m1, Nat.lt_succ_self _, ⟨j19, j23, (IntKind.i64.wrap (j15 + 1)), a20, j19.length, q22, rfl, hp, hc⟩, (kl rfl (km rfl (kl rfl k0)))⟩
       · replace hp := gpos hp (of_decide_eq_true hb36); refine Wct rfl (Wskip (qn (Wseq (Wblk (Wseq (Wreg ?_)))))); refine rM (.int .u64 j23) rfl rfl ?_; refine rs (mlw rfl rfl) rfl ?_; refine rs (adw rfl rfl) rfl ?_; replace hp := bind_some hp; obtain ⟨e37, he37, hp⟩ := hp; injection he37 with he37; refine rs (v := .int .u64 e37) (av (v := .int .u64 e37) (by rw [← he37]; rfl)) rfl ?_; refine rn (qn (Wseq (Wreg ?_))); refine rM (.int .u64 e37) rfl rfl ?_; refine rs (quw rfl rfl (by decide)) rfl ?_; refine rs (cvi rfl Try.underlying23 Try.underlying3) rfl ?_; refine rs (sbw rfl rfl) rfl ?_; replace hp := bind_some hp; obtain ⟨e38, he38, hp⟩ := hp; injection he38 with he38; refine rs (v := .int .i64 e38) (av (v := .int .i64 e38) (by rw [← he38]; rfl)) rfl ?_; refine rn (qn ?_); refine Wseqm [10, 36, 37, 38, 39, 40, 41, 42, 43] [10] (fun vs w' => ∃ j39 : Int, vs = [.int .i64 j39] ∧ ref07_Grown.J3 j19 j24 e37 (ref07_Grown.L2 N r4 j15 (ref07_Grown.L1 N r4 m1) m2) j39 = some r ∧ Ctx w' (Own S_ref07_Row.pr 128 (.slice (some ⟨b30, o31, none⟩) r4.length q7) r4 :: Own (pInt .i8) 86 (.slice a20 j19.length q22) j19 :: Fr)) ?_ ?_
         · refine Wseq (Wreg ?_); refine rM (.slice (some ⟨b30, o31, none⟩) r4.length q7) rfl rfl ?_; refine rM (.int .i64 j15) rfl rfl ?_; replace hp := bind_some hp; obtain ⟨y40, hy40, hp⟩ := hp; obtain ⟨b43, o44, u45, hi41, hi42⟩ := Ctx.rdAt hc (k := 0) rfl rfl reads_own hy40; clear u45; refine rs (ixx rfl rfl Try.underlying125 Try.sizeOf128 hi41 hi42 rfl) rfl ?_; refine rs (v := .pointer (some ⟨b30, o31 + (j15).toNat * 2 + 0, none⟩)) (fax 0 rfl Try.underlying128 rfl Try.sizeOf4 rfl rfl rfl) rfl ?_; replace hc := Ctx.rdCell hc (k := 0) rfl rfl reads_own hy40; obtain ⟨cs46, hc, hcell47⟩ := hc; replace hc := Ctx.holdC hc; obtain ⟨u48, hc⟩ := hc; subst u48; refine rs (ld rfl Try.isAgg4 (hcell47 0 _ rfl)) rfl ?_; refine rn (qn ?_); cases hb49 : y40.Gain
           · replace hp := gneg hp (by rw [hb49]; exact Bool.false_ne_true); refine Wcf rfl (Wskip (qn ?_)); exact ⟨⟨e38, rfl, hp, hc⟩, (kl rfl kb)⟩
           · replace hp := gpos hp hb49; refine Wct rfl (Wreg ?_); refine rM (.int .i64 e38) rfl rfl ?_; refine rs (quw rfl rfl (by decide)) rfl ?_; refine rs (adw rfl rfl) rfl ?_; replace hp := bind_some hp; obtain ⟨e50, he50, hp⟩ := hp; injection he50 with he50; refine rs (v := .int .i64 e50) (av (v := .int .i64 e50) (by rw [← he50]; rfl)) rfl ?_; refine rn (qn ?_); exact ⟨⟨e50, rfl, hp, hc⟩, (kl rfl kb)⟩
         · clear hp hc; intro vs u w51 hJ; obtain ⟨j39, rfl, hp, hc⟩ := hJ; unfold ref07_Grown.J3 at hp; refine Wreg ?_; refine rM (.slice a20 j19.length q22) rfl rfl ?_; refine rM (.int .i64 j39) rfl rfl ?_; refine rs (cvi rfl Try.underlying3 Try.underlying86) rfl ?_; refine rsE (Ctx.builtOp (css := [[.int .i8 (IntKind.i8.wrap j39)]]) (xs := ([(IntKind.i8.wrap j39)] : List Int)) (E := (pInt .i8)) (Ctx.holdsC (f := fun x : Int => [.int .i8 x]) (fun _ _ _ => rfl) hc ([(IntKind.i8.wrap j39)] : List Int)) Try.underlying24 Try.sizeOf86 Try.zeroValue86 rfl rfl rfl rfl rfl rfl rfl rfl) rfl ?_; clear hc; rintro _ w53 ⟨a52, rfl, hc⟩; replace hp := bind_some hp; obtain ⟨z54, hz54, hp⟩ := hp; obtain ⟨hg55, e56⟩ := app_some hz54; refine rsE (Ctx.append hc (k := 2) rfl rfl (k2 := 0) rfl rfl reads_own Try.underlying24 (i := Try.t86) rfl rfl rfl rfl rfl rfl rfl rfl hg55) rfl ?_; clear hc; rintro _ w59 ⟨a57, q58, rfl, hc⟩; rw [← e56] at hc ⊢; replace hc := Ctx.n2 hc; refine rA (.slice a57 z54.length q58) rfl rfl ?_; refine rn (bn (qn (Wreg ?_))); refine rM (.int .i64 j24) rfl rfl ?_; refine rs (adw rfl rfl) rfl ?_; refine rA (.int .i64 (IntKind.i64.wrap (j24 + 1))) rfl rfl ?_; refine rn (qn ?_); replace hc := Ctx.r0 hc; exact ⟨m2, Nat.lt_succ_self _, ⟨z54, e37, (IntKind.i64.wrap (j24 + 1)), a57, z54.length, q58, rfl, hp, hc⟩, (kl rfl (km rfl (kl rfl k0)))⟩

def ref08_Made.J2 (N : Nat) (x2 : (List Int)) (r7 : (S_api_Shape)) (j19 : (List Int)) (j23 : Int) (k1 : (List Int) → Int → Option (S_api_Weights)) (j25 : Bool) : Option (S_api_Weights) :=
  if j25 = true then
    (idx x2 j23).bind fun y48 =>
    (idx j19 j23).bind fun y57 =>
    k1 (j19.set (j23).toNat y48) (IntKind.i64.wrap (j23 + 1))
  else
    (ref08_Of N (⟨r7.Layers, r7.Width, r7.Heads, r7.Inner, r7.Vocab, r7.Places⟩ : S_api_Shape) j19).bind fun r29 =>
    some (⟨(⟨r29.Shape.Layers, r29.Shape.Width, r29.Shape.Heads, r29.Shape.Inner, r29.Shape.Vocab, r29.Shape.Places⟩ : S_api_Shape), (⟨r29.Embed.Rows, r29.Embed.Cols, r29.Embed.V⟩ : S_api_Mat), r29.Blocks, r29.Last, (⟨r29.Head.Rows, r29.Head.Cols, r29.Head.V⟩ : S_api_Mat)⟩ : S_api_Weights)

def ref08_Made.L1 (N : Nat) (x2 : (List Int)) (r7 : (S_api_Shape)) (r13 : ((List Int))) : Nat → (List Int) → Int → Option (S_api_Weights)
  | 0, _, _ => none
  | m1 + 1, j19, j23 =>
    if j23 < ((r13.length : Nat) : Int) then
      ref08_Made.J2 N x2 r7 j19 j23 (ref08_Made.L1 N x2 r7 r13 m1) (decide (j23 < ((x2.length : Nat) : Int)))
    else
      ref08_Made.J2 N x2 r7 j19 j23 (ref08_Made.L1 N x2 r7 r13 m1) false

def ref08_Made (N : Nat) (x0 : A6_i64) (x1 : Int) (x2 : (List Int)) : Option (S_api_Weights) :=
  (ref07_Tiny (⟨x0.c0, x0.c1, x0.c2, x0.c3, x0.c4, x0.c5⟩ : A6_i64)).bind fun r7 =>
  (ref07_Grown N (⟨r7.Layers, r7.Width, r7.Heads, r7.Inner, r7.Vocab, r7.Places⟩ : S_api_Shape) x1).bind fun r13 =>
  ref08_Made.L1 N x2 r7 r13 N r13 0

set_option maxHeartbeats 8000000 in
theorem ref08_Made_any {N : Nat} {x0 : A6_i64} {x1 : Int} {x2 : (List Int)} {ax2 : Option Addr} {nx2 : Nat} {qx2 : Nat} {P2 : HP} {Fr : List HP} {w : World} {r : S_api_Weights} {K : Value → World → Prop} (hrd2 : Reads P2 (pInt .i8) (.slice ax2 nx2 qx2) x2) (hc : Ctx w (P2 :: Fr)) (hp : ref08_Made N x0 x1 x2 = some r)
    (k : ∀ (a64 : Option Addr) (n65 : Nat) (q66 : Nat) (a67 : Option Addr) (n68 : Nat) (q69 : Nat) (a70 : Option Addr) (n71 : Nat) (q72 : Nat) (a73 : Option Addr) (n74 : Nat) (q75 : Nat) w', Ctx w' (Hold (pRo (pInt .i8)) [.slice a64 n65 q66] r.Embed.V :: Hold (pRo S_api_Block.pr) [.slice a67 n68 q69] r.Blocks :: Hold (pRo (pInt .i8)) [.slice a70 n71 q72] r.Last :: Hold (pRo (pInt .i8)) [.slice a73 n74 q75] r.Head.V :: P2 :: Fr) → K (.agg #[.int .i64 r.Shape.Layers, .int .i64 r.Shape.Width, .int .i64 r.Shape.Heads, .int .i64 r.Shape.Inner, .int .i64 r.Shape.Vocab, .int .i64 r.Shape.Places, .int .i64 r.Embed.Rows, .int .i64 r.Embed.Cols, .slice a64 n65 q66, .slice a67 n68 q69, .slice a70 n71 q72, .int .i64 r.Head.Rows, .int .i64 r.Head.Cols, .slice a73 n74 q75]) w') : Calls Try.prog 27 #[.agg #[.int .i64 x0.c0, .int .i64 x0.c1, .int .i64 x0.c2, .int .i64 x0.c3, .int .i64 x0.c4, .int .i64 x0.c5], .int .u64 x1, .slice ax2 nx2 qx2] w (Ret K) := by
 unfold ref08_Made at hp; refine Center (args := [.agg #[.int .i64 x0.c0, .int .i64 x0.c1, .int .i64 x0.c2, .int .i64 x0.c3, .int .i64 x0.c4, .int .i64 x0.c5], .int .u64 x1, .slice ax2 nx2 qx2]) (l := [(0, .agg #[.int .i64 x0.c0, .int .i64 x0.c1, .int .i64 x0.c2, .int .i64 x0.c3, .int .i64 x0.c4, .int .i64 x0.c5]), (1, .int .u64 x1), (2, .slice ax2 nx2 qx2)]) Try.func27 Try.ntmps27 rfl rfl rfl ?_; obtain ⟨hn2, _⟩ := Ctx.rdLen hc (k := 0) rfl rfl hrd2; subst hn2; refine Wseq (Wreg ?_); refine rsE (Ctx.boxOp (cs := [.int .i64 x0.c0, .int .i64 x0.c1, .int .i64 x0.c2, .int .i64 x0.c3, .int .i64 x0.c4, .int .i64 x0.c5]) (v := .agg #[.int .i64 x0.c0, .int .i64 x0.c1, .int .i64 x0.c2, .int .i64 x0.c3, .int .i64 x0.c4, .int .i64 x0.c5]) hc rfl rfl) rfl ?_; clear hc; rintro _ w3 ⟨b1, rfl, hc⟩; refine rsE (Ctx.allocOp (cs := [.int .i64 0, .int .i64 0, .int .i64 0, .int .i64 0, .int .i64 0, .int .i64 0, .int .i64 0, .int .i64 0, .slice none 0 0, .slice none 0 0, .slice none 0 0, .int .i64 0, .int .i64 0, .slice none 0 0]) hc Try.zeroValue57 rfl) rfl ?_; clear hc; rintro _ w6 ⟨b4, rfl, hc⟩; refine rn (qn (Wseq (Wreg ?_))); refine rs (v := .agg #[.int .i64 x0.c0, .int .i64 x0.c1, .int .i64 x0.c2, .int .i64 x0.c3, .int .i64 x0.c4, .int .i64 x0.c5]) (ldg rfl Try.isAgg22 Try.sizeOf22 rfl (Ctx.cells hc (k := 1) rfl rfl 0 (vs := [.int .i64 x0.c0, .int .i64 x0.c1, .int .i64 x0.c2, .int .i64 x0.c3, .int .i64 x0.c4, .int .i64 x0.c5]) rfl)) rfl ?_; replace hp := bind_some hp; obtain ⟨r7, hr7, hp⟩ := hp; refine rc (cl Try.call40 rfl rfl) rfl ?_; refine ref07_Tiny_any (x0 := (⟨x0.c0, x0.c1, x0.c2, x0.c3, x0.c4, x0.c5⟩ : A6_i64)) hc hr7 ?_; clear hc; intro w8 hc; refine rsE (Ctx.allocOp (cs := [.int .i64 0, .int .i64 0, .int .i64 0, .int .i64 0, .int .i64 0, .int .i64 0]) hc Try.zeroValue35 rfl) rfl ?_; clear hc; rintro _ w11 ⟨b9, rfl, hc⟩; refine ruE (Ctx.putAgg hc (k := 0) rfl rfl (vs := [.int .i64 r7.Layers, .int .i64 r7.Width, .int .i64 r7.Heads, .int .i64 r7.Inner, .int .i64 r7.Vocab, .int .i64 r7.Places]) (cs' := [.int .i64 r7.Layers, .int .i64 r7.Width, .int .i64 r7.Heads, .int .i64 r7.Inner, .int .i64 r7.Vocab, .int .i64 r7.Places]) rfl rfl rfl Try.sizeOf35 rfl rfl rfl) rfl ?_; clear hc; rintro w12 hc; replace hc := Ctx.n0 hc; refine rn (qn (Wseq (Wreg ?_))); refine rs (v := .agg #[.int .i64 r7.Layers, .int .i64 r7.Width, .int .i64 r7.Heads, .int .i64 r7.Inner, .int .i64 r7.Vocab, .int .i64 r7.Places]) (ldg rfl Try.isAgg35 Try.sizeOf35 rfl (Ctx.cells hc (k := 0) rfl rfl 0 (vs := [.int .i64 r7.Layers, .int .i64 r7.Width, .int .i64 r7.Heads, .int .i64 r7.Inner, .int .i64 r7.Vocab, .int .i64 r7.Places]) rfl)) rfl ?_; refine rM (.int .u64 x1) rfl rfl ?_; replace hp := bind_some hp; obtain ⟨r13, hr13, hp⟩ := hp; refine rc (cl Try.call41 rfl rfl) rfl ?_; refine ref07_Grown_any (x0 := (⟨r7.Layers, r7.Width, r7.Heads, r7.Inner, r7.Vocab, r7.Places⟩ : S_api_Shape)) hc hr13 ?_; clear hc; intro a14 n15 q16 w17 hc; obtain ⟨u18, _⟩ := Ctx.rdLen hc (k := 0) rfl rfl reads_own; subst u18; refine rA (.slice a14 r13.length q16) rfl rfl ?_; refine rn (qn (Wseq (Wseq (Wreg ?_)))); refine rA (.int .i64 0) rfl rfl ?_; refine rn (qn (Wblk ?_)); replace hc := Ctx.r3 hc; refine Wloop [9, 15, 16, 17, 18, 19, 20, 21, 22, 23, 24, 25, 26, 27, 28, 29, 30, 31, 32, 33] [9] (fun m vs w' => ∃ j19 : (List Int), ∃ j23 : Int, vs = [.int .i64 j23] ∧ ref08_Made.L1 N x2 r7 r13 m j19 j23 = some r ∧ Ctx w' (Own (pInt .i8) 86 (.slice a14 r13.length q16) j19 :: B b9 [.int .i64 r7.Layers, .int .i64 r7.Width, .int .i64 r7.Heads, .int .i64 r7.Inner, .int .i64 r7.Vocab, .int .i64 r7.Places] 35 :: B b4 [.int .i64 0, .int .i64 0, .int .i64 0, .int .i64 0, .int .i64 0, .int .i64 0, .int .i64 0, .int .i64 0, .slice none 0 0, .slice none 0 0, .slice none 0 0, .int .i64 0, .int .i64 0, .slice none 0 0] 57 :: P2 :: Fr)) N ?_ ?_
 · exact ⟨r13, 0, rfl, hp, hc⟩
 · clear hp hc; intro m vs u w24 hJ; obtain ⟨j19, j23, rfl, hp, hc⟩ := hJ; rcases m with _ | m1
   · cases (show none = some r from hp)
   rw [ref08_Made.L1] at hp; refine Wseq ?_; refine Wseqm [15, 16, 17, 18, 19, 20, 21, 22, 23, 24] [24] (fun vs w' => ∃ j25 : Bool, vs = [.bool j25] ∧ ref08_Made.J2 N x2 r7 j19 j23 (ref08_Made.L1 N x2 r7 r13 m1) j25 = some r ∧ Ctx w' (Own (pInt .i8) 86 (.slice a14 r13.length q16) j19 :: B b9 [.int .i64 r7.Layers, .int .i64 r7.Width, .int .i64 r7.Heads, .int .i64 r7.Inner, .int .i64 r7.Vocab, .int .i64 r7.Places] 35 :: B b4 [.int .i64 0, .int .i64 0, .int .i64 0, .int .i64 0, .int .i64 0, .int .i64 0, .int .i64 0, .int .i64 0, .slice none 0 0, .slice none 0 0, .slice none 0 0, .int .i64 0, .int .i64 0, .slice none 0 0] 57 :: P2 :: Fr)) ?_ ?_
   · refine Wreg ?_; refine rM (.int .i64 j23) rfl rfl ?_; refine rM (.slice a14 r13.length q16) rfl rfl ?_; refine rs (ln rfl Try.underlying24) rfl ?_; refine rs (lt' rfl rfl) rfl ?_; refine rM (.bool (decide (j23 < ((r13.length : Nat) : Int)))) rfl rfl ?_; cases hb26 : (decide (j23 < ((r13.length : Nat) : Int)))
     · replace hp := gneg hp (of_decide_eq_false hb26); (iterate 4 refine r0 rfl ?_); refine rs (v := .bool false) (pkf (v := .bool false) rfl rfl) rfl ?_; refine rn (qn ?_); exact ⟨⟨false, rfl, hp, hc⟩, (kl rfl kb)⟩
     · replace hp := gpos hp (of_decide_eq_true hb26); refine rM (.int .i64 j23) rfl rfl ?_; refine rM (.slice ax2 x2.length qx2) rfl rfl ?_; refine rs (ln rfl Try.underlying24) rfl ?_; refine rs (lt' rfl rfl) rfl ?_; refine rs (v := .bool (decide (j23 < ((x2.length : Nat) : Int)))) (pkt (v := .bool (decide (j23 < ((x2.length : Nat) : Int)))) rfl rfl) rfl ?_; refine rn (qn ?_); exact ⟨⟨decide (j23 < ((x2.length : Nat) : Int)), rfl, hp, hc⟩, (kl rfl kb)⟩
   · clear hp hc; intro vs u w27 hJ; obtain ⟨j25, rfl, hp, hc⟩ := hJ; unfold ref08_Made.J2 at hp; cases hb28 : j25
     · replace hp := gneg hp (by rw [hb28]; exact Bool.false_ne_true); subst hb28; refine Wcf rfl (Wexit (qx (qx (be (qn (Wseq (Wreg ?_))))))); refine rs (v := .agg #[.int .i64 r7.Layers, .int .i64 r7.Width, .int .i64 r7.Heads, .int .i64 r7.Inner, .int .i64 r7.Vocab, .int .i64 r7.Places]) (ldg rfl Try.isAgg35 Try.sizeOf35 rfl (Ctx.cells hc (k := 1) rfl rfl 0 (vs := [.int .i64 r7.Layers, .int .i64 r7.Width, .int .i64 r7.Heads, .int .i64 r7.Inner, .int .i64 r7.Vocab, .int .i64 r7.Places]) rfl)) rfl ?_; refine rM (.slice a14 r13.length q16) rfl rfl ?_; replace hp := bind_some hp; obtain ⟨r29, hr29, hp⟩ := hp; refine rc (cl Try.call26 rfl rfl) rfl ?_; refine ref08_Of_any (x0 := (⟨r7.Layers, r7.Width, r7.Heads, r7.Inner, r7.Vocab, r7.Places⟩ : S_api_Shape)) hc hr29 ?_; clear hc; intro a30 n31 q32 a33 n34 q35 a36 n37 q38 a39 n40 q41 w42 hc; obtain ⟨u43, _⟩ := Ctx.rdLen hc (k := 0) rfl rfl reads_ro; subst u43; obtain ⟨u44, _⟩ := Ctx.rdLen hc (k := 1) rfl rfl reads_ro; subst u44; obtain ⟨u45, _⟩ := Ctx.rdLen hc (k := 2) rfl rfl reads_ro; subst u45; obtain ⟨u46, _⟩ := Ctx.rdLen hc (k := 3) rfl rfl reads_ro; subst u46; refine ruE (Ctx.putAgg hc (k := 5) rfl rfl (vs := [.int .i64 r29.Shape.Layers, .int .i64 r29.Shape.Width, .int .i64 r29.Shape.Heads, .int .i64 r29.Shape.Inner, .int .i64 r29.Shape.Vocab, .int .i64 r29.Shape.Places, .int .i64 r29.Embed.Rows, .int .i64 r29.Embed.Cols, .slice a30 r29.Embed.V.length q32, .slice a33 r29.Blocks.length q35, .slice a36 r29.Last.length q38, .int .i64 r29.Head.Rows, .int .i64 r29.Head.Cols, .slice a39 r29.Head.V.length q41]) (cs' := [.int .i64 r29.Shape.Layers, .int .i64 r29.Shape.Width, .int .i64 r29.Shape.Heads, .int .i64 r29.Shape.Inner, .int .i64 r29.Shape.Vocab, .int .i64 r29.Shape.Places, .int .i64 r29.Embed.Rows, .int .i64 r29.Embed.Cols, .slice a30 r29.Embed.V.length q32, .slice a33 r29.Blocks.length q35, .slice a36 r29.Last.length q38, .int .i64 r29.Head.Rows, .int .i64 r29.Head.Cols, .slice a39 r29.Head.V.length q41]) rfl rfl rfl Try.sizeOf57 rfl rfl rfl) rfl ?_; clear hc; rintro w47 hc; replace hc := Ctx.n5 hc; refine rn (qn (Wret ?_)); have hres := Ctx.cells hc (k := 5) rfl rfl 0 (vs := [.int .i64 r29.Shape.Layers, .int .i64 r29.Shape.Width, .int .i64 r29.Shape.Heads, .int .i64 r29.Shape.Inner, .int .i64 r29.Shape.Vocab, .int .i64 r29.Shape.Places, .int .i64 r29.Embed.Rows, .int .i64 r29.Embed.Cols, .slice a30 r29.Embed.V.length q32, .slice a33 r29.Blocks.length q35, .slice a36 r29.Last.length q38, .int .i64 r29.Head.Rows, .int .i64 r29.Head.Cols, .slice a39 r29.Head.V.length q41]) rfl; replace hc := hc.dup (k := 0) rfl rfl; replace hc := hc.dup (k := 2) rfl rfl; replace hc := hc.dup (k := 4) rfl rfl; replace hc := hc.dup (k := 6) rfl rfl; replace hc := Ctx.p4 (Ctx.p3 (Ctx.p2 (Ctx.p1 (Ctx.p4 (Ctx.r4 (Ctx.r5 (Ctx.r6 (Ctx.r7 (Ctx.r8 (Ctx.r9 hc)))))))))); injection hp with hp; subst hp; refine f1c (cs := [.int .i64 r29.Shape.Layers, .int .i64 r29.Shape.Width, .int .i64 r29.Shape.Heads, .int .i64 r29.Shape.Inner, .int .i64 r29.Shape.Vocab, .int .i64 r29.Shape.Places, .int .i64 r29.Embed.Rows, .int .i64 r29.Embed.Cols, .slice a30 r29.Embed.V.length q32, .slice a33 r29.Blocks.length q35, .slice a36 r29.Last.length q38, .int .i64 r29.Head.Rows, .int .i64 r29.Head.Cols, .slice a39 r29.Head.V.length q41]) Try.results27 Try.ntmps27 rfl Try.isAgg57 Try.sizeOf57 rfl hres ?_; exact ⟨_, rfl, k _ _ _ _ _ _ _ _ _ _ _ _ _ hc⟩
     · replace hp := gpos hp hb28; subst hb28; refine Wct rfl (Wskip (qn (Wseq (Wblk (Wreg ?_))))); refine rM (.slice a14 r13.length q16) rfl rfl ?_; refine rM (.int .i64 j23) rfl rfl ?_; refine rM (.slice ax2 x2.length qx2) rfl rfl ?_; refine rM (.int .i64 j23) rfl rfl ?_; replace hp := bind_some hp; obtain ⟨y48, hy48, hp⟩ := hp; obtain ⟨b51, o52, u53, hi49, hi50⟩ := Ctx.rdAt hc (k := 3) rfl rfl hrd2 hy48; subst u53; refine rs (ixx rfl rfl Try.underlying24 Try.sizeOf86 hi49 hi50 rfl) rfl ?_; replace hc := Ctx.rdCell hc (k := 3) rfl rfl hrd2 hy48; obtain ⟨cs54, hc, hcell55⟩ := hc; replace hc := Ctx.holdC hc; obtain ⟨u56, hc⟩ := hc; subst u56; refine rs (ld rfl Try.isAgg86 (hcell55 0 _ rfl)) rfl ?_; replace hp := bind_some hp; obtain ⟨y57, hy57, hp⟩ := hp; obtain ⟨b60, o61, u62, hi58, hi59⟩ := Ctx.rdAt hc (k := 0) rfl rfl reads_own hy57; subst u62; refine rs (ixx rfl rfl Try.underlying24 Try.sizeOf86 hi58 hi59 rfl) rfl ?_; refine ruE (Ctx.ownPutOp hc (k := 0) rfl rfl (z := y57) (z' := y48) hy57 0 rfl (u := .int .i8 y48) rfl rfl rfl Try.sizeOf86 (fun _ _ _ h => by cases h; rfl) rfl) rfl ?_; clear hc; rintro w63 hc; replace hc := Ctx.n0 hc; refine rn (bn (qn (Wreg ?_))); refine rM (.int .i64 j23) rfl rfl ?_; refine rs (adw rfl rfl) rfl ?_; refine rA (.int .i64 (IntKind.i64.wrap (j23 + 1))) rfl rfl ?_; refine rn (qn ?_); exact ⟨m1, Nat.lt_succ_self _, ⟨(j19.set (j23).toNat y48), (IntKind.i64.wrap (j23 + 1)), rfl, hp, hc⟩, (kl rfl (km rfl (kl rfl k0)))⟩

theorem bd_72_0 {ρ : Operand → Value} {w : World} {dst : Option Nat} {ty : TypeId} {pos : String} {after : Array Edge} {g : Option (Nat × Bool)} {x0 : Operand} {c0_0 c0_1 c0_2 c0_3 c0_4 c0_5 c0_6 c0_7 c0_8 c0_9 c0_10 c0_11 c0_12 c0_13 : Value} (h0 : ρ x0 = .agg #[c0_0, c0_1, c0_2, c0_3, c0_4, c0_5, c0_6, c0_7, c0_8, c0_9, c0_10, c0_11, c0_12, c0_13]) :
    (execOp ρ ⟨dst, .build 72 #[(0, x0)], ty, pos, after, g⟩).run Try.prog w = .ok (.value (.agg #[c0_0, c0_1, c0_2, c0_3, c0_4, c0_5, c0_6, c0_7, c0_8, c0_9, c0_10, c0_11, c0_12, c0_13, (.slice none 0 0)])) w := by
  simp [execOp, Instr.build, Instr.fill, Try.zeroValue72, Try.runUnderlying72, Try.sizeOf57, Try.sizeOf70, h0, Value.cells]

def law08_made (N : Nat) (x0 : A6_i64) (x1 : Int) (x2 : (List Int)) : Option ((Option S_model_Model) × (Option S_ref08_Run)) :=
  (ref08_Made N (⟨x0.c0, x0.c1, x0.c2, x0.c3, x0.c4, x0.c5⟩ : A6_i64) x1 x2).bind fun r4 =>
  (model_New N (⟨(⟨r4.Shape.Layers, r4.Shape.Width, r4.Shape.Heads, r4.Shape.Inner, r4.Shape.Vocab, r4.Shape.Places⟩ : S_api_Shape), (⟨r4.Embed.Rows, r4.Embed.Cols, r4.Embed.V⟩ : S_api_Mat), r4.Blocks, r4.Last, (⟨r4.Head.Rows, r4.Head.Cols, r4.Head.V⟩ : S_api_Mat)⟩ : S_api_Weights)).bind fun r26 =>
  if r26.2 ≠ 0 then
    some (none, none)
  else
    optc r26.1 (
      some (none, none)) fun y32 =>
      (model_Model_Shape r26.1).bind fun r46 =>
      if (!decide (r46 = (⟨r4.Shape.Layers, r4.Shape.Width, r4.Shape.Heads, r4.Shape.Inner, r4.Shape.Vocab, r4.Shape.Places⟩ : S_api_Shape))) = true then
        some (none, none)
      else
        some (r26.1, (some (⟨(⟨(⟨r4.Shape.Layers, r4.Shape.Width, r4.Shape.Heads, r4.Shape.Inner, r4.Shape.Vocab, r4.Shape.Places⟩ : S_api_Shape), (⟨r4.Embed.Rows, r4.Embed.Cols, r4.Embed.V⟩ : S_api_Mat), r4.Blocks, r4.Last, (⟨r4.Head.Rows, r4.Head.Cols, r4.Head.V⟩ : S_api_Mat)⟩ : S_api_Weights), []⟩ : S_ref08_Run)))

set_option maxHeartbeats 8000000 in
theorem law08_made_any {N : Nat} {x0 : A6_i64} {x1 : Int} {x2 : (List Int)} {ax2 : Option Addr} {nx2 : Nat} {qx2 : Nat} {P2 : HP} {Fr : List HP} {w : World} {r : (Option S_model_Model) × (Option S_ref08_Run)} {K : Value → World → Prop} (hrd2 : Reads P2 (pInt .i8) (.slice ax2 nx2 qx2) x2) (hc : Ctx w (P2 :: Fr)) (hp : law08_made N x0 x1 x2 = some r)
    (k : ∀ (v53 : Value) (v54 : Value) w', Ctx w' (Hold (pPo S_model_Model.pr) [v53] r.1 :: PtO S_ref08_Run.hp v54 r.2 :: P2 :: Fr) → K (.tuple #[v53, v54]) w') : Calls Try.prog 8 #[.agg #[.int .i64 x0.c0, .int .i64 x0.c1, .int .i64 x0.c2, .int .i64 x0.c3, .int .i64 x0.c4, .int .i64 x0.c5], .int .u64 x1, .slice ax2 nx2 qx2] w (Ret K) := by
 unfold law08_made at hp; refine Center (args := [.agg #[.int .i64 x0.c0, .int .i64 x0.c1, .int .i64 x0.c2, .int .i64 x0.c3, .int .i64 x0.c4, .int .i64 x0.c5], .int .u64 x1, .slice ax2 nx2 qx2]) (l := [(0, .agg #[.int .i64 x0.c0, .int .i64 x0.c1, .int .i64 x0.c2, .int .i64 x0.c3, .int .i64 x0.c4, .int .i64 x0.c5]), (1, .int .u64 x1), (2, .slice ax2 nx2 qx2)]) Try.func8 Try.ntmps8 rfl rfl rfl ?_; obtain ⟨hn2, _⟩ := Ctx.rdLen hc (k := 0) rfl rfl hrd2; subst hn2; refine Wseq (Wreg ?_); refine rsE (Ctx.boxOp (cs := [.int .i64 x0.c0, .int .i64 x0.c1, .int .i64 x0.c2, .int .i64 x0.c3, .int .i64 x0.c4, .int .i64 x0.c5]) (v := .agg #[.int .i64 x0.c0, .int .i64 x0.c1, .int .i64 x0.c2, .int .i64 x0.c3, .int .i64 x0.c4, .int .i64 x0.c5]) hc rfl rfl) rfl ?_; clear hc; rintro _ w3 ⟨b1, rfl, hc⟩; refine rA (.pointer none) rfl rfl ?_; refine rA (.pointer none) rfl rfl ?_; refine rn (qn (Wseq (Wreg ?_))); refine rs (v := .agg #[.int .i64 x0.c0, .int .i64 x0.c1, .int .i64 x0.c2, .int .i64 x0.c3, .int .i64 x0.c4, .int .i64 x0.c5]) (ldg rfl Try.isAgg22 Try.sizeOf22 rfl (Ctx.cells hc (k := 0) rfl rfl 0 (vs := [.int .i64 x0.c0, .int .i64 x0.c1, .int .i64 x0.c2, .int .i64 x0.c3, .int .i64 x0.c4, .int .i64 x0.c5]) rfl)) rfl ?_; refine rM (.int .u64 x1) rfl rfl ?_; refine rM (.slice ax2 x2.length qx2) rfl rfl ?_; replace hp := bind_some hp; obtain ⟨r4, hr4, hp⟩ := hp; replace hc := Ctx.p1 hc; refine rc (cl Try.call27 rfl rfl) rfl ?_; refine ref08_Made_any (x0 := (⟨x0.c0, x0.c1, x0.c2, x0.c3, x0.c4, x0.c5⟩ : A6_i64)) hrd2 hc hr4 ?_; clear hc; intro a5 n6 q7 a8 n9 q10 a11 n12 q13 a14 n15 q16 w17 hc; obtain ⟨u18, _⟩ := Ctx.rdLen hc (k := 0) rfl rfl reads_ro; subst u18; obtain ⟨u19, _⟩ := Ctx.rdLen hc (k := 1) rfl rfl reads_ro; subst u19; obtain ⟨u20, _⟩ := Ctx.rdLen hc (k := 2) rfl rfl reads_ro; subst u20; obtain ⟨u21, _⟩ := Ctx.rdLen hc (k := 3) rfl rfl reads_ro; subst u21; refine rsE (Ctx.allocOp (cs := [.int .i64 0, .int .i64 0, .int .i64 0, .int .i64 0, .int .i64 0, .int .i64 0, .int .i64 0, .int .i64 0, .slice none 0 0, .slice none 0 0, .slice none 0 0, .int .i64 0, .int .i64 0, .slice none 0 0]) hc Try.zeroValue57 rfl) rfl ?_; clear hc; rintro _ w24 ⟨b22, rfl, hc⟩; refine ruE (Ctx.putAgg hc (k := 0) rfl rfl (vs := [.int .i64 r4.Shape.Layers, .int .i64 r4.Shape.Width, .int .i64 r4.Shape.Heads, .int .i64 r4.Shape.Inner, .int .i64 r4.Shape.Vocab, .int .i64 r4.Shape.Places, .int .i64 r4.Embed.Rows, .int .i64 r4.Embed.Cols, .slice a5 r4.Embed.V.length q7, .slice a8 r4.Blocks.length q10, .slice a11 r4.Last.length q13, .int .i64 r4.Head.Rows, .int .i64 r4.Head.Cols, .slice a14 r4.Head.V.length q16]) (cs' := [.int .i64 r4.Shape.Layers, .int .i64 r4.Shape.Width, .int .i64 r4.Shape.Heads, .int .i64 r4.Shape.Inner, .int .i64 r4.Shape.Vocab, .int .i64 r4.Shape.Places, .int .i64 r4.Embed.Rows, .int .i64 r4.Embed.Cols, .slice a5 r4.Embed.V.length q7, .slice a8 r4.Blocks.length q10, .slice a11 r4.Last.length q13, .int .i64 r4.Head.Rows, .int .i64 r4.Head.Cols, .slice a14 r4.Head.V.length q16]) rfl rfl rfl Try.sizeOf57 rfl rfl rfl) rfl ?_; clear hc; rintro w25 hc; replace hc := Ctx.n0 hc; refine rn (qn (Wseq (Wreg ?_))); refine rs (v := .agg #[.int .i64 r4.Shape.Layers, .int .i64 r4.Shape.Width, .int .i64 r4.Shape.Heads, .int .i64 r4.Shape.Inner, .int .i64 r4.Shape.Vocab, .int .i64 r4.Shape.Places, .int .i64 r4.Embed.Rows, .int .i64 r4.Embed.Cols, .slice a5 r4.Embed.V.length q7, .slice a8 r4.Blocks.length q10, .slice a11 r4.Last.length q13, .int .i64 r4.Head.Rows, .int .i64 r4.Head.Cols, .slice a14 r4.Head.V.length q16]) (ldg rfl Try.isAgg57 Try.sizeOf57 rfl (Ctx.cells hc (k := 0) rfl rfl 0 (vs := [.int .i64 r4.Shape.Layers, .int .i64 r4.Shape.Width, .int .i64 r4.Shape.Heads, .int .i64 r4.Shape.Inner, .int .i64 r4.Shape.Vocab, .int .i64 r4.Shape.Places, .int .i64 r4.Embed.Rows, .int .i64 r4.Embed.Cols, .slice a5 r4.Embed.V.length q7, .slice a8 r4.Blocks.length q10, .slice a11 r4.Last.length q13, .int .i64 r4.Head.Rows, .int .i64 r4.Head.Cols, .slice a14 r4.Head.V.length q16]) rfl)) rfl ?_; replace hc := hc.dup (k := 1) rfl rfl; replace hc := hc.dup (k := 3) rfl rfl; replace hc := hc.dup (k := 5) rfl rfl; replace hc := hc.dup (k := 7) rfl rfl; replace hp := bind_some hp; obtain ⟨r26, hr26, hp⟩ := hp; replace hc := Ctx.p3 (Ctx.p2 (Ctx.p1 hc)); refine rc (cl Try.call25 rfl rfl) rfl ?_; refine model_New_any (x0 := (⟨(⟨r4.Shape.Layers, r4.Shape.Width, r4.Shape.Heads, r4.Shape.Inner, r4.Shape.Vocab, r4.Shape.Places⟩ : S_api_Shape), (⟨r4.Embed.Rows, r4.Embed.Cols, r4.Embed.V⟩ : S_api_Mat), r4.Blocks, r4.Last, (⟨r4.Head.Rows, r4.Head.Cols, r4.Head.V⟩ : S_api_Mat)⟩ : S_api_Weights)) hc hr26 ?_; clear hc; intro v27 w28 hc; refine rM (.tuple #[v27, .int .i64 r26.2]) rfl rfl ?_; refine rs (ext (v := v27) rfl rfl) rfl ?_; refine rs (ext (v := .int .i64 r26.2) rfl rfl) rfl ?_; refine rA (v27) rfl rfl ?_; refine rA (.int .i64 r26.2) rfl rfl ?_; refine rn (qn (Wseq (Wseq ?_))); replace hc := hc.drew; have hF : ∀ j, free [0, 1, 3, 7, 15, 31, 63, 127, 255, 127, 639, 2047, 4095] 0 j = true → (fun j w' => (j = 10 → ∀ j v, ([.int .i64 r4.Shape.Layers, .int .i64 r4.Shape.Width, .int .i64 r4.Shape.Heads, .int .i64 r4.Shape.Inner, .int .i64 r4.Shape.Vocab, .int .i64 r4.Shape.Places] : List Value)[j]? = some v → w'.cell? ((⟨b22, 0, none⟩ : Addr).add j) = some v) ∧ True) j (World.drew w28) := fun j hj => ⟨fun _ => Ctx.cells hc (k := 1) rfl rfl 0 (vs := [.int .i64 r4.Shape.Layers, .int .i64 r4.Shape.Width, .int .i64 r4.Shape.Heads, .int .i64 r4.Shape.Inner, .int .i64 r4.Shape.Vocab, .int .i64 r4.Shape.Places]) rfl, trivial⟩; refine Wdrw (fun j w' => (j = 10 → ∀ j v, ([.int .i64 r4.Shape.Layers, .int .i64 r4.Shape.Width, .int .i64 r4.Shape.Heads, .int .i64 r4.Shape.Inner, .int .i64 r4.Shape.Vocab, .int .i64 r4.Shape.Places] : List Value)[j]? = some v → w'.cell? ((⟨b22, 0, none⟩ : Addr).add j) = some v) ∧ True) [0, 1, 3, 7, 15, 31, 63, 127, 255, 127, 639, 2047, 4095] 0 0 rfl (by kernel_rfl) (hF) ?_; generalize hw : World.drew w28 = w29 at *; clear hw; refine dM (.int .i64 r26.2) rfl rfl rfl ?_; refine ds rfl (fun w' hF => ned rfl rfl) rfl ?_; refine dM (.bool (decide (r26.2 ≠ 0))) rfl rfl rfl ?_; cases hb30 : (decide (r26.2 ≠ 0))
 · replace hp := gneg hp (of_decide_eq_false hb30); refine dM (v27) rfl rfl rfl ?_; cases hb31 : r26.1
   · replace hp := optN hp hb31; rw [hb31] at hc; replace hc := Ctx.poE hc; obtain ⟨u33, hc⟩ := hc; subst u33; refine ds (v := .bool true) rfl (fun w' hF => ept Try.underlying29 rfl rfl) rfl ?_; refine ds (v := .bool true) rfl (fun w' hF => pkf (v := .bool true) rfl rfl) rfl ?_; refine dM (.bool true) rfl rfl rfl ?_; (iterate 5 refine d0 rfl rfl ?_); refine ds (v := .bool true) rfl (fun w' hF => pkt (v := .bool true) rfl rfl) rfl ?_; refine dn (qn (Wct rfl (Wseq (Wreg ?_)))); refine rA (.pointer none) rfl rfl ?_; refine rA (.pointer none) rfl rfl ?_; refine rn (qn (Wret (qr ?_))); replace hc := Ctx.poN S_model_Model.pr hc; replace hc := Ctx.ptoNB S_ref08_Run.hp hc; replace hc := Ctx.p2 (Ctx.p1 (Ctx.p2 (Ctx.r2 (Ctx.r3 (Ctx.r4 (Ctx.r5 (Ctx.r6 (Ctx.r8 hc)))))))); injection hp with hp; subst hp; refine f2 (v := (.pointer none)) (u := .pointer none) Try.results8 Try.ntmps8 rfl rfl ?_; exact ⟨_, rfl, k _ _ _ hc⟩
   · rename_i y32; replace hp := optS hp hb31; replace hc := Ctx.poF hc hb31; obtain ⟨b34, cs35, u36, hc⟩ := hc; subst u36; replace hc := S_model_Model.op hc; obtain ⟨a38, q39, a40, q41, a42, q43, a44, q45, u37, hc⟩ := hc; subst u37; refine ds (v := .bool false) rfl (fun w' hF => epf Try.underlying29 rfl rfl) rfl ?_; refine ds (v := .bool false) rfl (fun w' hF => pkf (v := .bool false) rfl rfl) rfl ?_; refine dM (.bool false) rfl rfl rfl ?_; refine dM (.pointer (some ⟨b34, 0, none⟩)) rfl rfl rfl ?_; replace hc := hc.dup (k := 5) rfl rfl; replace hp := bind_some hp; obtain ⟨r46, hr46, hp⟩ := hp; refine dc (cl Try.call10 rfl rfl) rfl rfl ?_; refine model_Model_Shape_any hc hr46 ?_; clear hc; intro w47 hc; refine ⟨fun j hj hb => ⟨fun _ => Ctx.cells hc (k := 6) rfl rfl 0 (vs := [.int .i64 r4.Shape.Layers, .int .i64 r4.Shape.Width, .int .i64 r4.Shape.Heads, .int .i64 r4.Shape.Inner, .int .i64 r4.Shape.Vocab, .int .i64 r4.Shape.Places]) rfl, trivial⟩, ?_⟩; refine ds (v := .pointer (some ⟨b22, 0, none⟩)) rfl (fun w' hF => fax 0 rfl Try.underlying57 rfl Try.sizeOf35 rfl rfl rfl) rfl ?_; refine ds (v := .agg #[.int .i64 r4.Shape.Layers, .int .i64 r4.Shape.Width, .int .i64 r4.Shape.Heads, .int .i64 r4.Shape.Inner, .int .i64 r4.Shape.Vocab, .int .i64 r4.Shape.Places]) rfl (fun w' hF => ldg rfl Try.isAgg35 Try.sizeOf35 rfl (hF.1 rfl)) rfl ?_; refine ds (v := .bool (!decide (r46 = (⟨r4.Shape.Layers, r4.Shape.Width, r4.Shape.Heads, r4.Shape.Inner, r4.Shape.Vocab, r4.Shape.Places⟩ : S_api_Shape)))) rfl (fun w' hF => nes rfl rfl (by kernel_rfl) (fun w => S_api_Shape.eql w r46 (⟨r4.Shape.Layers, r4.Shape.Width, r4.Shape.Heads, r4.Shape.Inner, r4.Shape.Vocab, r4.Shape.Places⟩ : S_api_Shape))) rfl ?_; refine ds (v := .bool (!decide (r46 = (⟨r4.Shape.Layers, r4.Shape.Width, r4.Shape.Heads, r4.Shape.Inner, r4.Shape.Vocab, r4.Shape.Places⟩ : S_api_Shape)))) rfl (fun w' hF => pkf (v := .bool (!decide (r46 = (⟨r4.Shape.Layers, r4.Shape.Width, r4.Shape.Heads, r4.Shape.Inner, r4.Shape.Vocab, r4.Shape.Places⟩ : S_api_Shape)))) rfl rfl) rfl ?_; refine dn (qn ?_); cases hb48 : (!decide (r46 = (⟨r4.Shape.Layers, r4.Shape.Width, r4.Shape.Heads, r4.Shape.Inner, r4.Shape.Vocab, r4.Shape.Places⟩ : S_api_Shape)))
     · replace hp := gneg hp (by rw [hb48]; exact Bool.false_ne_true); refine Wcf rfl (Wskip (qn (Wseq ?_))); replace hc := hc.drew; refine Wdrw (fun j w' => True) [0, 0, 2, 6, 1, 31] 0 2 rfl (by kernel_rfl) (fun _ _ => trivial) ?_; generalize hw : World.drew w47 = w49 at *; clear hw; refine dM (.pointer (some ⟨b34, 0, none⟩)) rfl rfl rfl ?_; refine dx (v := .agg #[.int .i64 r4.Shape.Layers, .int .i64 r4.Shape.Width, .int .i64 r4.Shape.Heads, .int .i64 r4.Shape.Inner, .int .i64 r4.Shape.Vocab, .int .i64 r4.Shape.Places, .int .i64 r4.Embed.Rows, .int .i64 r4.Embed.Cols, .slice a5 r4.Embed.V.length q7, .slice a8 r4.Blocks.length q10, .slice a11 r4.Last.length q13, .int .i64 r4.Head.Rows, .int .i64 r4.Head.Cols, .slice a14 r4.Head.V.length q16]) rfl (ldg rfl Try.isAgg57 Try.sizeOf57 rfl (Ctx.cells hc (k := 6) rfl rfl 0 (vs := [.int .i64 r4.Shape.Layers, .int .i64 r4.Shape.Width, .int .i64 r4.Shape.Heads, .int .i64 r4.Shape.Inner, .int .i64 r4.Shape.Vocab, .int .i64 r4.Shape.Places, .int .i64 r4.Embed.Rows, .int .i64 r4.Embed.Cols, .slice a5 r4.Embed.V.length q7, .slice a8 r4.Blocks.length q10, .slice a11 r4.Last.length q13, .int .i64 r4.Head.Rows, .int .i64 r4.Head.Cols, .slice a14 r4.Head.V.length q16]) rfl)) rfl rfl ?_; refine ds (v := .agg #[.int .i64 r4.Shape.Layers, .int .i64 r4.Shape.Width, .int .i64 r4.Shape.Heads, .int .i64 r4.Shape.Inner, .int .i64 r4.Shape.Vocab, .int .i64 r4.Shape.Places, .int .i64 r4.Embed.Rows, .int .i64 r4.Embed.Cols, .slice a5 r4.Embed.V.length q7, .slice a8 r4.Blocks.length q10, .slice a11 r4.Last.length q13, .int .i64 r4.Head.Rows, .int .i64 r4.Head.Cols, .slice a14 r4.Head.V.length q16, .slice none 0 0]) rfl (fun w' hF => bd_72_0 rfl) rfl ?_; refine deE (Ctx.boxOp (cs := [.int .i64 r4.Shape.Layers, .int .i64 r4.Shape.Width, .int .i64 r4.Shape.Heads, .int .i64 r4.Shape.Inner, .int .i64 r4.Shape.Vocab, .int .i64 r4.Shape.Places, .int .i64 r4.Embed.Rows, .int .i64 r4.Embed.Cols, .slice a5 r4.Embed.V.length q7, .slice a8 r4.Blocks.length q10, .slice a11 r4.Last.length q13, .int .i64 r4.Head.Rows, .int .i64 r4.Head.Cols, .slice a14 r4.Head.V.length q16, .slice none 0 0]) (v := .agg #[.int .i64 r4.Shape.Layers, .int .i64 r4.Shape.Width, .int .i64 r4.Shape.Heads, .int .i64 r4.Shape.Inner, .int .i64 r4.Shape.Vocab, .int .i64 r4.Shape.Places, .int .i64 r4.Embed.Rows, .int .i64 r4.Embed.Cols, .slice a5 r4.Embed.V.length q7, .slice a8 r4.Blocks.length q10, .slice a11 r4.Last.length q13, .int .i64 r4.Head.Rows, .int .i64 r4.Head.Cols, .slice a14 r4.Head.V.length q16, .slice none 0 0]) hc rfl rfl) rfl rfl ?_; clear hc; rintro _ w52 ⟨b50, rfl, hc⟩; refine ⟨fun j hj hb => trivial, ?_⟩; refine dA (.pointer (some ⟨b34, 0, none⟩)) rfl rfl rfl ?_; refine dA (.pointer (some ⟨b50, 0, none⟩)) rfl rfl rfl ?_; refine dn (qn (Wret ?_)); replace hc := hc.dup (k := 6) rfl rfl; replace hc := hc.nilOwnV S_ref08_Kept.vp 194; replace hc := Ctx.p6 (Ctx.p13 (Ctx.p13 (Ctx.p13 (Ctx.p13 hc)))); replace hc := S_ref08_Run.fd (x := (⟨(⟨(⟨r4.Shape.Layers, r4.Shape.Width, r4.Shape.Heads, r4.Shape.Inner, r4.Shape.Vocab, r4.Shape.Places⟩ : S_api_Shape), (⟨r4.Embed.Rows, r4.Embed.Cols, r4.Embed.V⟩ : S_api_Mat), r4.Blocks, r4.Last, (⟨r4.Head.Rows, r4.Head.Cols, r4.Head.V⟩ : S_api_Mat)⟩ : S_api_Weights), []⟩ : S_ref08_Run)) hc; replace hc := Ctx.ptoSB S_ref08_Run.hp hc; replace hc := Ctx.p2 (Ctx.p1 (Ctx.p2 (Ctx.r2 (Ctx.r3 (Ctx.r4 (Ctx.r5 (Ctx.r6 (Ctx.r7 (Ctx.r8 (Ctx.r10 hc)))))))))); injection hp with hp; subst hp; refine f2 (v := (.pointer (some ⟨b34, 0, none⟩))) (u := .pointer (some ⟨b50, 0, none⟩)) Try.results8 Try.ntmps8 rfl rfl ?_; exact ⟨_, rfl, k _ _ _ hc⟩
     · replace hp := gpos hp hb48; refine Wct rfl (Wseq (Wreg ?_)); refine rA (.pointer none) rfl rfl ?_; refine rA (.pointer none) rfl rfl ?_; refine rn (qn (Wret (qr ?_))); replace hc := Ctx.poN S_model_Model.pr hc; replace hc := Ctx.ptoNB S_ref08_Run.hp hc; replace hc := Ctx.r2 (Ctx.r3 (Ctx.r4 (Ctx.r5 (Ctx.r6 (Ctx.r7 (Ctx.r8 (Ctx.r9 (Ctx.r10 (Ctx.r11 (Ctx.r12 (Ctx.r14 hc))))))))))); replace hc := Ctx.p2 (Ctx.p1 (Ctx.p2 hc)); injection hp with hp; subst hp; refine f2 (v := (.pointer none)) (u := .pointer none) Try.results8 Try.ntmps8 rfl rfl ?_; exact ⟨_, rfl, k _ _ _ hc⟩
 · replace hp := gpos hp (of_decide_eq_true hb30); (iterate 2 refine d0 rfl rfl ?_); refine ds (v := .bool true) rfl (fun w' hF => pkt (v := .bool true) rfl rfl) rfl ?_; refine dM (.bool true) rfl rfl rfl ?_; (iterate 5 refine d0 rfl rfl ?_); refine ds (v := .bool true) rfl (fun w' hF => pkt (v := .bool true) rfl rfl) rfl ?_; refine dn (qn (Wct rfl (Wseq (Wreg ?_)))); refine rA (.pointer none) rfl rfl ?_; refine rA (.pointer none) rfl rfl ?_; refine rn (qn (Wret (qr ?_))); replace hc := Ctx.poN S_model_Model.pr hc; replace hc := Ctx.ptoNB S_ref08_Run.hp hc; replace hc := Ctx.p2 (Ctx.p1 (Ctx.p2 (Ctx.r2 (Ctx.r3 (Ctx.r4 (Ctx.r5 (Ctx.r6 (Ctx.r7 (Ctx.r9 hc))))))))); injection hp with hp; subst hp; refine f2 (v := (.pointer none)) (u := .pointer none) Try.results8 Try.ntmps8 rfl rfl ?_; exact ⟨_, rfl, k _ _ _ hc⟩

def law08_fits.L1 (x0 : (List Int)) (x1 : Int) : Nat → (List Int) → Int → Option ((List Int))
  | 0, _, _ => none
  | m1 + 1, j1, j5 =>
    if j5 < ((x0.length : Nat) : Int) then
      (idx x0 j5).bind fun y9 =>
      chk (x1 ≠ 0) <|
      chk (x1 ≠ 0) <|
      (app j1 ([(Int.tmod (IntKind.i64.wrap ((Int.tmod y9 x1) + x1)) x1)])).bind fun z22 =>
      (law08_fits.L1 x0 x1 m1) z22 (IntKind.i64.wrap (j5 + 1))
    else
      some j1

def law08_fits (N : Nat) (x0 : (List Int)) (x1 : Int) : Option ((List Int)) :=
  law08_fits.L1 x0 x1 N ([]) 0

set_option maxHeartbeats 8000000 in
theorem law08_fits_any {N : Nat} {x0 : (List Int)} {ax0 : Option Addr} {nx0 : Nat} {qx0 : Nat} {P0 : HP} {x1 : Int} {Fr : List HP} {w : World} {r : (List Int)} {K : Value → World → Prop} (hrd0 : Reads P0 (pInt .i64) (.slice ax0 nx0 qx0) x0) (hc : Ctx w (P0 :: Fr)) (hp : law08_fits N x0 x1 = some r)
    (k : ∀ (a28 : Option Addr) (n29 : Nat) (q30 : Nat) w', Ctx w' (Own (pInt .i64) 3 (.slice a28 n29 q30) r :: P0 :: Fr) → K (.slice a28 n29 q30) w') : Calls Try.prog 9 #[.slice ax0 nx0 qx0, .int .i64 x1] w (Ret K) := by
 unfold law08_fits at hp; refine Center (args := [.slice ax0 nx0 qx0, .int .i64 x1]) (l := [(0, .slice ax0 nx0 qx0), (1, .int .i64 x1)]) Try.func9 Try.ntmps9 rfl rfl rfl ?_; obtain ⟨hn0, _⟩ := Ctx.rdLen hc (k := 0) rfl rfl hrd0; subst hn0; refine Wseq (Wreg ?_); refine rA (.slice none 0 0) rfl rfl ?_; refine rn (qn (Wseq (Wreg ?_))); refine rA (.slice none 0 0) rfl rfl ?_; refine rn (qn (Wseq (Wseq (Wreg ?_)))); refine rA (.int .i64 0) rfl rfl ?_; refine rn (qn (Wblk ?_)); replace hc := hc.nilOwn (pInt .i64) 3; replace hc := Ctx.p1 hc; refine Wloop [5, 6, 7, 8, 9, 10, 11, 12, 13, 14, 15, 16, 17, 18, 19, 20, 21, 22, 23, 24, 25] [5, 6] (fun m vs w' => ∃ j1 : (List Int), ∃ j5 : Int, ∃ a2 : Option Addr, ∃ n3 : Nat, ∃ q4 : Nat, vs = [.slice a2 n3 q4, .int .i64 j5] ∧ law08_fits.L1 x0 x1 m j1 j5 = some r ∧ Ctx w' (P0 :: Own (pInt .i64) 3 (.slice a2 n3 q4) j1 :: Fr)) N ?_ ?_
 · exact ⟨[], 0, none, 0, 0, rfl, hp, hc⟩
 · clear hp hc; intro m vs u w6 hJ; obtain ⟨j1, j5, a2, n3, q4, rfl, hp, hc⟩ := hJ; obtain ⟨u7, _⟩ := Ctx.rdLen hc (k := 1) rfl rfl reads_own; subst u7; rcases m with _ | m1
   · cases (show none = some r from hp)
   rw [law08_fits.L1] at hp; refine Wseq (Wseq (Wreg ?_)); refine rM (.int .i64 j5) rfl rfl ?_; refine rM (.slice ax0 x0.length qx0) rfl rfl ?_; refine rs (ln rfl Try.underlying27) rfl ?_; refine rs (lt' rfl rfl) rfl ?_; refine rn (qn ?_); cases hb8 : (decide (j5 < ((x0.length : Nat) : Int)))
   · replace hp := gneg hp (of_decide_eq_false hb8); refine Wcf rfl (Wexit (qx (qx (be (qn (Wseq (Wreg ?_))))))); refine rM (.slice a2 j1.length q4) rfl rfl ?_; refine rA (.slice a2 j1.length q4) rfl rfl ?_; refine rn (qn (Wret ?_)); replace hc := Ctx.p1 hc; injection hp with hp; subst hp; refine f1 (v := .slice a2 j1.length q4) Try.results9 Try.ntmps9 rfl ?_; exact ⟨_, rfl, k _ _ _ _ hc⟩
   · replace hp := gpos hp (of_decide_eq_true hb8); refine Wct rfl (Wskip (qn (Wseq (Wblk (Wreg ?_))))); refine rM (.slice a2 j1.length q4) rfl rfl ?_; refine rM (.slice ax0 x0.length qx0) rfl rfl ?_; refine rM (.int .i64 j5) rfl rfl ?_; replace hp := bind_some hp; obtain ⟨y9, hy9, hp⟩ := hp; obtain ⟨b12, o13, u14, hi10, hi11⟩ := Ctx.rdAt hc (k := 0) rfl rfl hrd0 hy9; subst u14; refine rs (ixx rfl rfl Try.underlying27 Try.sizeOf3 hi10 hi11 rfl) rfl ?_; replace hc := Ctx.rdCell hc (k := 0) rfl rfl hrd0 hy9; obtain ⟨cs15, hc, hcell16⟩ := hc; replace hc := Ctx.holdC hc; obtain ⟨u17, hc⟩ := hc; subst u17; refine rs (ld rfl Try.isAgg3 (hcell16 0 _ rfl)) rfl ?_; refine rM (.int .i64 x1) rfl rfl ?_; replace hp := chk_some hp; obtain ⟨hg18, hp⟩ := hp; refine rs (rm rfl rfl hg18) rfl ?_; refine rM (.int .i64 x1) rfl rfl ?_; refine rs (adw rfl rfl) rfl ?_; refine rM (.int .i64 x1) rfl rfl ?_; replace hp := chk_some hp; obtain ⟨hg19, hp⟩ := hp; refine rs (rm rfl rfl hg19) rfl ?_; refine rsE (Ctx.builtOp (css := [[.int .i64 (Int.tmod (IntKind.i64.wrap ((Int.tmod y9 x1) + x1)) x1)]]) (xs := ([(Int.tmod (IntKind.i64.wrap ((Int.tmod y9 x1) + x1)) x1)] : List Int)) (E := (pInt .i64)) (Ctx.holdsC (f := fun x : Int => [.int .i64 x]) (fun _ _ _ => rfl) hc ([(Int.tmod (IntKind.i64.wrap ((Int.tmod y9 x1) + x1)) x1)] : List Int)) Try.underlying27 Try.sizeOf3 Try.zeroValue3 rfl rfl rfl rfl rfl rfl rfl rfl) rfl ?_; clear hc; rintro _ w21 ⟨a20, rfl, hc⟩; replace hp := bind_some hp; obtain ⟨z22, hz22, hp⟩ := hp; obtain ⟨hg23, e24⟩ := app_some hz22; refine rsE (Ctx.append hc (k := 2) rfl rfl (k2 := 0) rfl rfl reads_own Try.underlying27 (i := Try.t3) rfl rfl rfl rfl rfl rfl rfl rfl hg23) rfl ?_; clear hc; rintro _ w27 ⟨a25, q26, rfl, hc⟩; rw [← e24] at hc ⊢; replace hc := Ctx.n2 hc; refine rA (.slice a25 z22.length q26) rfl rfl ?_; refine rn (bn (qn (Wreg ?_))); refine rM (.int .i64 j5) rfl rfl ?_; refine rs (adw rfl rfl) rfl ?_; refine rA (.int .i64 (IntKind.i64.wrap (j5 + 1))) rfl rfl ?_; refine rn (qn ?_); replace hc := Ctx.r0 hc; exact ⟨m1, Nat.lt_succ_self _, ⟨z22, (IntKind.i64.wrap (j5 + 1)), a25, z22.length, q26, rfl, hp, hc⟩, (kl rfl k0)⟩

theorem bd_77_0_1_2 {ρ : Operand → Value} {w : World} {dst : Option Nat} {ty : TypeId} {pos : String} {after : Array Edge} {g : Option (Nat × Bool)} {x0 x1 x2 : Operand} {a0 : Option Addr} {k1 : IntKind} {a1 : Int} {a2 : Option Nat} (h0 : ρ x0 = (.pointer a0)) (h1 : ρ x1 = (.int k1 a1)) (h2 : ρ x2 = (.map a2)) :
    (execOp ρ ⟨dst, .build 77 #[(0, x0), (1, x1), (2, x2)], ty, pos, after, g⟩).run Try.prog w = .ok (.value (.agg #[(.pointer a0), (.int k1 a1), (.map a2)])) w := by
  simp [execOp, Instr.build, Instr.fill, Try.zeroValue77, Try.runUnderlying77, Try.sizeOf29, Try.sizeOf3, Try.sizeOf75, h0, h1, h2, Value.cells]

def model_Run_Fork (N : Nat) (x0 : S_model_Run) : Option (S_model_Run) :=
  (maps_Clone_map_model_spot_model_kept_model_spot_model_kept N x0.kept).bind fun r4 =>
  some (⟨x0.m, x0.place, r4⟩ : S_model_Run)

set_option maxHeartbeats 8000000 in
theorem model_Run_Fork_any {N : Nat} {b0 : Nat} {x0 : S_model_Run} {Fr : List HP} {w : World} {r : S_model_Run} {K : Value → World → Prop}  (hc : Ctx w (S_model_Run.hp b0 x0 :: Fr)) (hp : model_Run_Fork N x0 = some r)
    (k : ∀ (b12 : Nat) w', Ctx w' (S_model_Run.hp b12 r :: S_model_Run.hp b0 x0 :: Fr) → K (.pointer (some ⟨b12, 0, none⟩)) w') : Calls Try.prog 13 #[.pointer (some ⟨b0, 0, none⟩)] w (Ret K) := by
 unfold model_Run_Fork at hp; refine Center (args := [.pointer (some ⟨b0, 0, none⟩)]) (l := [(0, .pointer (some ⟨b0, 0, none⟩))]) Try.func13 Try.ntmps13 rfl rfl rfl ?_; refine Wseq (Wreg ?_); refine rA (.pointer none) rfl rfl ?_; refine rn (qn (Wseq ?_)); replace hc := S_model_Run.uf hc; obtain ⟨v1, v2, hc⟩ := hc; replace hc := hc.drew; have hF : ∀ j, free [0, 1, 3, 7, 0, 16, 48, 112, 0, 256, 768, 1792, 3840, 8191, 16383, 32767] 0 j = true → (fun j w' => (j = 3 → w'.cell? ⟨b0, 0, none⟩ = some (v1)) ∧ (j = 7 → w'.cell? ⟨b0, 1, none⟩ = some (.int .i64 x0.place)) ∧ True) j (World.drew w) := fun j hj => ⟨fun _ => hc.cell (k := 0) rfl rfl rfl, fun _ => hc.cell (k := 0) rfl rfl rfl, trivial⟩; refine Wdrw (fun j w' => (j = 3 → w'.cell? ⟨b0, 0, none⟩ = some (v1)) ∧ (j = 7 → w'.cell? ⟨b0, 1, none⟩ = some (.int .i64 x0.place)) ∧ True) [0, 1, 3, 7, 0, 16, 48, 112, 0, 256, 768, 1792, 3840, 8191, 16383, 32767] 0 2048 rfl (by kernel_rfl) (hF) ?_; generalize hw : World.drew w = w3 at *; clear hw; refine dM (.pointer (some ⟨b0, 0, none⟩)) rfl rfl rfl ?_; refine ds rfl (fun w' hF => nl rfl) rfl ?_; refine ds (v := .pointer (some ⟨b0, 0, none⟩)) rfl (fun w' hF => fax 0 rfl Try.underlying77 rfl Try.sizeOf29 rfl rfl rfl) rfl ?_; refine ds rfl (fun w' hF => ld rfl Try.isAgg29 ((hF.1 rfl))) rfl ?_; refine dM (.pointer (some ⟨b0, 0, none⟩)) rfl rfl rfl ?_; refine ds rfl (fun w' hF => nl rfl) rfl ?_; refine ds (v := .pointer (some ⟨b0, 1, none⟩)) rfl (fun w' hF => fax 1 rfl Try.underlying77 rfl Try.sizeOf3 rfl rfl rfl) rfl ?_; refine ds rfl (fun w' hF => ld rfl Try.isAgg3 ((hF.2.1 rfl))) rfl ?_; refine dM (.pointer (some ⟨b0, 0, none⟩)) rfl rfl rfl ?_; refine ds rfl (fun w' hF => nl rfl) rfl ?_; refine ds (v := .pointer (some ⟨b0, 2, none⟩)) rfl (fun w' hF => fax 2 rfl Try.underlying77 rfl Try.sizeOf75 rfl rfl rfl) rfl ?_; refine dx rfl (ld rfl Try.isAgg75 (Ctx.cell hc (k := 0) rfl rfl rfl)) rfl rfl ?_; replace hp := bind_some hp; obtain ⟨r4, hr4, hp⟩ := hp; replace hc := Ctx.p2 hc; refine dc (cl Try.call29 rfl rfl) rfl rfl ?_; refine maps_Clone_map_model_spot_model_kept_model_spot_model_kept_any hc hr4 ?_; clear hc; intro b5 w6 hc; refine ⟨fun j hj hb => ⟨fun _ => hc.cell (k := 2) rfl rfl rfl, fun _ => hc.cell (k := 2) rfl rfl rfl, trivial⟩, ?_⟩; replace hc := Ctx.p3 hc; obtain ⟨a7, u8⟩ := Ctx.poP hc; subst u8; refine ds (v := .agg #[(.pointer a7), .int .i64 x0.place, .map (some b5)]) rfl (fun w' hF => bd_77_0_1_2 rfl rfl rfl) rfl ?_; refine deE (Ctx.boxOp (cs := [(.pointer a7), .int .i64 x0.place, .map (some b5)]) (v := .agg #[(.pointer a7), .int .i64 x0.place, .map (some b5)]) hc rfl rfl) rfl rfl ?_; clear hc; rintro _ w11 ⟨b9, rfl, hc⟩; refine ⟨fun j hj hb => ⟨fun e => (by subst e; exact absurd hj (by decide)), fun e => (by subst e; exact absurd hj (by decide)), trivial⟩, ?_⟩; refine dA (.pointer (some ⟨b9, 0, none⟩)) rfl rfl rfl ?_; refine dn (qn (Wret ?_)); replace hc := hc.dup (k := 1) rfl rfl; replace hc := Ctx.p2 (Ctx.p1 (Ctx.p3 hc)); replace hc := S_model_Run.fd (x := (⟨x0.m, x0.place, r4⟩ : S_model_Run)) hc; replace hc := hc.dup (k := 1) rfl rfl; replace hc := Ctx.p4 (Ctx.p1 (Ctx.p3 hc)); replace hc := S_model_Run.fd (x := x0) hc; replace hc := Ctx.p1 (Ctx.r2 hc); injection hp with hp; subst hp; refine f1 (v := .pointer (some ⟨b9, 0, none⟩)) Try.results13 Try.ntmps13 rfl ?_; exact ⟨_, rfl, k _ _ hc⟩

def model_Run_Kept (x0 : S_model_Run) (x1 : Int) (x2 : Int) : Option ((List Int) × (List Int) × Bool) :=
  (some ((mget x0.kept (⟨x1, x2⟩ : S_model_spot)).getD (⟨[], []⟩ : S_model_kept))).bind fun y5 =>
  (slices_Clone_s_int8_int8 y5.k).bind fun r16 =>
  (slices_Clone_s_int8_int8 y5.v).bind fun r22 =>
  some (r16, r22, (mget x0.kept (⟨x1, x2⟩ : S_model_spot)).isSome)

set_option maxHeartbeats 8000000 in
theorem model_Run_Kept_any {b0 : Nat} {x0 : S_model_Run} {x1 : Int} {x2 : Int} {Fr : List HP} {w : World} {r : (List Int) × (List Int) × Bool} {K : Value → World → Prop}  (hc : Ctx w (S_model_Run.hp b0 x0 :: Fr)) (hp : model_Run_Kept x0 x1 x2 = some r)
    (k : ∀ (a28 : Option Addr) (n29 : Nat) (q30 : Nat) (a31 : Option Addr) (n32 : Nat) (q33 : Nat) w', Ctx w' (Own (pInt .i8) 86 (.slice a28 n29 q30) r.1 :: Own (pInt .i8) 86 (.slice a31 n32 q33) r.2.1 :: S_model_Run.hp b0 x0 :: Fr) → K (.tuple #[.slice a28 n29 q30, .slice a31 n32 q33, .bool r.2.2]) w') : Calls Try.prog 15 #[.pointer (some ⟨b0, 0, none⟩), .int .i64 x1, .int .i64 x2] w (Ret K) := by
 unfold model_Run_Kept at hp; refine Center (args := [.pointer (some ⟨b0, 0, none⟩), .int .i64 x1, .int .i64 x2]) (l := [(0, .pointer (some ⟨b0, 0, none⟩)), (1, .int .i64 x1), (2, .int .i64 x2)]) Try.func15 Try.ntmps15 rfl rfl rfl ?_; refine Wseq (Wreg ?_); refine rA (.slice none 0 0) rfl rfl ?_; refine rA (.slice none 0 0) rfl rfl ?_; refine rA (.bool false) rfl rfl ?_; refine rn (qn (Wseq (Wreg ?_))); refine rM (.pointer (some ⟨b0, 0, none⟩)) rfl rfl ?_; refine rs (nl rfl) rfl ?_; refine rs (v := .pointer (some ⟨b0, 2, none⟩)) (fax 2 rfl Try.underlying77 rfl Try.sizeOf75 rfl rfl rfl) rfl ?_; replace hc := S_model_Run.uf hc; obtain ⟨v1, v2, hc⟩ := hc; refine rs (ld rfl Try.isAgg75 (Ctx.cell hc (k := 0) rfl rfl rfl)) rfl ?_; refine rM (.int .i64 x1) rfl rfl ?_; refine rM (.int .i64 x2) rfl rfl ?_; refine rs (v := .agg #[.int .i64 x1, .int .i64 x2]) (bd_81_0_1 rfl rfl) rfl ?_; replace hc := Ctx.mpFact true S_model_spot.keyL hc (i := 2) rfl rfl (⟨x1, x2⟩ : S_model_spot) Try.underlying75 Try.zeroValue83 (zcs := [.slice none 0 0, .slice none 0 0]) (x0 := (⟨[], []⟩ : S_model_kept)) rfl (fun _ _ => ⟨([.slice none 0 0] : List Value), ([.slice none 0 0] : List Value), rfl, ⟨_, rfl, none, 0, rfl, Nat.le_refl _, fun i x hx => by simp at hx⟩, ⟨_, rfl, none, 0, rfl, Nat.le_refl _, fun i x hx => by simp at hx⟩⟩); obtain ⟨cs3, hc, hr4⟩ := hc; replace hp := bind_some hp; obtain ⟨y5, hy5, hp⟩ := hp; injection hy5 with hy5; rw [hy5] at hc; replace hc := S_model_kept.op hc; obtain ⟨a7, q8, a9, q10, u6, hc⟩ := hc; subst u6; refine rs (v := .tuple #[.agg #[.slice a7 y5.k.length q8, .slice a9 y5.v.length q10], .bool ((mget x0.kept (⟨x1, x2⟩ : S_model_spot)).isSome)]) (hr4 rfl rfl) rfl ?_; refine rM (.tuple #[.agg #[.slice a7 y5.k.length q8, .slice a9 y5.v.length q10], .bool ((mget x0.kept (⟨x1, x2⟩ : S_model_spot)).isSome)]) rfl rfl ?_; refine rs (ext (v := .agg #[.slice a7 y5.k.length q8, .slice a9 y5.v.length q10]) rfl rfl) rfl ?_; refine rs (ext (v := .bool ((mget x0.kept (⟨x1, x2⟩ : S_model_spot)).isSome)) rfl rfl) rfl ?_; refine rsE (Ctx.allocOp (cs := [.slice none 0 0, .slice none 0 0]) hc Try.zeroValue83 rfl) rfl ?_; clear hc; rintro _ w13 ⟨b11, rfl, hc⟩; refine ruE (Ctx.putAgg hc (k := 0) rfl rfl (vs := [.slice a7 y5.k.length q8, .slice a9 y5.v.length q10]) (cs' := [.slice a7 y5.k.length q8, .slice a9 y5.v.length q10]) rfl rfl rfl Try.sizeOf83 rfl rfl rfl) rfl ?_; clear hc; rintro w14 hc; replace hc := Ctx.n0 hc; refine rA (.bool ((mget x0.kept (⟨x1, x2⟩ : S_model_spot)).isSome)) rfl rfl ?_; refine rn (qn (Wseq ?_)); replace hc := hc.drew; have hF : ∀ j, free [0, 1, 3, 0, 8, 31, 0, 63, 191, 511] 0 j = true → (fun j w' => (j = 4 → w'.cell? ⟨b11, 1, none⟩ = some (.slice a9 y5.v.length q10)) ∧ True) j (World.drew w14) := fun j hj => ⟨fun _ => hc.cell (k := 0) rfl rfl rfl, trivial⟩; refine Wdrw (fun j w' => (j = 4 → w'.cell? ⟨b11, 1, none⟩ = some (.slice a9 y5.v.length q10)) ∧ True) [0, 1, 3, 0, 8, 31, 0, 63, 191, 511] 0 2 rfl (by kernel_rfl) (hF) ?_; generalize hw : World.drew w14 = w15 at *; clear hw; refine ds (v := .pointer (some ⟨b11, 0, none⟩)) rfl (fun w' hF => fax 0 rfl Try.underlying83 rfl Try.sizeOf24 rfl rfl rfl) rfl ?_; refine dx rfl (ld rfl Try.isAgg24 (Ctx.cell hc (k := 0) rfl rfl rfl)) rfl rfl ?_; replace hc := hc.dup (k := 1) rfl rfl; replace hp := bind_some hp; obtain ⟨r16, hr16, hp⟩ := hp; refine dc (cl Try.call30 rfl rfl) rfl rfl ?_; refine slices_Clone_s_int8_int8_any reads_ro hc hr16 ?_; clear hc; intro a17 n18 q19 w20 hc; obtain ⟨u21, _⟩ := Ctx.rdLen hc (k := 0) rfl rfl reads_own; subst u21; refine ⟨fun j hj hb => ⟨fun _ => hc.cell (k := 2) rfl rfl rfl, trivial⟩, ?_⟩; refine ds (v := .pointer (some ⟨b11, 1, none⟩)) rfl (fun w' hF => fax 1 rfl Try.underlying83 rfl Try.sizeOf24 rfl rfl rfl) rfl ?_; refine ds rfl (fun w' hF => ld rfl Try.isAgg24 ((hF.1 rfl))) rfl ?_; replace hc := hc.dup (k := 4) rfl rfl; replace hp := bind_some hp; obtain ⟨r22, hr22, hp⟩ := hp; refine dc (cl Try.call30 rfl rfl) rfl rfl ?_; refine slices_Clone_s_int8_int8_any reads_ro hc hr22 ?_; clear hc; intro a23 n24 q25 w26 hc; obtain ⟨u27, _⟩ := Ctx.rdLen hc (k := 0) rfl rfl reads_own; subst u27; refine ⟨fun j hj hb => ⟨fun e => (by subst e; exact absurd hj (by decide)), trivial⟩, ?_⟩; refine dM (.bool ((mget x0.kept (⟨x1, x2⟩ : S_model_spot)).isSome)) rfl rfl rfl ?_; refine dA (.slice a17 r16.length q19) rfl rfl rfl ?_; refine dA (.slice a23 r22.length q25) rfl rfl rfl ?_; refine dA (.bool ((mget x0.kept (⟨x1, x2⟩ : S_model_spot)).isSome)) rfl rfl rfl ?_; refine dn (qn (Wret ?_)); replace hc := hc.dup (k := 8) rfl rfl; replace hc := Ctx.p9 (Ctx.p1 (Ctx.p10 hc)); replace hc := S_model_Run.fd (x := x0) hc; replace hc := Ctx.p2 (Ctx.p1 (Ctx.r2 (Ctx.r4 (Ctx.r5 (Ctx.r6 (Ctx.r7 (Ctx.r8 hc))))))); injection hp with hp; subst hp; refine f3 (v := .slice a17 r16.length q19) (u := .slice a23 r22.length q25) (z := .bool ((mget x0.kept (⟨x1, x2⟩ : S_model_spot)).isSome)) Try.results15 Try.ntmps15 rfl rfl rfl ?_; exact ⟨_, rfl, k _ _ _ _ _ _ _ hc⟩

def ref04_Bytes.L1 (x0 : (List Int)) (x1 : (List Int)) : Nat → Int → Option (Bool)
  | 0, _ => none
  | m1 + 1, j2 =>
    if j2 < ((x0.length : Nat) : Int) then
      (idx x0 j2).bind fun y6 =>
      (idx x1 j2).bind fun y15 =>
      if y6 ≠ y15 then
        some false
      else
        (ref04_Bytes.L1 x0 x1 m1) (IntKind.i64.wrap (j2 + 1))
    else
      some true

def ref04_Bytes (N : Nat) (x0 : (List Int)) (x1 : (List Int)) : Option (Bool) :=
  if ((x0.length : Nat) : Int) ≠ ((x1.length : Nat) : Int) then
    some false
  else
    ref04_Bytes.L1 x0 x1 N 0

set_option maxHeartbeats 8000000 in
theorem ref04_Bytes_any {N : Nat} {x0 : (List Int)} {ax0 : Option Addr} {nx0 : Nat} {qx0 : Nat} {P0 : HP} {x1 : (List Int)} {ax1 : Option Addr} {nx1 : Nat} {qx1 : Nat} {P1 : HP} {Fr : List HP} {w : World} {r : Bool} {K : Value → World → Prop} (hrd0 : Reads P0 (pInt .i8) (.slice ax0 nx0 qx0) x0) (hrd1 : Reads P1 (pInt .i8) (.slice ax1 nx1 qx1) x1) (hc : Ctx w (P0 :: P1 :: Fr)) (hp : ref04_Bytes N x0 x1 = some r)
    (k : ∀ w', Ctx w' (P0 :: P1 :: Fr) → K (.bool r) w') : Calls Try.prog 16 #[.slice ax0 nx0 qx0, .slice ax1 nx1 qx1] w (Ret K) := by
 unfold ref04_Bytes at hp; refine Center (args := [.slice ax0 nx0 qx0, .slice ax1 nx1 qx1]) (l := [(0, .slice ax0 nx0 qx0), (1, .slice ax1 nx1 qx1)]) Try.func16 Try.ntmps16 rfl rfl rfl ?_; obtain ⟨hn0, _⟩ := Ctx.rdLen hc (k := 0) rfl rfl hrd0; subst hn0; obtain ⟨hn1, _⟩ := Ctx.rdLen hc (k := 1) rfl rfl hrd1; subst hn1; refine Wseq (Wreg ?_); refine rA (.bool false) rfl rfl ?_; refine rn (qn (Wseq (Wseq (Wreg ?_)))); refine rM (.slice ax0 x0.length qx0) rfl rfl ?_; refine rs (ln rfl Try.underlying24) rfl ?_; refine rM (.slice ax1 x1.length qx1) rfl rfl ?_; refine rs (ln rfl Try.underlying24) rfl ?_; refine rs (ned rfl rfl) rfl ?_; refine rn (qn ?_); cases hb1 : (decide (((x0.length : Nat) : Int) ≠ ((x1.length : Nat) : Int)))
 · replace hp := gneg hp (of_decide_eq_false hb1); refine Wcf rfl (Wskip (qn (Wseq (Wseq (Wreg ?_))))); refine rA (.int .i64 0) rfl rfl ?_; refine rn (qn (Wblk ?_)); refine Wloop [4, 5, 11, 12, 13, 14, 15, 16, 17, 18, 19, 20, 21, 22, 23, 24, 25] [5] (fun m vs w' => ∃ j2 : Int, vs = [.int .i64 j2] ∧ ref04_Bytes.L1 x0 x1 m j2 = some r ∧ Ctx w' (P0 :: P1 :: Fr)) N ?_ ?_
   · exact ⟨0, rfl, hp, hc⟩
   · clear hp hc; intro m vs u w3 hJ; obtain ⟨j2, rfl, hp, hc⟩ := hJ; rcases m with _ | m1
     · cases (show none = some r from hp)
     rw [ref04_Bytes.L1] at hp; refine Wseq (Wseq (Wreg ?_)); refine rM (.int .i64 j2) rfl rfl ?_; refine rM (.slice ax0 x0.length qx0) rfl rfl ?_; refine rs (ln rfl Try.underlying24) rfl ?_; refine rs (lt' rfl rfl) rfl ?_; refine rn (qn ?_); cases hb4 : (decide (j2 < ((x0.length : Nat) : Int)))
     · replace hp := gneg hp (of_decide_eq_false hb4); refine Wcf rfl (Wexit (qx (qx (be (qn (Wseq (Wreg ?_))))))); refine rA (.bool true) rfl rfl ?_; refine rn (qn (Wret ?_)); injection hp with hp; subst hp; refine f1 (v := .bool true) Try.results16 Try.ntmps16 rfl ?_; exact ⟨_, rfl, k _ hc⟩
     · replace hp := gpos hp (of_decide_eq_true hb4); refine Wct rfl (Wskip (qn (Wseq (Wblk (Wseq ?_))))); replace hc := hc.drew; refine Wdrw (fun _ w' => w' = World.drew w3) [0, 0, 3, 7, 0, 0, 48, 112, 255] 0 0 rfl (by kernel_rfl) (fun _ _ => rfl) ?_; generalize hw : World.drew w3 = w5 at *; clear hw; refine dM (.slice ax0 x0.length qx0) rfl rfl rfl ?_; refine dM (.int .i64 j2) rfl rfl rfl ?_; replace hp := bind_some hp; obtain ⟨y6, hy6, hp⟩ := hp; obtain ⟨b9, o10, u11, hi7, hi8⟩ := Ctx.rdAt hc (k := 0) rfl rfl hrd0 hy6; subst u11; refine dE (ixx rfl rfl Try.underlying24 Try.sizeOf86 hi7 hi8 rfl) rfl rfl ?_; replace hc := Ctx.rdCell hc (k := 0) rfl rfl hrd0 hy6; obtain ⟨cs12, hc, hcell13⟩ := hc; replace hc := Ctx.holdC hc; obtain ⟨u14, hc⟩ := hc; subst u14; refine dE (ld rfl Try.isAgg86 (hcell13 0 _ rfl)) rfl rfl ?_; refine dM (.slice ax1 x1.length qx1) rfl rfl rfl ?_; refine dM (.int .i64 j2) rfl rfl rfl ?_; replace hp := bind_some hp; obtain ⟨y15, hy15, hp⟩ := hp; obtain ⟨b18, o19, u20, hi16, hi17⟩ := Ctx.rdAt hc (k := 1) rfl rfl hrd1 hy15; subst u20; refine dE (ixx rfl rfl Try.underlying24 Try.sizeOf86 hi16 hi17 rfl) rfl rfl ?_; replace hc := Ctx.rdCell hc (k := 1) rfl rfl hrd1 hy15; obtain ⟨cs21, hc, hcell22⟩ := hc; replace hc := Ctx.holdC hc; obtain ⟨u23, hc⟩ := hc; subst u23; refine dE (ld rfl Try.isAgg86 (hcell22 0 _ rfl)) rfl rfl ?_; refine dE (ned rfl rfl) rfl rfl ?_; refine dn (qn ?_); cases hb24 : (decide (y6 ≠ y15))
       · replace hp := gneg hp (of_decide_eq_false hb24); refine Wcf rfl (Wskip (bn (qn (Wreg ?_)))); refine rM (.int .i64 j2) rfl rfl ?_; refine rs (adw rfl rfl) rfl ?_; refine rA (.int .i64 (IntKind.i64.wrap (j2 + 1))) rfl rfl ?_; refine rn (qn ?_); exact ⟨m1, Nat.lt_succ_self _, ⟨(IntKind.i64.wrap (j2 + 1)), rfl, hp, hc⟩, (kl rfl k0)⟩
       · replace hp := gpos hp (of_decide_eq_true hb24); refine Wct rfl (Wseq (Wreg ?_)); refine rA (.bool false) rfl rfl ?_; refine rn (qn (Wret (br (qr (qr (br (qr ?_))))))); injection hp with hp; subst hp; refine f1 (v := .bool false) Try.results16 Try.ntmps16 rfl ?_; exact ⟨_, rfl, k _ hc⟩
 · replace hp := gpos hp (of_decide_eq_true hb1); refine Wct rfl (Wseq (Wreg ?_)); refine rA (.bool false) rfl rfl ?_; refine rn (qn (Wret (qr ?_))); injection hp with hp; subst hp; refine f1 (v := .bool false) Try.results16 Try.ntmps16 rfl ?_; exact ⟨_, rfl, k _ hc⟩

def law08_ModelParts.L5 (N : Nat) (r15 : ((Option S_model_Model) × (Option S_ref08_Run))) (r67 : ((List Int) × Int × S_model_Run)) (r102 : ((List Int) × Int × S_model_Run)) (j133 : Int) (k4 : Int → Option (Bool)) : Nat → Int → Option (Bool)
  | 0, _ => none
  | m5 + 1, j144 =>
    (model_Model_Shape r15.1).bind fun r146 =>
    if j144 < r146.Layers then
      (model_Run_Kept r67.2.2 j144 j133).bind fun r149 =>
      (model_Run_Kept r102.2.2 j144 j133).bind fun r159 =>
      if r159.2.2 = true then
        (ref04_Bytes N r149.1 r159.1).bind fun r170 =>
        if r170 = true then
          (ref04_Bytes N r149.2.1 r159.2.1).bind fun r173 =>
          if r173 = true then
            (law08_ModelParts.L5 N r15 r67 r102 j133 k4 m5) (IntKind.i64.wrap (j144 + 1))
          else
            some false
        else
          some false
      else
        some false
    else
      k4 (IntKind.i64.wrap (j133 + 1))

def law08_ModelParts.L4 (N : Nat) (r15 : ((Option S_model_Model) × (Option S_ref08_Run))) (j42 : (List Int)) (r67 : ((List Int) × Int × S_model_Run)) (r102 : ((List Int) × Int × S_model_Run)) (j108 : S_model_Run) : Nat → Int → Option (Bool)
  | 0, _ => none
  | m4 + 1, j133 =>
    if j133 < ((j42.length : Nat) : Int) then
      law08_ModelParts.L5 N r15 r67 r102 j133 (law08_ModelParts.L4 N r15 j42 r67 r102 j108 m4) N 0
    else
      (model_Run_Place r67.2.2).bind fun r136 =>
      if r136 = ((j42.length : Nat) : Int) then
        (model_Run_Place r102.2.2).bind fun r139 =>
        if r139 = ((j42.length : Nat) : Int) then
          (model_Run_Place j108).bind fun r142 =>
          some (decide (r142 = ((j42.length : Nat) : Int)))
        else
          some false
      else
        some false

def law08_ModelParts.J3 (N : Nat) (r15 : ((Option S_model_Model) × (Option S_ref08_Run))) (j42 : (List Int)) (r67 : ((List Int) × Int × S_model_Run)) (r102 : ((List Int) × Int × S_model_Run)) (j108 : S_model_Run) (j117 : Bool) : Option (Bool) :=
  if j117 = true then
    some false
  else
    law08_ModelParts.L4 N r15 j42 r67 r102 j108 N 0

def law08_ModelParts.L2 (N : Nat) (r15 : ((Option S_model_Model) × (Option S_ref08_Run))) (j42 : (List Int)) (e57 : Int) (r67 : ((List Int) × Int × S_model_Run)) (r90 : ((List Int) × Int × S_model_Run)) (r102 : ((List Int) × Int × S_model_Run)) : Nat → S_model_Run → (List Int) → Int → Option (Bool)
  | 0, _, _, _ => none
  | m2 + 1, j108, j109, j113 =>
    if j113 < ((j42.length : Nat) : Int) then
      (idx j42 j113).bind fun y176 =>
      (model_Run_Feed N j108 ([y176])).bind fun r187 =>
      (law08_ModelParts.L2 N r15 j42 e57 r67 r90 r102 m2) r187.2.2 r187.1 (IntKind.i64.wrap (j113 + 1))
    else
      if r67.2.1 ≠ 0 then
        law08_ModelParts.J3 N r15 j42 r67 r102 j108 true
      else
        if r90.2.1 ≠ 0 then
          law08_ModelParts.J3 N r15 j42 r67 r102 j108 true
        else
          if r102.2.1 ≠ 0 then
            law08_ModelParts.J3 N r15 j42 r67 r102 j108 true
          else
            (ref04_Ints N r67.1 j109).bind fun r121 =>
            if r121 = true then
              if e57 < ((j42.length : Nat) : Int) then
                (ref04_Ints N r67.1 r90.1).bind fun r125 =>
                if r125 = true then
                  (ref04_Ints N r67.1 r102.1).bind fun r128 =>
                  if r128 = true then
                    law08_ModelParts.J3 N r15 j42 r67 r102 j108 false
                  else
                    law08_ModelParts.J3 N r15 j42 r67 r102 j108 true
                else
                  law08_ModelParts.J3 N r15 j42 r67 r102 j108 true
              else
                law08_ModelParts.J3 N r15 j42 r67 r102 j108 false
            else
              law08_ModelParts.J3 N r15 j42 r67 r102 j108 true

def law08_ModelParts.J1 (N : Nat) (x2 : Int) (r15 : ((Option S_model_Model) × (Option S_ref08_Run))) (j42 : (List Int)) : Option (Bool) :=
  chk ((IntKind.i64.wrap (((j42.length : Nat) : Int) + 1)) ≠ 0) <|
  chk ((IntKind.i64.wrap (((j42.length : Nat) : Int) + 1)) ≠ 0) <|
  (some (Int.tmod (IntKind.i64.wrap ((IntKind.i64.wrap ((Int.tmod x2 (IntKind.i64.wrap (((j42.length : Nat) : Int) + 1))) + ((j42.length : Nat) : Int))) + 1)) (IntKind.i64.wrap (((j42.length : Nat) : Int) + 1)))).bind fun e57 =>
  (model_Model_Run r15.1).bind fun r58 =>
  (model_Model_Run r15.1).bind fun r61 =>
  (model_Model_Run r15.1).bind fun r64 =>
  (model_Run_Feed N r58 j42).bind fun r67 =>
  chk (0 ≤ e57 ∧ e57 ≤ ((j42.length : Nat) : Int)) <|
  (model_Run_Feed N r61 (j42.take (e57).toNat)).bind fun r75 =>
  (model_Run_Fork N r75.2.2).bind fun r81 =>
  chk (0 ≤ e57 ∧ e57 ≤ ((j42.length : Nat) : Int) ∧ ((j42.length : Nat) : Int) ≤ ((j42.length : Nat) : Int)) <|
  (model_Run_Feed N r75.2.2 ((j42.take (((j42.length : Nat) : Int)).toNat).drop (e57).toNat)).bind fun r90 =>
  chk (0 ≤ e57 ∧ e57 ≤ ((j42.length : Nat) : Int) ∧ ((j42.length : Nat) : Int) ≤ ((j42.length : Nat) : Int)) <|
  (model_Run_Feed N r81 ((j42.take (((j42.length : Nat) : Int)).toNat).drop (e57).toNat)).bind fun r102 =>
  law08_ModelParts.L2 N r15 j42 e57 r67 r90 r102 N r64 ([]) 0

def law08_ModelParts (N : Nat) (x0 : S_law08_Seeds) (x1 : (List Int)) (x2 : Int) : Option (Bool) :=
  (law08_awake N).bind fun r8 =>
  if r8 = true then
    if ((x1.length : Nat) : Int) > 20 then
      (law08_awake N).bind fun r195 =>
      some r195
    else
      if ((x0.Xs.length : Nat) : Int) > 2000 then
        (law08_awake N).bind fun r193 =>
        some r193
      else
        (law08_made N (⟨x0.N.c0, x0.N.c1, x0.N.c2, x0.N.c3, x0.N.c4, x0.N.c5⟩ : A6_i64) x0.Seed x0.Xs).bind fun r15 =>
        optc r15.1 (
          some false) fun y20 =>
          (model_Model_Shape r15.1).bind fun r34 =>
          (law08_fits N x1 r34.Vocab).bind fun r36 =>
          (model_Model_Shape r15.1).bind fun r46 =>
          if ((r36.length : Nat) : Int) > r46.Places then
            (model_Model_Shape r15.1).bind fun r49 =>
            chk (0 ≤ r49.Places ∧ r49.Places ≤ ((r36.length : Nat) : Int)) <|
            law08_ModelParts.J1 N x2 r15 (r36.take (r49.Places).toNat)
          else
            law08_ModelParts.J1 N x2 r15 r36
  else
    (law08_awake N).bind fun r11 =>
    some r11

set_option maxHeartbeats 8000000 in
theorem law08_ModelParts_any {N : Nat} {x0 : S_law08_Seeds} {a1 : Option Addr} {n2 : Nat} {q3 : Nat} {x1 : (List Int)} {ax1 : Option Addr} {nx1 : Nat} {qx1 : Nat} {P1 : HP} {x2 : Int} {Fr : List HP} {w : World} {r : Bool} {K : Value → World → Prop} (hrd1 : Reads P1 (pInt .i64) (.slice ax1 nx1 qx1) x1) (hc : Ctx w (Hold (pRo (pInt .i8)) [.slice a1 n2 q3] x0.Xs :: P1 :: Fr)) (hp : law08_ModelParts N x0 x1 x2 = some r)
    (k : ∀ w', Ctx w' (P1 :: Fr) → K (.bool r) w') : Calls Try.prog 3 #[.agg #[.int .i64 x0.N.c0, .int .i64 x0.N.c1, .int .i64 x0.N.c2, .int .i64 x0.N.c3, .int .i64 x0.N.c4, .int .i64 x0.N.c5, .int .u64 x0.Seed, .slice a1 n2 q3], .slice ax1 nx1 qx1, .int .i64 x2] w (Ret K) := by
 unfold law08_ModelParts at hp; refine Center (args := [.agg #[.int .i64 x0.N.c0, .int .i64 x0.N.c1, .int .i64 x0.N.c2, .int .i64 x0.N.c3, .int .i64 x0.N.c4, .int .i64 x0.N.c5, .int .u64 x0.Seed, .slice a1 n2 q3], .slice ax1 nx1 qx1, .int .i64 x2]) (l := [(0, .agg #[.int .i64 x0.N.c0, .int .i64 x0.N.c1, .int .i64 x0.N.c2, .int .i64 x0.N.c3, .int .i64 x0.N.c4, .int .i64 x0.N.c5, .int .u64 x0.Seed, .slice a1 n2 q3]), (1, .slice ax1 nx1 qx1), (2, .int .i64 x2)]) Try.func3 Try.ntmps3 rfl rfl rfl ?_; obtain ⟨hn1, _⟩ := Ctx.rdLen hc (k := 1) rfl rfl hrd1; subst hn1; obtain ⟨u4, _⟩ := Ctx.rdLen hc (k := 0) rfl rfl reads_ro; subst u4; refine Wseq (Wreg ?_); refine rsE (Ctx.boxOp (cs := [.int .i64 x0.N.c0, .int .i64 x0.N.c1, .int .i64 x0.N.c2, .int .i64 x0.N.c3, .int .i64 x0.N.c4, .int .i64 x0.N.c5, .int .u64 x0.Seed, .slice a1 x0.Xs.length q3]) (v := .agg #[.int .i64 x0.N.c0, .int .i64 x0.N.c1, .int .i64 x0.N.c2, .int .i64 x0.N.c3, .int .i64 x0.N.c4, .int .i64 x0.N.c5, .int .u64 x0.Seed, .slice a1 x0.Xs.length q3]) hc rfl rfl) rfl ?_; clear hc; rintro _ w7 ⟨b5, rfl, hc⟩; refine rA (.bool false) rfl rfl ?_; refine rn (qn (Wseq (Wseq (Wreg ?_)))); replace hp := bind_some hp; obtain ⟨r8, hr8, hp⟩ := hp; refine rc (cl Try.call7 rfl rfl) rfl ?_; refine law08_awake_any hc hr8 ?_; clear hc; intro w9 hc; cases hb10 : r8
 · replace hp := gneg hp (by rw [hb10]; exact Bool.false_ne_true); subst hb10; refine rs (ntf rfl) rfl ?_; refine rM (.bool true) rfl rfl ?_; (iterate 3 refine r0 rfl ?_); refine rs (v := .bool true) (pkt (v := .bool true) rfl rfl) rfl ?_; refine rM (.bool true) rfl rfl ?_; (iterate 4 refine r0 rfl ?_); refine rs (v := .bool true) (pkt (v := .bool true) rfl rfl) rfl ?_; refine rn (qn (Wct rfl (Wseq (Wreg ?_)))); replace hp := bind_some hp; obtain ⟨r11, hr11, hp⟩ := hp; refine rc (cl Try.call7 rfl rfl) rfl ?_; refine law08_awake_any hc hr11 ?_; clear hc; intro w12 hc; refine rA (.bool r11) rfl rfl ?_; refine rn (qn (Wret (qr ?_))); replace hc := Ctx.r0 (Ctx.r1 hc); injection hp with hp; subst hp; refine f1 (v := .bool r11) Try.results3 Try.ntmps3 rfl ?_; exact ⟨_, rfl, k _ hc⟩
 · replace hp := gpos hp hb10; subst hb10; refine rs (ntt rfl) rfl ?_; refine rM (.bool false) rfl rfl ?_; refine rM (.slice ax1 x1.length qx1) rfl rfl ?_; refine rs (ln rfl Try.underlying27) rfl ?_; refine rs (gt' rfl rfl) rfl ?_; refine rs (v := .bool (decide (((x1.length : Nat) : Int) > 20))) (pkf (v := .bool (decide (((x1.length : Nat) : Int) > 20))) rfl rfl) rfl ?_; refine rM (.bool (decide (((x1.length : Nat) : Int) > 20))) rfl rfl ?_; cases hb13 : (decide (((x1.length : Nat) : Int) > 20))
   · replace hp := gneg hp (of_decide_eq_false hb13); refine rs (v := .pointer (some ⟨b5, 7, none⟩)) (fax 7 rfl Try.underlying26 rfl Try.sizeOf24 rfl rfl rfl) rfl ?_; refine rs (ld rfl Try.isAgg24 (Ctx.cell hc (k := 0) rfl rfl rfl)) rfl ?_; refine rs (ln rfl Try.underlying24) rfl ?_; refine rs (gt' rfl rfl) rfl ?_; refine rs (v := .bool (decide (((x0.Xs.length : Nat) : Int) > 2000))) (pkf (v := .bool (decide (((x0.Xs.length : Nat) : Int) > 2000))) rfl rfl) rfl ?_; refine rn (qn ?_); cases hb14 : (decide (((x0.Xs.length : Nat) : Int) > 2000))
     · replace hp := gneg hp (of_decide_eq_false hb14); refine Wcf rfl (Wskip (qn (Wseq (Wreg ?_)))); refine rs (v := .pointer (some ⟨b5, 0, none⟩)) (fax 0 rfl Try.underlying26 rfl Try.sizeOf22 rfl rfl rfl) rfl ?_; refine rs (v := .agg #[.int .i64 x0.N.c0, .int .i64 x0.N.c1, .int .i64 x0.N.c2, .int .i64 x0.N.c3, .int .i64 x0.N.c4, .int .i64 x0.N.c5]) (ldg rfl Try.isAgg22 Try.sizeOf22 rfl (Ctx.cells hc (k := 0) rfl rfl 0 (vs := [.int .i64 x0.N.c0, .int .i64 x0.N.c1, .int .i64 x0.N.c2, .int .i64 x0.N.c3, .int .i64 x0.N.c4, .int .i64 x0.N.c5]) rfl)) rfl ?_; refine rs (v := .pointer (some ⟨b5, 6, none⟩)) (fax 6 rfl Try.underlying26 rfl Try.sizeOf23 rfl rfl rfl) rfl ?_; refine rs (ld rfl Try.isAgg23 (Ctx.cell hc (k := 0) rfl rfl rfl)) rfl ?_; refine rs (v := .pointer (some ⟨b5, 7, none⟩)) (fax 7 rfl Try.underlying26 rfl Try.sizeOf24 rfl rfl rfl) rfl ?_; refine rs (ld rfl Try.isAgg24 (Ctx.cell hc (k := 0) rfl rfl rfl)) rfl ?_; replace hc := hc.dup (k := 1) rfl rfl; replace hp := bind_some hp; obtain ⟨r15, hr15, hp⟩ := hp; refine rc (cl Try.call8 rfl rfl) rfl ?_; refine law08_made_any (x0 := (⟨x0.N.c0, x0.N.c1, x0.N.c2, x0.N.c3, x0.N.c4, x0.N.c5⟩ : A6_i64)) reads_ro hc hr15 ?_; clear hc; intro v16 v17 w18 hc; refine rM (.tuple #[v16, v17]) rfl rfl ?_; refine rs (ext (v := v16) rfl rfl) rfl ?_; refine rs (ext (v := v17) rfl rfl) rfl ?_; refine rA (v16) rfl rfl ?_; refine rA (v17) rfl rfl ?_; refine rn (qn (Wseq (Wseq (Wreg ?_)))); refine rM (v16) rfl rfl ?_; cases hb19 : r15.1
       · replace hp := optN hp hb19; rw [hb19] at hc; replace hc := Ctx.poE hc; obtain ⟨u21, hc⟩ := hc; subst u21; refine rs (v := .bool true) (ept Try.underlying29 rfl rfl) rfl ?_; refine rn (qn (Wct rfl (Wseq (Wreg ?_)))); refine rA (.bool false) rfl rfl ?_; refine rn (qn (Wret (qr ?_))); replace hc := Ctx.r0 (Ctx.r1 (Ctx.r2 (Ctx.r3 hc))); injection hp with hp; subst hp; refine f1 (v := .bool false) Try.results3 Try.ntmps3 rfl ?_; exact ⟨_, rfl, k _ hc⟩
       · rename_i y20; replace hp := optS hp hb19; replace hc := Ctx.poF hc hb19; obtain ⟨b22, cs23, u24, hc⟩ := hc; subst u24; replace hc := S_model_Model.op hc; obtain ⟨a26, q27, a28, q29, a30, q31, a32, q33, u25, hc⟩ := hc; subst u25; refine rs (v := .bool false) (epf Try.underlying29 rfl rfl) rfl ?_; refine rn (qn (Wcf rfl (Wskip (qn (Wseq (Wreg ?_)))))); refine rM (.slice ax1 x1.length qx1) rfl rfl ?_; refine rM (.pointer (some ⟨b22, 0, none⟩)) rfl rfl ?_; replace hc := hc.dup (k := 5) rfl rfl; replace hp := bind_some hp; obtain ⟨r34, hr34, hp⟩ := hp; refine rc (cl Try.call10 rfl rfl) rfl ?_; refine model_Model_Shape_any hc hr34 ?_; clear hc; intro w35 hc; refine rs (v := .int .i64 r34.Vocab) (fldv (cs := [.int .i64 r34.Layers, .int .i64 r34.Width, .int .i64 r34.Heads, .int .i64 r34.Inner, .int .i64 r34.Vocab, .int .i64 r34.Places]) rfl Try.underlying35 rfl Try.isAgg3 rfl) rfl ?_; replace hp := bind_some hp; obtain ⟨r36, hr36, hp⟩ := hp; replace hc := Ctx.p10 hc; refine rc (cl Try.call9 rfl rfl) rfl ?_; refine law08_fits_any hrd1 hc hr36 ?_; clear hc; intro a37 n38 q39 w40 hc; obtain ⟨u41, _⟩ := Ctx.rdLen hc (k := 0) rfl rfl reads_own; subst u41; refine rA (.slice a37 r36.length q39) rfl rfl ?_; refine rn (qn ?_); refine Wseqm [9, 62, 63, 64, 65, 66, 67, 68, 69, 70, 71, 72] [9] (fun vs w' => ∃ j42 : (List Int), ∃ a43 : Option Addr, ∃ n44 : Nat, ∃ q45 : Nat, vs = [.slice a43 n44 q45] ∧ law08_ModelParts.J1 N x2 r15 j42 = some r ∧ Ctx w' (P1 :: Hold (pRo (pInt .i8)) [.slice a26 y20.w.Embed.V.length q27] y20.w.Embed.V :: Hold (pRo S_api_Block.pr) [.slice a28 y20.w.Blocks.length q29] y20.w.Blocks :: Hold (pRo (pInt .i8)) [.slice a30 y20.w.Last.length q31] y20.w.Last :: Hold (pRo (pInt .i8)) [.slice a32 y20.w.Head.V.length q33] y20.w.Head.V :: FrB b22 [.int .i64 y20.w.Shape.Layers, .int .i64 y20.w.Shape.Width, .int .i64 y20.w.Shape.Heads, .int .i64 y20.w.Shape.Inner, .int .i64 y20.w.Shape.Vocab, .int .i64 y20.w.Shape.Places, .int .i64 y20.w.Embed.Rows, .int .i64 y20.w.Embed.Cols, .slice a26 y20.w.Embed.V.length q27, .slice a28 y20.w.Blocks.length q29, .slice a30 y20.w.Last.length q31, .int .i64 y20.w.Head.Rows, .int .i64 y20.w.Head.Cols, .slice a32 y20.w.Head.V.length q33] :: Hold (pPo S_model_Model.pr) [(.pointer (some ⟨b22, 0, none⟩))] r15.1 :: Hold (pRo (pInt .i64)) [.slice a43 n44 q45] j42 :: Fr)) ?_ ?_
         · refine Wseq (Wreg ?_); refine rM (.slice a37 r36.length q39) rfl rfl ?_; refine rs (ln rfl Try.underlying27) rfl ?_; refine rM (.pointer (some ⟨b22, 0, none⟩)) rfl rfl ?_; replace hc := hc.dup (k := 7) rfl rfl; replace hp := bind_some hp; obtain ⟨r46, hr46, hp⟩ := hp; refine rc (cl Try.call10 rfl rfl) rfl ?_; refine model_Model_Shape_any hc hr46 ?_; clear hc; intro w47 hc; refine rs (v := .int .i64 r46.Places) (fldv (cs := [.int .i64 r46.Layers, .int .i64 r46.Width, .int .i64 r46.Heads, .int .i64 r46.Inner, .int .i64 r46.Vocab, .int .i64 r46.Places]) rfl Try.underlying35 rfl Try.isAgg3 rfl) rfl ?_; refine rs (gt' rfl rfl) rfl ?_; refine rn (qn ?_); cases hb48 : (decide (((r36.length : Nat) : Int) > r46.Places))
           · replace hp := gneg hp (of_decide_eq_false hb48); refine Wcf rfl (Wskip (qn ?_)); replace hc := hc.freeze (k := 0) rfl rfl rfl; replace hc := Ctx.n0 hc; replace hc := hc.dup (k := 0) rfl rfl; replace hc := Ctx.p7 (Ctx.p7 (Ctx.p7 (Ctx.p7 (Ctx.p7 (Ctx.p7 (Ctx.p7 (Ctx.r1 (Ctx.r9 (Ctx.r10 (Ctx.r11 (Ctx.r12 hc))))))))))); exact ⟨⟨r36, a37, r36.length, q39, rfl, hp, hc⟩, (kl rfl kb)⟩
           · replace hp := gpos hp (of_decide_eq_true hb48); refine Wct rfl (Wreg ?_); refine rM (.slice a37 r36.length q39) rfl rfl ?_; refine rM (.pointer (some ⟨b22, 0, none⟩)) rfl rfl ?_; replace hc := hc.dup (k := 7) rfl rfl; replace hp := bind_some hp; obtain ⟨r49, hr49, hp⟩ := hp; refine rc (cl Try.call10 rfl rfl) rfl ?_; refine model_Model_Shape_any hc hr49 ?_; clear hc; intro w50 hc; refine rs (v := .int .i64 r49.Places) (fldv (cs := [.int .i64 r49.Layers, .int .i64 r49.Width, .int .i64 r49.Heads, .int .i64 r49.Inner, .int .i64 r49.Vocab, .int .i64 r49.Places]) rfl Try.underlying35 rfl Try.isAgg3 rfl) rfl ?_; replace hp := chk_some hp; obtain ⟨hg51, hp⟩ := hp; refine rsE (Ctx.subOp0 (hv := r49.Places) hc (k := 0) rfl rfl reads_own rfl ⟨_, rfl⟩ Try.underlying27 Try.sizeOf3 hg51) rfl ?_; rintro _ _ ⟨rfl, rfl, rd52⟩; refine rA (.slice a37 ((r49.Places).toNat) q39) rfl rfl ?_; refine rn (qn ?_); replace hc := hc.freeze (k := 0) rfl rfl rfl; replace hc := Ctx.n0 hc; replace hc := hc.dup (k := 0) rfl rfl; replace hc := Ctx.preRo (hi := (r49.Places).toNat) hc (by omega); replace hc := hc.dup (k := 0) rfl rfl; replace hc := Ctx.p7 (Ctx.p7 (Ctx.p7 (Ctx.p7 (Ctx.p7 (Ctx.p7 (Ctx.r1 (Ctx.r2 (Ctx.r10 (Ctx.r11 (Ctx.r12 (Ctx.r13 hc))))))))))); replace hc := Ctx.p7 hc; exact ⟨⟨(r36.take (r49.Places).toNat), a37, (r49.Places).toNat, q39, rfl, hp, hc⟩, (kl rfl kb)⟩
         · clear hp hc; intro vs u w53 hJ; obtain ⟨j42, a43, n44, q45, rfl, hp, hc⟩ := hJ; obtain ⟨u54, _⟩ := Ctx.rdLen hc (k := 7) rfl rfl reads_ro; subst u54; unfold law08_ModelParts.J1 at hp; refine Wseq (Wreg ?_); refine rM (.int .i64 x2) rfl rfl ?_; refine rM (.slice a43 j42.length q45) rfl rfl ?_; refine rs (ln rfl Try.underlying27) rfl ?_; refine rs (adw rfl rfl) rfl ?_; replace hp := chk_some hp; obtain ⟨hg55, hp⟩ := hp; refine rs (rm rfl rfl hg55) rfl ?_; refine rM (.slice a43 j42.length q45) rfl rfl ?_; refine rs (ln rfl Try.underlying27) rfl ?_; refine rs (adw rfl rfl) rfl ?_; refine rs (adw rfl rfl) rfl ?_; refine rM (.slice a43 j42.length q45) rfl rfl ?_; refine rs (ln rfl Try.underlying27) rfl ?_; refine rs (adw rfl rfl) rfl ?_; replace hp := chk_some hp; obtain ⟨hg56, hp⟩ := hp; refine rs (rm rfl rfl hg56) rfl ?_; replace hp := bind_some hp; obtain ⟨e57, he57, hp⟩ := hp; injection he57 with he57; refine rs (v := .int .i64 e57) (av (v := .int .i64 e57) (by rw [← he57]; rfl)) rfl ?_; refine rn (qn (Wseq (Wreg ?_))); refine rM (.pointer (some ⟨b22, 0, none⟩)) rfl rfl ?_; replace hc := hc.dup (k := 6) rfl rfl; replace hp := bind_some hp; obtain ⟨r58, hr58, hp⟩ := hp; refine rc (cl Try.call11 rfl rfl) rfl ?_; refine model_Model_Run_any hc hr58 ?_; clear hc; intro b59 w60 hc; refine rM (.pointer (some ⟨b22, 0, none⟩)) rfl rfl ?_; replace hc := hc.dup (k := 7) rfl rfl; replace hp := bind_some hp; obtain ⟨r61, hr61, hp⟩ := hp; refine rc (cl Try.call11 rfl rfl) rfl ?_; refine model_Model_Run_any hc hr61 ?_; clear hc; intro b62 w63 hc; refine rM (.pointer (some ⟨b22, 0, none⟩)) rfl rfl ?_; replace hc := hc.dup (k := 8) rfl rfl; replace hp := bind_some hp; obtain ⟨r64, hr64, hp⟩ := hp; refine rc (cl Try.call11 rfl rfl) rfl ?_; refine model_Model_Run_any hc hr64 ?_; clear hc; intro b65 w66 hc; refine rA (.pointer (some ⟨b59, 0, none⟩)) rfl rfl ?_; refine rA (.pointer (some ⟨b62, 0, none⟩)) rfl rfl ?_; refine rA (.pointer (some ⟨b65, 0, none⟩)) rfl rfl ?_; refine rn (qn (Wseq (Wreg ?_))); refine rM (.pointer (some ⟨b59, 0, none⟩)) rfl rfl ?_; refine rM (.slice a43 j42.length q45) rfl rfl ?_; replace hc := hc.dup (k := 10) rfl rfl; replace hp := bind_some hp; obtain ⟨r67, hr67, hp⟩ := hp; replace hc := Ctx.p3 hc; refine rc (cl Try.call12 rfl rfl) rfl ?_; refine model_Run_Feed_any reads_ro hc hr67 ?_; clear hc; intro a68 n69 q70 w71 hc; obtain ⟨u72, _⟩ := Ctx.rdLen hc (k := 0) rfl rfl reads_own; subst u72; refine rM (.tuple #[.slice a68 r67.1.length q70, .int .i64 r67.2.1]) rfl rfl ?_; refine rs (ext (v := .slice a68 r67.1.length q70) rfl rfl) rfl ?_; refine rs (ext (v := .int .i64 r67.2.1) rfl rfl) rfl ?_; refine rA (.slice a68 r67.1.length q70) rfl rfl ?_; refine rA (.int .i64 r67.2.1) rfl rfl ?_; refine rn (qn (Wseq (Wreg ?_))); refine rM (.pointer (some ⟨b62, 0, none⟩)) rfl rfl ?_; refine rM (.slice a43 j42.length q45) rfl rfl ?_; refine rM (.int .i64 e57) rfl rfl ?_; replace hp := chk_some hp; obtain ⟨hg73, hp⟩ := hp; refine rsE (Ctx.subOp0 (hv := e57) hc (k := 12) rfl rfl reads_ro rfl ⟨_, rfl⟩ Try.underlying27 Try.sizeOf3 hg73) rfl ?_; rintro _ _ ⟨rfl, rfl, rd74⟩; replace hc := hc.dup (k := 12) rfl rfl; replace hp := bind_some hp; obtain ⟨r75, hr75, hp⟩ := hp; replace hc := Ctx.p5 hc; refine rc (cl Try.call12 rfl rfl) rfl ?_; refine model_Run_Feed_any rd74 hc hr75 ?_; clear hc; intro a76 n77 q78 w79 hc; obtain ⟨u80, _⟩ := Ctx.rdLen hc (k := 0) rfl rfl reads_own; subst u80; refine rn (qn (Wseq (Wreg ?_))); refine rM (.pointer (some ⟨b62, 0, none⟩)) rfl rfl ?_; replace hp := bind_some hp; obtain ⟨r81, hr81, hp⟩ := hp; replace hc := Ctx.p1 hc; refine rc (cl Try.call13 rfl rfl) rfl ?_; refine model_Run_Fork_any hc hr81 ?_; clear hc; intro b82 w83 hc; refine rA (.pointer (some ⟨b82, 0, none⟩)) rfl rfl ?_; refine rn (qn (Wseq (Wreg ?_))); refine rM (.pointer (some ⟨b62, 0, none⟩)) rfl rfl ?_; refine rM (.slice a43 j42.length q45) rfl rfl ?_; refine rM (.int .i64 e57) rfl rfl ?_; replace hp := chk_some hp; obtain ⟨hg84, hp⟩ := hp; refine rsE (Ctx.subOp (li := some e57) (hi' := none) hc (k := 15) rfl rfl reads_ro rfl ⟨_, rfl⟩ trivial Try.underlying27 Try.sizeOf3 hg84) rfl ?_; rintro _ _ ⟨rfl, a85, q86, rfl, rd87, ea88, eq89⟩; replace rd87 : Reads (Hold (pRo (pInt .i64)) [.slice a43 j42.length q45] j42) (pInt .i64) (.slice a85 ((((j42.length : Nat) : Int)).toNat - (e57).toNat) q86) ((j42.take (((j42.length : Nat) : Int)).toNat).drop (e57).toNat) := rd87; replace hc := hc.dup (k := 15) rfl rfl; replace hp := bind_some hp; obtain ⟨r90, hr90, hp⟩ := hp; replace hc := Ctx.p2 hc; refine rc (cl Try.call12 rfl rfl) rfl ?_; refine model_Run_Feed_any rd87 hc hr90 ?_; clear hc; intro a91 n92 q93 w94 hc; obtain ⟨u95, _⟩ := Ctx.rdLen hc (k := 0) rfl rfl reads_own; subst u95; refine rM (.tuple #[.slice a91 r90.1.length q93, .int .i64 r90.2.1]) rfl rfl ?_; refine rs (ext (v := .slice a91 r90.1.length q93) rfl rfl) rfl ?_; refine rs (ext (v := .int .i64 r90.2.1) rfl rfl) rfl ?_; refine rA (.slice a91 r90.1.length q93) rfl rfl ?_; refine rA (.int .i64 r90.2.1) rfl rfl ?_; refine rn (qn (Wseq (Wreg ?_))); refine rM (.pointer (some ⟨b82, 0, none⟩)) rfl rfl ?_; refine rM (.slice a43 j42.length q45) rfl rfl ?_; refine rM (.int .i64 e57) rfl rfl ?_; replace hp := chk_some hp; obtain ⟨hg96, hp⟩ := hp; refine rsE (Ctx.subOp (li := some e57) (hi' := none) hc (k := 17) rfl rfl reads_ro rfl ⟨_, rfl⟩ trivial Try.underlying27 Try.sizeOf3 hg96) rfl ?_; rintro _ _ ⟨rfl, a97, q98, rfl, rd99, ea100, eq101⟩; replace rd99 : Reads (Hold (pRo (pInt .i64)) [.slice a43 j42.length q45] j42) (pInt .i64) (.slice a97 ((((j42.length : Nat) : Int)).toNat - (e57).toNat) q98) ((j42.take (((j42.length : Nat) : Int)).toNat).drop (e57).toNat) := rd99; replace hc := hc.dup (k := 17) rfl rfl; replace hp := bind_some hp; obtain ⟨r102, hr102, hp⟩ := hp; replace hc := Ctx.p4 hc; refine rc (cl Try.call12 rfl rfl) rfl ?_; refine model_Run_Feed_any rd99 hc hr102 ?_; clear hc; intro a103 n104 q105 w106 hc; obtain ⟨u107, _⟩ := Ctx.rdLen hc (k := 0) rfl rfl reads_own; subst u107; refine rM (.tuple #[.slice a103 r102.1.length q105, .int .i64 r102.2.1]) rfl rfl ?_; refine rs (ext (v := .slice a103 r102.1.length q105) rfl rfl) rfl ?_; refine rs (ext (v := .int .i64 r102.2.1) rfl rfl) rfl ?_; refine rA (.slice a103 r102.1.length q105) rfl rfl ?_; refine rA (.int .i64 r102.2.1) rfl rfl ?_; refine rn (qn (Wseq (Wreg ?_))); refine rA (.slice none 0 0) rfl rfl ?_; refine rn (qn (Wseq (Wseq (Wreg ?_)))); refine rA (.int .i64 0) rfl rfl ?_; refine rn (qn (Wblk ?_)); replace hc := hc.nilOwn (pInt .i32) 21; replace hc := Ctx.p14 (Ctx.p14 (Ctx.p14 (Ctx.p14 (Ctx.p14 (Ctx.p14 (Ctx.r3 (Ctx.r5 (Ctx.r6 (Ctx.r7 (Ctx.r8 (Ctx.r11 hc))))))))))); replace hc := Ctx.p14 (Ctx.p14 (Ctx.p14 (Ctx.p14 (Ctx.p14 (Ctx.p14 (Ctx.p14 (Ctx.p14 hc))))))); refine Wloop [21, 22, 121, 122, 123, 124, 125, 126, 127, 128, 129, 130, 131, 132, 133, 134, 135, 136] [21, 22] (fun m vs w' => ∃ j108 : S_model_Run, ∃ j109 : (List Int), ∃ j113 : Int, ∃ a110 : Option Addr, ∃ n111 : Nat, ∃ q112 : Nat, vs = [.slice a110 n111 q112, .int .i64 j113] ∧ law08_ModelParts.L2 N r15 j42 e57 r67 r90 r102 m j108 j109 j113 = some r ∧ Ctx w' (Own (pInt .i32) 21 (.slice a103 r102.1.length q105) r102.1 :: S_model_Run.hp b82 r102.2.2 :: Own (pInt .i32) 21 (.slice a91 r90.1.length q93) r90.1 :: Own (pInt .i32) 21 (.slice a68 r67.1.length q70) r67.1 :: S_model_Run.hp b59 r67.2.2 :: S_model_Run.hp b65 j108 :: P1 :: Hold (pRo (pInt .i8)) [.slice a26 y20.w.Embed.V.length q27] y20.w.Embed.V :: Hold (pRo S_api_Block.pr) [.slice a28 y20.w.Blocks.length q29] y20.w.Blocks :: Hold (pRo (pInt .i8)) [.slice a30 y20.w.Last.length q31] y20.w.Last :: Hold (pRo (pInt .i8)) [.slice a32 y20.w.Head.V.length q33] y20.w.Head.V :: FrB b22 [.int .i64 y20.w.Shape.Layers, .int .i64 y20.w.Shape.Width, .int .i64 y20.w.Shape.Heads, .int .i64 y20.w.Shape.Inner, .int .i64 y20.w.Shape.Vocab, .int .i64 y20.w.Shape.Places, .int .i64 y20.w.Embed.Rows, .int .i64 y20.w.Embed.Cols, .slice a26 y20.w.Embed.V.length q27, .slice a28 y20.w.Blocks.length q29, .slice a30 y20.w.Last.length q31, .int .i64 y20.w.Head.Rows, .int .i64 y20.w.Head.Cols, .slice a32 y20.w.Head.V.length q33] :: Hold (pPo S_model_Model.pr) [(.pointer (some ⟨b22, 0, none⟩))] r15.1 :: Hold (pRo (pInt .i64)) [.slice a43 j42.length q45] j42 :: Own (pInt .i32) 21 (.slice a110 n111 q112) j109 :: Fr)) N ?_ ?_
           · exact ⟨r64, [], 0, none, 0, 0, rfl, hp, hc⟩
           · clear hp hc; intro m vs u w114 hJ; obtain ⟨j108, j109, j113, a110, n111, q112, rfl, hp, hc⟩ := hJ; obtain ⟨u115, _⟩ := Ctx.rdLen hc (k := 14) rfl rfl reads_own; subst u115; rcases m with _ | m2
             · cases (show none = some r from hp)
             rw [law08_ModelParts.L2] at hp; refine Wseq (Wseq (Wreg ?_)); refine rM (.int .i64 j113) rfl rfl ?_; refine rM (.slice a43 j42.length q45) rfl rfl ?_; refine rs (ln rfl Try.underlying27) rfl ?_; refine rs (lt' rfl rfl) rfl ?_; refine rn (qn ?_); cases hb116 : (decide (j113 < ((j42.length : Nat) : Int)))
             · replace hp := gneg hp (of_decide_eq_false hb116); refine Wcf rfl (Wexit (qx (qx (be (qn (Wseq ?_)))))); refine Wseqm (137 :: 138 :: 139 :: 140 :: 141 :: 142 :: 143 :: 144 :: 145 :: 146 :: 147 :: 148 :: 149 :: 150 :: 151 :: 152 :: 153 :: 154 :: 155 :: 156 :: 157 :: 158 :: 159 :: 160 :: 161 :: 162 :: 163 :: 164 :: 165 :: 166 :: 167 :: 168 :: 169 :: 170 :: []) [170] (fun vs w' => ∃ j117 : Bool, vs = [.bool j117] ∧ law08_ModelParts.J3 N r15 j42 r67 r102 j108 j117 = some r ∧ Ctx w' (S_model_Run.hp b82 r102.2.2 :: S_model_Run.hp b59 r67.2.2 :: S_model_Run.hp b65 j108 :: P1 :: Hold (pRo (pInt .i8)) [.slice a26 y20.w.Embed.V.length q27] y20.w.Embed.V :: Hold (pRo S_api_Block.pr) [.slice a28 y20.w.Blocks.length q29] y20.w.Blocks :: Hold (pRo (pInt .i8)) [.slice a30 y20.w.Last.length q31] y20.w.Last :: Hold (pRo (pInt .i8)) [.slice a32 y20.w.Head.V.length q33] y20.w.Head.V :: FrB b22 [.int .i64 y20.w.Shape.Layers, .int .i64 y20.w.Shape.Width, .int .i64 y20.w.Shape.Heads, .int .i64 y20.w.Shape.Inner, .int .i64 y20.w.Shape.Vocab, .int .i64 y20.w.Shape.Places, .int .i64 y20.w.Embed.Rows, .int .i64 y20.w.Embed.Cols, .slice a26 y20.w.Embed.V.length q27, .slice a28 y20.w.Blocks.length q29, .slice a30 y20.w.Last.length q31, .int .i64 y20.w.Head.Rows, .int .i64 y20.w.Head.Cols, .slice a32 y20.w.Head.V.length q33] :: Hold (pPo S_model_Model.pr) [(.pointer (some ⟨b22, 0, none⟩))] r15.1 :: Hold (pRo (pInt .i64)) [.slice a43 j42.length q45] j42 :: Fr)) ?_ ?_
               · refine Wreg ?_; refine rM (.int .i64 r67.2.1) rfl rfl ?_; refine rs (ned rfl rfl) rfl ?_; refine rM (.bool (decide (r67.2.1 ≠ 0))) rfl rfl ?_; cases hb118 : (decide (r67.2.1 ≠ 0))
                 · replace hp := gneg hp (of_decide_eq_false hb118); refine rM (.int .i64 r90.2.1) rfl rfl ?_; refine rs (ned rfl rfl) rfl ?_; refine rs (v := .bool (decide (r90.2.1 ≠ 0))) (pkf (v := .bool (decide (r90.2.1 ≠ 0))) rfl rfl) rfl ?_; refine rM (.bool (decide (r90.2.1 ≠ 0))) rfl rfl ?_; cases hb119 : (decide (r90.2.1 ≠ 0))
                   · replace hp := gneg hp (of_decide_eq_false hb119); refine rM (.int .i64 r102.2.1) rfl rfl ?_; refine rs (ned rfl rfl) rfl ?_; refine rs (v := .bool (decide (r102.2.1 ≠ 0))) (pkf (v := .bool (decide (r102.2.1 ≠ 0))) rfl rfl) rfl ?_; refine rM (.bool (decide (r102.2.1 ≠ 0))) rfl rfl ?_; cases hb120 : (decide (r102.2.1 ≠ 0))
                     · replace hp := gneg hp (of_decide_eq_false hb120); refine rM (.slice a68 r67.1.length q70) rfl rfl ?_; refine rM (.slice a110 j109.length q112) rfl rfl ?_; replace hp := bind_some hp; obtain ⟨r121, hr121, hp⟩ := hp; replace hc := Ctx.p4 (Ctx.p14 hc); refine rc (cl Try.call14 rfl rfl) rfl ?_; refine ref04_Ints_any reads_own reads_own hc hr121 ?_; clear hc; intro w122 hc; cases hb123 : r121
                       · replace hp := gneg hp (by rw [hb123]; exact Bool.false_ne_true); subst hb123; refine rs (ntf rfl) rfl ?_; refine rs (v := .bool true) (pkf (v := .bool true) rfl rfl) rfl ?_; refine rM (.bool true) rfl rfl ?_; (iterate 16 refine r0 rfl ?_); refine rs (v := .bool true) (pkt (v := .bool true) rfl rfl) rfl ?_; refine rn (qn ?_); replace hc := Ctx.r0 (Ctx.r1 (Ctx.r2 (Ctx.r4 hc))); exact ⟨⟨true, rfl, hp, hc⟩, (kl rfl kb)⟩
                       · replace hp := gpos hp hb123; subst hb123; refine rs (ntt rfl) rfl ?_; refine rs (v := .bool false) (pkf (v := .bool false) rfl rfl) rfl ?_; refine rM (.bool false) rfl rfl ?_; refine rM (.int .i64 e57) rfl rfl ?_; refine rM (.slice a43 j42.length q45) rfl rfl ?_; refine rs (ln rfl Try.underlying27) rfl ?_; refine rs (lt' rfl rfl) rfl ?_; refine rM (.bool (decide (e57 < ((j42.length : Nat) : Int)))) rfl rfl ?_; cases hb124 : (decide (e57 < ((j42.length : Nat) : Int)))
                         · replace hp := gneg hp (of_decide_eq_false hb124); (iterate 10 refine r0 rfl ?_); refine rs (v := .bool false) (pkf (v := .bool false) rfl rfl) rfl ?_; refine rs (v := .bool false) (pkf (v := .bool false) rfl rfl) rfl ?_; refine rn (qn ?_); replace hc := Ctx.r0 (Ctx.r1 (Ctx.r2 (Ctx.r4 hc))); exact ⟨⟨false, rfl, hp, hc⟩, (kl rfl kb)⟩
                         · replace hp := gpos hp (of_decide_eq_true hb124); refine rM (.slice a68 r67.1.length q70) rfl rfl ?_; refine rM (.slice a91 r90.1.length q93) rfl rfl ?_; replace hp := bind_some hp; obtain ⟨r125, hr125, hp⟩ := hp; replace hc := Ctx.p1 (Ctx.p4 hc); refine rc (cl Try.call14 rfl rfl) rfl ?_; refine ref04_Ints_any reads_own reads_own hc hr125 ?_; clear hc; intro w126 hc; cases hb127 : r125
                           · replace hp := gneg hp (by rw [hb127]; exact Bool.false_ne_true); subst hb127; refine rs (ntf rfl) rfl ?_; refine rM (.bool true) rfl rfl ?_; (iterate 4 refine r0 rfl ?_); refine rs (v := .bool true) (pkt (v := .bool true) rfl rfl) rfl ?_; refine rs (v := .bool true) (pkt (v := .bool true) rfl rfl) rfl ?_; refine rs (v := .bool true) (pkf (v := .bool true) rfl rfl) rfl ?_; refine rn (qn ?_); replace hc := Ctx.r0 (Ctx.r1 (Ctx.r2 (Ctx.r3 hc))); exact ⟨⟨true, rfl, hp, hc⟩, (kl rfl kb)⟩
                           · replace hp := gpos hp hb127; subst hb127; refine rs (ntt rfl) rfl ?_; refine rM (.bool false) rfl rfl ?_; refine rM (.slice a68 r67.1.length q70) rfl rfl ?_; refine rM (.slice a103 r102.1.length q105) rfl rfl ?_; replace hp := bind_some hp; obtain ⟨r128, hr128, hp⟩ := hp; replace hc := Ctx.p1 (Ctx.p3 hc); refine rc (cl Try.call14 rfl rfl) rfl ?_; refine ref04_Ints_any reads_own reads_own hc hr128 ?_; clear hc; intro w129 hc; cases hb130 : r128
                             · replace hp := gneg hp (by rw [hb130]; exact Bool.false_ne_true); subst hb130; refine rs (ntf rfl) rfl ?_; refine rs (v := .bool true) (pkf (v := .bool true) rfl rfl) rfl ?_; refine rs (v := .bool true) (pkt (v := .bool true) rfl rfl) rfl ?_; refine rs (v := .bool true) (pkf (v := .bool true) rfl rfl) rfl ?_; refine rn (qn ?_); replace hc := Ctx.r0 (Ctx.r1 (Ctx.r2 (Ctx.r3 hc))); exact ⟨⟨true, rfl, hp, hc⟩, (kl rfl kb)⟩
                             · replace hp := gpos hp hb130; subst hb130; refine rs (ntt rfl) rfl ?_; refine rs (v := .bool false) (pkf (v := .bool false) rfl rfl) rfl ?_; refine rs (v := .bool false) (pkt (v := .bool false) rfl rfl) rfl ?_; refine rs (v := .bool false) (pkf (v := .bool false) rfl rfl) rfl ?_; refine rn (qn ?_); replace hc := Ctx.r0 (Ctx.r1 (Ctx.r2 (Ctx.r3 hc))); exact ⟨⟨false, rfl, hp, hc⟩, (kl rfl kb)⟩
                     · replace hp := gpos hp (of_decide_eq_true hb120); (iterate 4 refine r0 rfl ?_); refine rs (v := .bool true) (pkt (v := .bool true) rfl rfl) rfl ?_; refine rM (.bool true) rfl rfl ?_; (iterate 16 refine r0 rfl ?_); refine rs (v := .bool true) (pkt (v := .bool true) rfl rfl) rfl ?_; refine rn (qn ?_); replace hc := Ctx.r0 (Ctx.r2 (Ctx.r3 (Ctx.r14 hc))); exact ⟨⟨true, rfl, hp, hc⟩, (kl rfl kb)⟩
                   · replace hp := gpos hp (of_decide_eq_true hb119); (iterate 2 refine r0 rfl ?_); refine rs (v := .bool true) (pkt (v := .bool true) rfl rfl) rfl ?_; refine rM (.bool true) rfl rfl ?_; (iterate 4 refine r0 rfl ?_); refine rs (v := .bool true) (pkt (v := .bool true) rfl rfl) rfl ?_; refine rM (.bool true) rfl rfl ?_; (iterate 16 refine r0 rfl ?_); refine rs (v := .bool true) (pkt (v := .bool true) rfl rfl) rfl ?_; refine rn (qn ?_); replace hc := Ctx.r0 (Ctx.r2 (Ctx.r3 (Ctx.r14 hc))); exact ⟨⟨true, rfl, hp, hc⟩, (kl rfl kb)⟩
                 · replace hp := gpos hp (of_decide_eq_true hb118); (iterate 2 refine r0 rfl ?_); refine rs (v := .bool true) (pkt (v := .bool true) rfl rfl) rfl ?_; refine rM (.bool true) rfl rfl ?_; (iterate 2 refine r0 rfl ?_); refine rs (v := .bool true) (pkt (v := .bool true) rfl rfl) rfl ?_; refine rM (.bool true) rfl rfl ?_; (iterate 4 refine r0 rfl ?_); refine rs (v := .bool true) (pkt (v := .bool true) rfl rfl) rfl ?_; refine rM (.bool true) rfl rfl ?_; (iterate 16 refine r0 rfl ?_); refine rs (v := .bool true) (pkt (v := .bool true) rfl rfl) rfl ?_; refine rn (qn ?_); replace hc := Ctx.r0 (Ctx.r2 (Ctx.r3 (Ctx.r14 hc))); exact ⟨⟨true, rfl, hp, hc⟩, (kl rfl kb)⟩
               · clear hp hc; intro vs u w131 hJ; obtain ⟨j117, rfl, hp, hc⟩ := hJ; unfold law08_ModelParts.J3 at hp; cases hb132 : j117
                 · replace hp := gneg hp (by rw [hb132]; exact Bool.false_ne_true); subst hb132; refine Wcf rfl (Wskip (qn (Wseq (Wseq (Wreg ?_))))); refine rA (.int .i64 0) rfl rfl ?_; refine rn (qn (Wblk ?_)); refine Wloop (6 :: 23 :: 24 :: 25 :: 26 :: 27 :: 28 :: 29 :: 30 :: 171 :: 172 :: 173 :: 174 :: 175 :: 176 :: 177 :: 178 :: 179 :: 180 :: 181 :: 182 :: 183 :: 184 :: 185 :: 186 :: 187 :: 188 :: 189 :: 190 :: 191 :: 192 :: 193 :: 194 :: 195 :: 196 :: 197 :: 198 :: 199 :: 200 :: 201 :: 202 :: 203 :: 204 :: 205 :: 206 :: 207 :: 208 :: 209 :: 210 :: 211 :: 212 :: 213 :: []) [23] (fun m vs w' => ∃ j133 : Int, vs = [.int .i64 j133] ∧ law08_ModelParts.L4 N r15 j42 r67 r102 j108 m j133 = some r ∧ Ctx w' (S_model_Run.hp b82 r102.2.2 :: S_model_Run.hp b59 r67.2.2 :: S_model_Run.hp b65 j108 :: P1 :: Hold (pRo (pInt .i8)) [.slice a26 y20.w.Embed.V.length q27] y20.w.Embed.V :: Hold (pRo S_api_Block.pr) [.slice a28 y20.w.Blocks.length q29] y20.w.Blocks :: Hold (pRo (pInt .i8)) [.slice a30 y20.w.Last.length q31] y20.w.Last :: Hold (pRo (pInt .i8)) [.slice a32 y20.w.Head.V.length q33] y20.w.Head.V :: FrB b22 [.int .i64 y20.w.Shape.Layers, .int .i64 y20.w.Shape.Width, .int .i64 y20.w.Shape.Heads, .int .i64 y20.w.Shape.Inner, .int .i64 y20.w.Shape.Vocab, .int .i64 y20.w.Shape.Places, .int .i64 y20.w.Embed.Rows, .int .i64 y20.w.Embed.Cols, .slice a26 y20.w.Embed.V.length q27, .slice a28 y20.w.Blocks.length q29, .slice a30 y20.w.Last.length q31, .int .i64 y20.w.Head.Rows, .int .i64 y20.w.Head.Cols, .slice a32 y20.w.Head.V.length q33] :: Hold (pPo S_model_Model.pr) [(.pointer (some ⟨b22, 0, none⟩))] r15.1 :: Hold (pRo (pInt .i64)) [.slice a43 j42.length q45] j42 :: Fr)) N ?_ ?_
                   · exact ⟨0, rfl, hp, hc⟩
                   · clear hp hc; intro m vs u w134 hJ; obtain ⟨j133, rfl, hp, hc⟩ := hJ; rcases m with _ | m4
                     · cases (show none = some r from hp)
                     rw [law08_ModelParts.L4] at hp; refine Wseq (Wseq (Wreg ?_)); refine rM (.int .i64 j133) rfl rfl ?_; refine rM (.slice a43 j42.length q45) rfl rfl ?_; refine rs (ln rfl Try.underlying27) rfl ?_; refine rs (lt' rfl rfl) rfl ?_; refine rn (qn ?_); cases hb135 : (decide (j133 < ((j42.length : Nat) : Int)))
                     · replace hp := gneg hp (of_decide_eq_false hb135); refine Wcf rfl (Wexit (qx (qx (be (qn (Wseq (Wreg ?_))))))); refine rM (.pointer (some ⟨b59, 0, none⟩)) rfl rfl ?_; replace hp := bind_some hp; obtain ⟨r136, hr136, hp⟩ := hp; replace hc := Ctx.p1 hc; refine rc (cl Try.call17 rfl rfl) rfl ?_; refine model_Run_Place_any hc hr136 ?_; clear hc; intro w137 hc; refine rM (.slice a43 j42.length q45) rfl rfl ?_; refine rs (ln rfl Try.underlying27) rfl ?_; refine rs (eqd rfl rfl) rfl ?_; refine rM (.bool (decide (r136 = ((j42.length : Nat) : Int)))) rfl rfl ?_; cases hb138 : (decide (r136 = ((j42.length : Nat) : Int)))
                       · replace hp := gneg hp (of_decide_eq_false hb138); (iterate 5 refine r0 rfl ?_); refine rs (v := .bool false) (pkf (v := .bool false) rfl rfl) rfl ?_; refine rM (.bool false) rfl rfl ?_; (iterate 5 refine r0 rfl ?_); refine rs (v := .bool false) (pkf (v := .bool false) rfl rfl) rfl ?_; refine rA (.bool false) rfl rfl ?_; refine rn (qn (Wret ?_)); replace hc := Ctx.r0 (Ctx.r1 (Ctx.r2 (Ctx.r4 (Ctx.r5 (Ctx.r6 (Ctx.r7 (Ctx.r8 (Ctx.r9 (Ctx.r10 hc))))))))); injection hp with hp; subst hp; refine f1 (v := .bool false) Try.results3 Try.ntmps3 rfl ?_; exact ⟨_, rfl, k _ hc⟩
                       · replace hp := gpos hp (of_decide_eq_true hb138); refine rM (.pointer (some ⟨b82, 0, none⟩)) rfl rfl ?_; replace hp := bind_some hp; obtain ⟨r139, hr139, hp⟩ := hp; replace hc := Ctx.p1 hc; refine rc (cl Try.call17 rfl rfl) rfl ?_; refine model_Run_Place_any hc hr139 ?_; clear hc; intro w140 hc; refine rM (.slice a43 j42.length q45) rfl rfl ?_; refine rs (ln rfl Try.underlying27) rfl ?_; refine rs (eqd rfl rfl) rfl ?_; refine rs (v := .bool (decide (r139 = ((j42.length : Nat) : Int)))) (pkt (v := .bool (decide (r139 = ((j42.length : Nat) : Int)))) rfl rfl) rfl ?_; refine rM (.bool (decide (r139 = ((j42.length : Nat) : Int)))) rfl rfl ?_; cases hb141 : (decide (r139 = ((j42.length : Nat) : Int)))
                         · replace hp := gneg hp (of_decide_eq_false hb141); (iterate 5 refine r0 rfl ?_); refine rs (v := .bool false) (pkf (v := .bool false) rfl rfl) rfl ?_; refine rA (.bool false) rfl rfl ?_; refine rn (qn (Wret ?_)); replace hc := Ctx.r0 (Ctx.r1 (Ctx.r2 (Ctx.r4 (Ctx.r5 (Ctx.r6 (Ctx.r7 (Ctx.r8 (Ctx.r9 (Ctx.r10 hc))))))))); injection hp with hp; subst hp; refine f1 (v := .bool false) Try.results3 Try.ntmps3 rfl ?_; exact ⟨_, rfl, k _ hc⟩
                         · replace hp := gpos hp (of_decide_eq_true hb141); refine rM (.pointer (some ⟨b65, 0, none⟩)) rfl rfl ?_; replace hp := bind_some hp; obtain ⟨r142, hr142, hp⟩ := hp; replace hc := Ctx.p2 hc; refine rc (cl Try.call17 rfl rfl) rfl ?_; refine model_Run_Place_any hc hr142 ?_; clear hc; intro w143 hc; refine rM (.slice a43 j42.length q45) rfl rfl ?_; refine rs (ln rfl Try.underlying27) rfl ?_; refine rs (eqd rfl rfl) rfl ?_; refine rs (v := .bool (decide (r142 = ((j42.length : Nat) : Int)))) (pkt (v := .bool (decide (r142 = ((j42.length : Nat) : Int)))) rfl rfl) rfl ?_; refine rA (.bool (decide (r142 = ((j42.length : Nat) : Int)))) rfl rfl ?_; refine rn (qn (Wret ?_)); replace hc := Ctx.r0 (Ctx.r1 (Ctx.r2 (Ctx.r4 (Ctx.r5 (Ctx.r6 (Ctx.r7 (Ctx.r8 (Ctx.r9 (Ctx.r10 hc))))))))); injection hp with hp; subst hp; refine f1 (v := .bool (decide (r142 = ((j42.length : Nat) : Int)))) Try.results3 Try.ntmps3 rfl ?_; exact ⟨_, rfl, k _ hc⟩
                     · replace hp := gpos hp (of_decide_eq_true hb135); refine Wct rfl (Wskip (qn (Wseq (Wblk (Wseq (Wreg ?_)))))); refine rA (.int .i64 0) rfl rfl ?_; refine rn (qn (Wblk ?_)); refine Wloop (6 :: 24 :: 25 :: 26 :: 27 :: 28 :: 29 :: 30 :: 177 :: 178 :: 179 :: 180 :: 181 :: 182 :: 183 :: 184 :: 185 :: 186 :: 187 :: 188 :: 189 :: 190 :: 191 :: 192 :: 193 :: 194 :: 195 :: 196 :: 197 :: 198 :: 199 :: 200 :: 201 :: 202 :: 203 :: 204 :: 205 :: 206 :: 207 :: 208 :: 209 :: 210 :: 211 :: 212 :: 213 :: []) [24] (fun m vs w' => ∃ j144 : Int, vs = [.int .i64 j144] ∧ law08_ModelParts.L5 N r15 r67 r102 j133 (law08_ModelParts.L4 N r15 j42 r67 r102 j108 m4) m j144 = some r ∧ Ctx w' (S_model_Run.hp b82 r102.2.2 :: S_model_Run.hp b59 r67.2.2 :: S_model_Run.hp b65 j108 :: P1 :: Hold (pRo (pInt .i8)) [.slice a26 y20.w.Embed.V.length q27] y20.w.Embed.V :: Hold (pRo S_api_Block.pr) [.slice a28 y20.w.Blocks.length q29] y20.w.Blocks :: Hold (pRo (pInt .i8)) [.slice a30 y20.w.Last.length q31] y20.w.Last :: Hold (pRo (pInt .i8)) [.slice a32 y20.w.Head.V.length q33] y20.w.Head.V :: FrB b22 [.int .i64 y20.w.Shape.Layers, .int .i64 y20.w.Shape.Width, .int .i64 y20.w.Shape.Heads, .int .i64 y20.w.Shape.Inner, .int .i64 y20.w.Shape.Vocab, .int .i64 y20.w.Shape.Places, .int .i64 y20.w.Embed.Rows, .int .i64 y20.w.Embed.Cols, .slice a26 y20.w.Embed.V.length q27, .slice a28 y20.w.Blocks.length q29, .slice a30 y20.w.Last.length q31, .int .i64 y20.w.Head.Rows, .int .i64 y20.w.Head.Cols, .slice a32 y20.w.Head.V.length q33] :: Hold (pPo S_model_Model.pr) [(.pointer (some ⟨b22, 0, none⟩))] r15.1 :: Hold (pRo (pInt .i64)) [.slice a43 j42.length q45] j42 :: Fr)) N ?_ ?_
                       · exact ⟨0, rfl, hp, hc⟩
                       · clear hp hc; intro m vs u w145 hJ; obtain ⟨j144, rfl, hp, hc⟩ := hJ; rcases m with _ | m5
                         · cases (show none = some r from hp)
                         rw [law08_ModelParts.L5] at hp; refine Wseq (Wseq (Wreg ?_)); refine rM (.int .i64 j144) rfl rfl ?_; refine rM (.pointer (some ⟨b22, 0, none⟩)) rfl rfl ?_; replace hc := hc.dup (k := 9) rfl rfl; replace hp := bind_some hp; obtain ⟨r146, hr146, hp⟩ := hp; refine rc (cl Try.call10 rfl rfl) rfl ?_; refine model_Model_Shape_any hc hr146 ?_; clear hc; intro w147 hc; refine rs (v := .int .i64 r146.Layers) (fldv (cs := [.int .i64 r146.Layers, .int .i64 r146.Width, .int .i64 r146.Heads, .int .i64 r146.Inner, .int .i64 r146.Vocab, .int .i64 r146.Places]) rfl Try.underlying35 rfl Try.isAgg3 rfl) rfl ?_; refine rs (lt' rfl rfl) rfl ?_; refine rn (qn ?_); cases hb148 : (decide (j144 < r146.Layers))
                         · replace hp := gneg hp (of_decide_eq_false hb148); refine Wcf rfl (Wexit (qx (qx (be (bn (qn (Wreg ?_))))))); refine rM (.int .i64 j133) rfl rfl ?_; refine rs (adw rfl rfl) rfl ?_; refine rA (.int .i64 (IntKind.i64.wrap (j133 + 1))) rfl rfl ?_; refine rn (qn ?_); exact ⟨m4, Nat.lt_succ_self _, ⟨(IntKind.i64.wrap (j133 + 1)), rfl, hp, hc⟩, (kl rfl (km rfl (kl rfl k0)))⟩
                         · replace hp := gpos hp (of_decide_eq_true hb148); refine Wct rfl (Wskip (qn (Wseq (Wblk (Wseq (Wreg ?_)))))); refine rM (.pointer (some ⟨b59, 0, none⟩)) rfl rfl ?_; refine rM (.int .i64 j144) rfl rfl ?_; refine rM (.int .i64 j133) rfl rfl ?_; replace hp := bind_some hp; obtain ⟨r149, hr149, hp⟩ := hp; replace hc := Ctx.p1 hc; refine rc (cl Try.call15 rfl rfl) rfl ?_; refine model_Run_Kept_any hc hr149 ?_; clear hc; intro a150 n151 q152 a153 n154 q155 w156 hc; obtain ⟨u157, _⟩ := Ctx.rdLen hc (k := 0) rfl rfl reads_own; subst u157; obtain ⟨u158, _⟩ := Ctx.rdLen hc (k := 1) rfl rfl reads_own; subst u158; refine rM (.tuple #[.slice a150 r149.1.length q152, .slice a153 r149.2.1.length q155, .bool r149.2.2]) rfl rfl ?_; refine rs (ext (v := .slice a150 r149.1.length q152) rfl rfl) rfl ?_; refine rs (ext (v := .slice a153 r149.2.1.length q155) rfl rfl) rfl ?_; refine rs (ext (v := .bool r149.2.2) rfl rfl) rfl ?_; refine rA (.slice a150 r149.1.length q152) rfl rfl ?_; refine rA (.slice a153 r149.2.1.length q155) rfl rfl ?_; refine rA (.bool r149.2.2) rfl rfl ?_; refine rn (qn (Wseq (Wreg ?_))); refine rM (.pointer (some ⟨b82, 0, none⟩)) rfl rfl ?_; refine rM (.int .i64 j144) rfl rfl ?_; refine rM (.int .i64 j133) rfl rfl ?_; replace hp := bind_some hp; obtain ⟨r159, hr159, hp⟩ := hp; replace hc := Ctx.p3 hc; refine rc (cl Try.call15 rfl rfl) rfl ?_; refine model_Run_Kept_any hc hr159 ?_; clear hc; intro a160 n161 q162 a163 n164 q165 w166 hc; obtain ⟨u167, _⟩ := Ctx.rdLen hc (k := 0) rfl rfl reads_own; subst u167; obtain ⟨u168, _⟩ := Ctx.rdLen hc (k := 1) rfl rfl reads_own; subst u168; refine rM (.tuple #[.slice a160 r159.1.length q162, .slice a163 r159.2.1.length q165, .bool r159.2.2]) rfl rfl ?_; refine rs (ext (v := .slice a160 r159.1.length q162) rfl rfl) rfl ?_; refine rs (ext (v := .slice a163 r159.2.1.length q165) rfl rfl) rfl ?_; refine rs (ext (v := .bool r159.2.2) rfl rfl) rfl ?_; refine rA (.slice a160 r159.1.length q162) rfl rfl ?_; refine rA (.slice a163 r159.2.1.length q165) rfl rfl ?_; refine rA (.bool r159.2.2) rfl rfl ?_; refine rn (qn (Wseq (Wreg ?_))); refine rM (.bool r159.2.2) rfl rfl ?_; cases hb169 : r159.2.2
                           · replace hp := gneg hp (by rw [hb169]; exact Bool.false_ne_true); refine rs (ntf rfl) rfl ?_; refine rM (.bool true) rfl rfl ?_; (iterate 4 refine r0 rfl ?_); refine rs (v := .bool true) (pkt (v := .bool true) rfl rfl) rfl ?_; refine rM (.bool true) rfl rfl ?_; (iterate 4 refine r0 rfl ?_); refine rs (v := .bool true) (pkt (v := .bool true) rfl rfl) rfl ?_; refine rn (qn (Wct rfl (Wseq (Wreg ?_)))); refine rA (.bool false) rfl rfl ?_; refine rn (qn (Wret (br (qr (qr (br (br (qr (qr (br (qr ?_))))))))))); replace hc := Ctx.r2 (Ctx.r3 (Ctx.r4 (Ctx.r5 (Ctx.r6 (Ctx.r8 (Ctx.r9 (Ctx.r10 (Ctx.r11 (Ctx.r12 (Ctx.r13 (Ctx.r14 hc))))))))))); replace hc := Ctx.r0 (Ctx.r1 hc); injection hp with hp; subst hp; refine f1 (v := .bool false) Try.results3 Try.ntmps3 rfl ?_; exact ⟨_, rfl, k _ hc⟩
                           · replace hp := gpos hp hb169; refine rs (ntt rfl) rfl ?_; refine rM (.bool false) rfl rfl ?_; refine rM (.slice a150 r149.1.length q152) rfl rfl ?_; refine rM (.slice a160 r159.1.length q162) rfl rfl ?_; replace hp := bind_some hp; obtain ⟨r170, hr170, hp⟩ := hp; replace hc := Ctx.p3 hc; refine rc (cl Try.call16 rfl rfl) rfl ?_; refine ref04_Bytes_any reads_own reads_own hc hr170 ?_; clear hc; intro w171 hc; cases hb172 : r170
                             · replace hp := gneg hp (by rw [hb172]; exact Bool.false_ne_true); subst hb172; refine rs (ntf rfl) rfl ?_; refine rs (v := .bool true) (pkf (v := .bool true) rfl rfl) rfl ?_; refine rM (.bool true) rfl rfl ?_; (iterate 4 refine r0 rfl ?_); refine rs (v := .bool true) (pkt (v := .bool true) rfl rfl) rfl ?_; refine rn (qn (Wct rfl (Wseq (Wreg ?_)))); refine rA (.bool false) rfl rfl ?_; refine rn (qn (Wret (br (qr (qr (br (br (qr (qr (br (qr ?_))))))))))); replace hc := Ctx.r2 (Ctx.r3 (Ctx.r4 (Ctx.r5 (Ctx.r6 (Ctx.r8 (Ctx.r9 (Ctx.r10 (Ctx.r11 (Ctx.r12 (Ctx.r13 (Ctx.r14 hc))))))))))); replace hc := Ctx.r0 (Ctx.r1 hc); injection hp with hp; subst hp; refine f1 (v := .bool false) Try.results3 Try.ntmps3 rfl ?_; exact ⟨_, rfl, k _ hc⟩
                             · replace hp := gpos hp hb172; subst hb172; refine rs (ntt rfl) rfl ?_; refine rs (v := .bool false) (pkf (v := .bool false) rfl rfl) rfl ?_; refine rM (.bool false) rfl rfl ?_; refine rM (.slice a153 r149.2.1.length q155) rfl rfl ?_; refine rM (.slice a163 r159.2.1.length q165) rfl rfl ?_; replace hp := bind_some hp; obtain ⟨r173, hr173, hp⟩ := hp; replace hc := Ctx.p4 (Ctx.p2 hc); refine rc (cl Try.call16 rfl rfl) rfl ?_; refine ref04_Bytes_any reads_own reads_own hc hr173 ?_; clear hc; intro w174 hc; cases hb175 : r173
                               · replace hp := gneg hp (by rw [hb175]; exact Bool.false_ne_true); subst hb175; refine rs (ntf rfl) rfl ?_; refine rs (v := .bool true) (pkf (v := .bool true) rfl rfl) rfl ?_; refine rn (qn (Wct rfl (Wseq (Wreg ?_)))); refine rA (.bool false) rfl rfl ?_; refine rn (qn (Wret (br (qr (qr (br (br (qr (qr (br (qr ?_))))))))))); replace hc := Ctx.r2 (Ctx.r3 (Ctx.r4 (Ctx.r5 (Ctx.r6 (Ctx.r8 (Ctx.r9 (Ctx.r10 (Ctx.r11 (Ctx.r12 (Ctx.r13 (Ctx.r14 hc))))))))))); replace hc := Ctx.r0 (Ctx.r1 hc); injection hp with hp; subst hp; refine f1 (v := .bool false) Try.results3 Try.ntmps3 rfl ?_; exact ⟨_, rfl, k _ hc⟩
                               · replace hp := gpos hp hb175; subst hb175; refine rs (ntt rfl) rfl ?_; refine rs (v := .bool false) (pkf (v := .bool false) rfl rfl) rfl ?_; refine rn (qn (Wcf rfl (Wskip (bn (qn (Wreg ?_)))))); refine rM (.int .i64 j144) rfl rfl ?_; refine rs (adw rfl rfl) rfl ?_; refine rA (.int .i64 (IntKind.i64.wrap (j144 + 1))) rfl rfl ?_; refine rn (qn ?_); replace hc := Ctx.r0 (Ctx.r1 (Ctx.r2 (Ctx.r3 hc))); exact ⟨m5, Nat.lt_succ_self _, ⟨(IntKind.i64.wrap (j144 + 1)), rfl, hp, hc⟩, (kl rfl k0)⟩
                 · replace hp := gpos hp hb132; subst hb132; refine Wct rfl (Wseq (Wreg ?_)); refine rA (.bool false) rfl rfl ?_; refine rn (qn (Wret (qr ?_))); replace hc := Ctx.r0 (Ctx.r1 (Ctx.r2 (Ctx.r4 (Ctx.r5 (Ctx.r6 (Ctx.r7 (Ctx.r8 (Ctx.r9 (Ctx.r10 hc))))))))); injection hp with hp; subst hp; refine f1 (v := .bool false) Try.results3 Try.ntmps3 rfl ?_; exact ⟨_, rfl, k _ hc⟩
             · replace hp := gpos hp (of_decide_eq_true hb116); refine Wct rfl (Wskip (qn (Wseq (Wblk (Wreg ?_))))); refine rM (.pointer (some ⟨b65, 0, none⟩)) rfl rfl ?_; refine rM (.slice a43 j42.length q45) rfl rfl ?_; refine rM (.int .i64 j113) rfl rfl ?_; replace hp := bind_some hp; obtain ⟨y176, hy176, hp⟩ := hp; obtain ⟨b179, o180, u181, hi177, hi178⟩ := Ctx.rdAt hc (k := 13) rfl rfl reads_ro hy176; subst u181; refine rs (ixx rfl rfl Try.underlying27 Try.sizeOf3 hi177 hi178 rfl) rfl ?_; replace hc := Ctx.rdCell hc (k := 13) rfl rfl reads_ro hy176; obtain ⟨cs182, hc, hcell183⟩ := hc; replace hc := Ctx.holdC hc; obtain ⟨u184, hc⟩ := hc; subst u184; refine rs (ld rfl Try.isAgg3 (hcell183 0 _ rfl)) rfl ?_; refine rsE (Ctx.builtOp (css := [[.int .i64 y176]]) (xs := ([y176] : List Int)) (E := (pInt .i64)) (Ctx.holdsC (f := fun x : Int => [.int .i64 x]) (fun _ _ _ => rfl) hc ([y176] : List Int)) Try.underlying27 Try.sizeOf3 Try.zeroValue3 rfl rfl rfl rfl rfl rfl rfl rfl) rfl ?_; clear hc; rintro _ w186 ⟨a185, rfl, hc⟩; replace hp := bind_some hp; obtain ⟨r187, hr187, hp⟩ := hp; replace hc := Ctx.p6 hc; refine rc (cl Try.call12 rfl rfl) rfl ?_; refine model_Run_Feed_any reads_own hc hr187 ?_; clear hc; intro a188 n189 q190 w191 hc; obtain ⟨u192, _⟩ := Ctx.rdLen hc (k := 0) rfl rfl reads_own; subst u192; refine rM (.tuple #[.slice a188 r187.1.length q190, .int .i64 r187.2.1]) rfl rfl ?_; refine rs (ext (v := .slice a188 r187.1.length q190) rfl rfl) rfl ?_; refine rs (ext (v := .int .i64 r187.2.1) rfl rfl) rfl ?_; refine rA (.slice a188 r187.1.length q190) rfl rfl ?_; refine rn (bn (qn (Wreg ?_))); refine rM (.int .i64 j113) rfl rfl ?_; refine rs (adw rfl rfl) rfl ?_; refine rA (.int .i64 (IntKind.i64.wrap (j113 + 1))) rfl rfl ?_; refine rn (qn ?_); replace hc := Ctx.p14 (Ctx.p9 (Ctx.p14 (Ctx.p14 (Ctx.p14 (Ctx.p14 (Ctx.p14 (Ctx.p14 (Ctx.p14 (Ctx.p14 (Ctx.r2 (Ctx.r16 hc))))))))))); replace hc := Ctx.p14 (Ctx.p14 (Ctx.p14 (Ctx.p14 hc))); exact ⟨m2, Nat.lt_succ_self _, ⟨r187.2.2, r187.1, (IntKind.i64.wrap (j113 + 1)), a188, r187.1.length, q190, rfl, hp, hc⟩, (kl rfl k0)⟩
     · replace hp := gpos hp (of_decide_eq_true hb14); refine Wct rfl (Wseq (Wreg ?_)); replace hp := bind_some hp; obtain ⟨r193, hr193, hp⟩ := hp; refine rc (cl Try.call7 rfl rfl) rfl ?_; refine law08_awake_any hc hr193 ?_; clear hc; intro w194 hc; refine rA (.bool r193) rfl rfl ?_; refine rn (qn (Wret (qr ?_))); replace hc := Ctx.r0 (Ctx.r1 hc); injection hp with hp; subst hp; refine f1 (v := .bool r193) Try.results3 Try.ntmps3 rfl ?_; exact ⟨_, rfl, k _ hc⟩
   · replace hp := gpos hp (of_decide_eq_true hb13); (iterate 4 refine r0 rfl ?_); refine rs (v := .bool true) (pkt (v := .bool true) rfl rfl) rfl ?_; refine rn (qn (Wct rfl (Wseq (Wreg ?_)))); replace hp := bind_some hp; obtain ⟨r195, hr195, hp⟩ := hp; refine rc (cl Try.call7 rfl rfl) rfl ?_; refine law08_awake_any hc hr195 ?_; clear hc; intro w196 hc; refine rA (.bool r195) rfl rfl ?_; refine rn (qn (Wret (qr ?_))); replace hc := Ctx.r0 (Ctx.r1 hc); injection hp with hp; subst hp; refine f1 (v := .bool r195) Try.results3 Try.ntmps3 rfl ?_; exact ⟨_, rfl, k _ hc⟩

end Go.Proofs.Ytdipfegofpfhaaa
end
section
namespace Go.Proofs.Ytdipfegofpfhaaa
open Go Go.RowKit Go.Hp
set_option linter.unusedVariables false
set_option linter.unusedSimpArgs false
set_option maxRecDepth 100000

end Go.Proofs.Ytdipfegofpfhaaa
end
section
namespace Go.Hp
open Go
theorem W_in {x : Int} (h : -9223372036854775808 ≤ x ∧ x ≤ 9223372036854775807) : IntKind.i64.wrap x = x := IntWalk.i64_in x h
theorem W_succ (k : Nat) (h : k < 4611686018427387904) : IntKind.i64.wrap ((k : Int) + 1) = ((k + 1 : Nat) : Int) := by rw [W_in (by omega)]; rfl
theorem W_range (x : Int) : -9223372036854775808 ≤ IntKind.i64.wrap x ∧ IntKind.i64.wrap x ≤ 9223372036854775807 := by
  rw [IntKind.wrap_i64]; omega
theorem W_rest (x : Int) (n : Int) (hn : 0 < n) (hb : n ≤ 1099511627776) : Int.tmod (IntKind.i64.wrap (Int.tmod x n + n)) n = x % n := by
  have a := Int.tmod_lt_of_pos x hn
  have b := Int.lt_tmod_of_pos x hn
  rw [W_in (by omega), Int.tmod_eq_emod_of_nonneg (by omega)]
  have h := Int.tmod_add_mul_tdiv x n
  rw [Int.add_emod_right]
  conv => rhs; rw [← h]
  rw [Int.add_mul_emod_self_left]
theorem W_restN (x : Int) (n : Nat) (hn : 0 < n) (hb : n ≤ 1099511627776) : ∃ k : Nat, k < n ∧ Int.tmod (IntKind.i64.wrap (Int.tmod x n + n)) n = k := by
  rw [W_rest x n (by omega) (by omega)]
  have h1 := Int.emod_nonneg x (show (n : Int) ≠ 0 by omega)
  have h2 := Int.emod_lt_of_pos x (show (0 : Int) < n by omega)
  exact ⟨(x % n).toNat, by omega, by omega⟩
theorem idx_nat {α : Type} (xs : List α) (k : Nat) : idx xs (k : Int) = xs[k]? := by simp [idx]
theorem idx_get {α : Type} (xs : List α) (k : Nat) (h : k < xs.length) : idx xs (k : Int) = some xs[k] := by rw [idx_nat, List.getElem?_eq_getElem h]
theorem app_ok {α : Type} (xs ys : List α) (h : xs.length + ys.length ≤ 4294967296) : app xs ys = some (xs ++ ys) := by unfold app; rw [if_pos h]
theorem chk_ok {α : Type} {p : Prop} [Decidable p] (x : Option α) (h : p) : chk p x = x := by unfold chk; rw [if_pos h]
end Go.Hp
namespace Go.Hp
def tabl {α : Type} (n : Nat) (f : Nat → α) : List α := (List.range n).map f
theorem tabl_len {α : Type} (n : Nat) (f : Nat → α) : (tabl n f).length = n := by simp [tabl]
theorem tabl_get {α : Type} {n : Nat} {f : Nat → α} {i : Nat} (h : i < (tabl n f).length) : (tabl n f)[i] = f i := by simp [tabl]
theorem tabl_get? {α : Type} {n : Nat} {f : Nat → α} {i : Nat} (h : i < n) : (tabl n f)[i]? = some (f i) := by simp [tabl, h]
theorem tabl_set {α : Type} (n : Nat) (f : Nat → α) (i : Nat) (v : α) : (tabl n f).set i v = tabl n (fun j => if j = i then v else f j) := by
  apply List.ext_getElem
  · simp [tabl]
  · intro j h1 h2
    simp only [List.getElem_set, tabl_get]
    by_cases e : i = j
    · subst e; simp
    · rw [if_neg e, if_neg (fun h => e h.symm)]
theorem tabl_rep {α : Type} (n : Nat) (v : α) : List.replicate n v = tabl n (fun _ => v) := by
  apply List.ext_getElem
  · simp [tabl]
  · intro j h1 h2; simp [tabl]
theorem tabl_congr {α : Type} {n : Nat} {f g : Nat → α} (h : ∀ j, j < n → f j = g j) : tabl n f = tabl n g := by
  apply List.ext_getElem
  · simp [tabl]
  · intro j h1 h2
    rw [tabl_get, tabl_get]; exact h j (by simpa [tabl] using h1)
end Go.Hp
end
section
namespace Go.Hp
open Go
set_option linter.unusedVariables false
set_option linter.unusedSimpArgs false
set_option linter.unusedSectionVars false
theorem optc_some {α β : Type} (x : α) (a : Option β) (f : α → Option β) : optc (some x) a f = f x := rfl
section
variable {κ β : Type} [DecidableEq κ]
theorem mget_mset (l : List (κ × β)) (k q : κ) (x : β) : mget (mset l k x) q = if q = k then some x else mget l q := by
  induction l with
  | nil => simp only [mset, mget]; by_cases h : q = k
           · subst h; simp
           · rw [if_neg (fun e => h e.symm), if_neg h]
  | cons p l ih =>
    obtain ⟨k', x'⟩ := p
    simp only [mset]
    by_cases hk : k' = k
    · subst hk
      simp only [if_true, mget]
      by_cases h : q = k'
      · subst h; simp
      · rw [if_neg (fun e => h e.symm), if_neg h, if_neg (fun e => h e.symm)]
    · simp only [hk, if_false, mget, ih]
      by_cases h : k' = q
      · subst h; simp [hk]
      · simp [h]
end
end Go.Hp
end
section
namespace Go.Hp
open Go
set_option linter.unusedVariables false
set_option linter.unusedSimpArgs false
theorem loop_c {σ ρ : Type} (F : Nat → σ → Int → ρ) (c : Nat → σ) (n : Nat) (r : ρ) (hs : ∀ m i, i < n → F (m + 1) (c i) (i : Int) = F m (c (i + 1)) ((i + 1 : Nat) : Int)) (he : ∀ m, F (m + 1) (c n) (n : Int) = r) : ∀ m, n < m → F m (c 0) 0 = r := by
  have key : ∀ d m i, i + d = n → d < m → F m (c i) (i : Int) = r := by
    intro d
    induction d with
    | zero =>
      intro m i hi hm
      obtain ⟨m, rfl⟩ : ∃ q, m = q + 1 := ⟨m - 1, by omega⟩
      obtain rfl : i = n := by omega
      exact he m
    | succ d ih =>
      intro m i hi hm
      obtain ⟨m, rfl⟩ : ∃ q, m = q + 1 := ⟨m - 1, by omega⟩
      rw [hs m i (by omega)]
      exact ih m (i + 1) (by omega) (by omega)
  intro m hm
  exact key n m 0 (by omega) hm
theorem idx_mid {α : Type} (pre : List α) (b : α) (post : List α) : idx (pre ++ b :: post) (pre.length : Int) = some b := by
  rw [idx_nat]; simp
theorem len_snoc {α : Type} (pre : List α) (b : α) : ((pre ++ [b]).length : Int) = ((pre.length + 1 : Nat) : Int) := by simp
end Go.Hp
end
section
namespace Go.Hp
open Go
set_option linter.unusedVariables false
theorem loop_to {σ ρ : Type} (F : Nat → σ → Int → ρ) (ι : Nat → Int) (n : Nat) (Inv : Nat → σ → Prop) (hs : ∀ m i s, i < n → Inv i s → ∃ s', Inv (i + 1) s' ∧ F (m + 1) s (ι i) = F m s' (ι (i + 1))) : ∀ m s, n < m → Inv 0 s → ∃ m' s', Inv n s' ∧ F m s (ι 0) = F (m' + 1) s' (ι n) := by
  have key : ∀ d m i s, i + d = n → d < m → Inv i s → ∃ m' s', Inv n s' ∧ F m s (ι i) = F (m' + 1) s' (ι n) := by
    intro d
    induction d with
    | zero =>
      intro m i s hi hm h
      obtain ⟨m, rfl⟩ : ∃ q, m = q + 1 := ⟨m - 1, by omega⟩
      obtain rfl : i = n := by omega
      exact ⟨m, s, h, rfl⟩
    | succ d ih =>
      intro m i s hi hm h
      obtain ⟨m, rfl⟩ : ∃ q, m = q + 1 := ⟨m - 1, by omega⟩
      obtain ⟨s', h', e⟩ := hs m i s (by omega) h
      rw [e]
      exact ih m (i + 1) s' (by omega) (by omega) h'
  intro m s hm h
  exact key n m 0 s (by omega) hm h
theorem idx_t {α : Type} {n : Nat} (f : Nat → α) {k : Nat} (h : k < n) : idx (tabl n f) (k : Int) = some (f k) := by rw [idx_nat, tabl_get? h]
theorem idx_d {α : Type} (l : List α) (d : α) {k : Nat} (h : k < l.length) : idx l (k : Int) = some (l.getD k d) := by
  rw [idx_get l k h, List.getD_eq_getElem?_getD, List.getElem?_eq_getElem h]; rfl
theorem tabl_succ {α : Type} (n : Nat) (f : Nat → α) : tabl (n + 1) f = tabl n f ++ [f n] := by simp [tabl, List.range_succ]
theorem tab_of {α : Type} (l : List α) (d : α) : l = tabl l.length (fun i => l.getD i d) := by
  apply List.ext_getElem
  · rw [tabl_len]
  · intro i h1 h2
    rw [tabl_get, List.getD_eq_getElem?_getD, List.getElem?_eq_getElem h1]; rfl
theorem len_app1 {α : Type} (l : List α) (x : α) : (l ++ [x]).length = l.length + 1 := by simp
end Go.Hp
end
section
namespace Go.Proofs.Ytdipfegofpfhaaa
open Go Go.Hp
set_option linter.unusedVariables false
set_option linter.unusedSimpArgs false
def sh (x : Int) (n : Nat) : Int := if x % 2 ^ n > 2 ^ n / 2 then x / 2 ^ n + 1 else if x % 2 ^ n = 2 ^ n / 2 then (if 0 < n then (if x / 2 ^ n % 2 = 1 then x / 2 ^ n + 1 else x / 2 ^ n) else x / 2 ^ n) else x / 2 ^ n
theorem pow_pos' (n : Nat) : (0 : Int) < 2 ^ n := by
  have : 0 < 2 ^ n := Nat.two_pow_pos n
  exact_mod_cast this
theorem pow_le62 (k : Nat) (hk2 : k ≤ 62) : (2 : Int) ^ k ≤ 4611686018427387904 := by
  have : 2 ^ k ≤ 2 ^ 62 := Nat.pow_le_pow_right (by decide) hk2
  have hcast : ((2 ^ k : Nat) : Int) = (2 : Int) ^ k := by simp
  rw [← hcast]; omega
theorem half_in (x : Int) (hx : -9223372036854775808 ≤ x ∧ x ≤ 9223372036854775807) (n : Nat) (hn : 0 < n) : -4611686018427387904 ≤ x / 2 ^ n ∧ x / 2 ^ n < 4611686018427387904 := by
  obtain ⟨m, rfl⟩ : ∃ m, n = m + 1 := ⟨n - 1, by omega⟩
  have hp := pow_pos' (m + 1)
  have hpm := pow_pos' m
  have hps : (2 : Int) ^ (m + 1) = 2 ^ m * 2 := Int.pow_succ 2 m
  refine ⟨Int.le_ediv_of_mul_le hp ?_, Int.ediv_lt_of_lt_mul hp ?_⟩
  · have hm : -4611686018427387904 * (2 : Int) ^ (m + 1) ≤ -4611686018427387904 * 2 := Int.mul_le_mul_of_nonpos_left (by decide) (by omega)
    omega
  · have hm : 4611686018427387904 * 2 ≤ 4611686018427387904 * (2 : Int) ^ (m + 1) := Int.mul_le_mul_of_nonneg_left (by omega) (by decide)
    omega
def dots (a b : List Int) : Nat → Int
  | 0 => 0
  | k + 1 => dots a b k + a.getD k 0 * b.getD k 0
def scl (x by_ n lo hi : Int) : Int := min (max (sh (IntKind.i64.wrap (IntKind.i64.wrap x * IntKind.i64.wrap by_)) (min (max n 0) 62).toNat) lo) hi
def matR (m : S_api_Mat) (r c : Nat) : Prop := m.Rows = r ∧ m.Cols = c ∧ m.V.length = r * c
def rowOf (m : S_api_Mat) (c r : Nat) : List Int := tabl c fun j => m.V.getD (r * c + j) 0
def applyS (m : S_api_Mat) (x : List Int) (r c : Nat) : List Int := tabl r fun i => IntKind.i32.wrap (dots (rowOf m c i) x c)
theorem tabl_getD {α : Type} (n : Nat) (f : Nat → α) (d : α) (k : Nat) (h : k < n) : (tabl n f).getD k d = f k := by
  rw [List.getD_eq_getElem?_getD, tabl_get? h]; rfl
theorem dots_congr (a b a' b' : List Int) : ∀ k, (∀ j, j < k → a.getD j 0 = a'.getD j 0 ∧ b.getD j 0 = b'.getD j 0) → dots a b k = dots a' b' k
  | 0, _ => rfl
  | k + 1, h => by
    rw [dots, dots, dots_congr a b a' b' k (fun j hj => h j (by omega)), (h k (by omega)).1, (h k (by omega)).2]
theorem applyS_len (m : S_api_Mat) (x : List Int) (r c : Nat) : (applyS m x r c).length = r := tabl_len _ _
def quantsS (m : S_api_Mat) (x : List Int) (r c : Nat) : List Int := tabl r fun i => IntKind.i8.wrap (scl ((applyS m x r c).getD i 0) 1 7 (-128) 127)
theorem quantsS_len (m : S_api_Mat) (x : List Int) (r c : Nat) : (quantsS m x r c).length = r := tabl_len _ _
theorem wu_in {x : Int} (h : 0 ≤ x ∧ x < 18446744073709551616) : IntKind.u64.wrap x = x := by rw [IntKind.wrap_u64]; omega
def invS (n : Int) : Int := (curve_Inverse 100 n).getD 0
def sqS (x : List Int) : Nat → Int
  | 0 => 0
  | k + 1 => IntKind.u64.wrap (sqS x k + IntKind.u64.wrap (IntKind.i64.wrap (min (max (IntKind.i64.wrap (x.getD k 0)) (-8388608)) 8388607 * min (max (IntKind.i64.wrap (x.getD k 0)) (-8388608)) 8388607)))
def normS (g x : List Int) : List Int := tabl x.length fun i => IntKind.i8.wrap (min (max (sh (IntKind.i64.wrap (IntKind.i64.wrap (min (max (IntKind.i64.wrap (x.getD i 0)) (-8388608)) 8388607 * IntKind.i64.wrap (invS (IntKind.u64.wrap (Int.tdiv (sqS x x.length) (IntKind.u64.wrap ((x.length : Nat) : Int)))))) * IntKind.i64.wrap (g.getD i 0))) 23) (-128)) 127)
theorem normS_len (g x : List Int) : (normS g x).length = x.length := tabl_len _ _
def tbl : List Int := (65536 :: 64132 :: 62757 :: 61413 :: 60097 :: 58809 :: 57549 :: 56316 :: 55109 :: 53928 :: 52773 :: 51642 :: 50535 :: 49452 :: 48393 :: 47356 :: 46341 :: 45348 :: 44376 :: 43425 :: 42495 :: 41584 :: 40693 :: 39821 :: 38968 :: 38133 :: 37316 :: 36516 :: 35734 :: 34968 :: 34219 :: 33486 :: 32768 :: [])
def expS (x : Int) : Int :=
  if x > 0 then 65536 else if x < -10000000 then 0 else
    let t := (0 - x) * 94548 / 65536
    if t / 65536 > 31 then 0 else
    IntKind.i32.wrap (sh (IntKind.i64.wrap (tbl.getD (t % 65536 / 2048).toNat 0 - sh (IntKind.i64.wrap (IntKind.i64.wrap (tbl.getD (t % 65536 / 2048).toNat 0 - tbl.getD ((t % 65536 / 2048).toNat + 1) 0) * (t % 65536 % 2048))) 11)) (t / 65536).toNat)
theorem w32_range (x : Int) : -2147483648 ≤ IntKind.i32.wrap x ∧ IntKind.i32.wrap x ≤ 2147483647 := by rw [IntKind.wrap_i32]; omega
theorem expS_range (x : Int) : -2147483648 ≤ expS x ∧ expS x ≤ 2147483647 := by
  unfold expS
  split
  · decide
  split
  · decide
  dsimp only
  split
  · decide
  · exact w32_range _
def sumS (x : List Int) : Nat → Int
  | 0 => 0
  | k + 1 => if x.getD k 0 > 0 then sumS x k + x.getD k 0 else sumS x k
def sharesS (t : Int) (x : List Int) : List Int := tabl x.length fun i => if x.getD i 0 > 0 ∧ t > 0 then IntKind.i32.wrap (IntKind.i64.wrap (Int.tdiv (IntKind.i64.wrap (IntKind.i64.wrap (x.getD i 0) * IntKind.i64.wrap t)) (sumS x x.length))) else 0
def in32 (x : List Int) : Prop := ∀ k, -2147483648 ≤ x.getD k 0 ∧ x.getD k 0 ≤ 2147483647
theorem sumS_range (x : List Int) (h : in32 x) : ∀ k, 0 ≤ sumS x k ∧ sumS x k ≤ 2147483647 * k ∧ ∀ j, j < k → x.getD j 0 ≤ sumS x k
  | 0 => ⟨Int.le_refl _, Int.le_refl _, fun j hj => by omega⟩
  | k + 1 => by
    obtain ⟨a, b, c⟩ := sumS_range x h k
    have := h k
    rw [sumS]
    by_cases hk : x.getD k 0 > 0
    · rw [if_pos hk]
      refine ⟨by omega, by omega, fun j hj => ?_⟩
      by_cases e : j = k
      · subst e; omega
      · have := c j (by omega); omega
    · rw [if_neg hk]
      refine ⟨a, by omega, fun j hj => ?_⟩
      by_cases e : j = k
      · subst e; omega
      · exact c j (by omega)
theorem sharesS_len (t : Int) (x : List Int) : (sharesS t x).length = x.length := tabl_len _ _
def topS (x : List Int) (t : Int) : Nat → Int
  | 0 => t
  | k + 1 => if x.getD k 0 > topS x t k then x.getD k 0 else topS x t k
def powS (by_ n : Int) (x : List Int) : List Int := tabl x.length fun i => expS (sh (IntKind.i64.wrap (IntKind.i64.wrap (IntKind.i64.wrap (x.getD i 0) - IntKind.i64.wrap (topS x (x.getD i 0) x.length)) * IntKind.i64.wrap by_)) (min (max n 0) 62).toNat)
def softS (by_ n : Int) (x : List Int) : List Int := sharesS 65536 (powS by_ n x)
theorem softS_len (by_ n : Int) (x : List Int) : (softS by_ n x).length = x.length := by rw [softS, sharesS_len, powS, tabl_len]
def accS (ws : List Int) (rows : List (List Int)) (k : Nat) : Nat → Int
  | 0 => 0
  | i + 1 => IntKind.i64.wrap (accS ws rows k i + IntKind.i64.wrap (IntKind.i64.wrap (ws.getD i 0) * IntKind.i64.wrap ((rows.getD i []).getD k 0)))
theorem accS_range (ws : List Int) (rows : List (List Int)) (k : Nat) : ∀ i, -9223372036854775808 ≤ accS ws rows k i ∧ accS ws rows k i ≤ 9223372036854775807
  | 0 => by rw [accS]; decide
  | i + 1 => W_range _
def mixS (ws : List Int) (rows : List (List Int)) (n : Nat) : List Int := tabl n fun k => IntKind.i8.wrap (min (max (sh (accS ws rows k rows.length) 16) (-128)) 127)
theorem mixS_len (ws : List Int) (rows : List (List Int)) (n : Nat) : (mixS ws rows n).length = n := tabl_len _ _
def joinS (x y : List Int) (by_ n : Int) : List Int := tabl x.length fun i => IntKind.i32.wrap (x.getD i 0 + scl (y.getD i 0) by_ n (-2147483648) 2147483647)
theorem joinS_len (x y : List Int) (by_ n : Int) : (joinS x y by_ n).length = x.length := tabl_len _ _
def angS (place pair : Nat) : Int := (place : Int) * (8192 / 2 ^ pair) % 65536
def sinT : List Int := (0 :: 804 :: 1606 :: 2404 :: 3196 :: 3981 :: 4756 :: 5520 :: 6270 :: 7005 :: 7723 :: 8423 :: 9102 :: 9760 :: 10394 :: 11003 :: 11585 :: 12140 :: 12665 :: 13160 :: 13623 :: 14053 :: 14449 :: 14811 :: 15137 :: 15426 :: 15679 :: 15893 :: 16069 :: 16207 :: 16305 :: 16364 :: 16384 :: [])
def arcS (f : Int) : Int := if f / 512 < 32 then IntKind.i64.wrap (sinT.getD (f / 512).toNat 0 + sh (IntKind.i64.wrap (IntKind.i64.wrap (sinT.getD ((f / 512).toNat + 1) 0 - sinT.getD (f / 512).toNat 0) * (f % 512))) 9) else sinT.getD 32 0
def sinS (a : Int) : Int :=
  let r := a % 65536; let q := r / 16384; let f := if q = 1 ∨ q = 3 then 16384 - r % 16384 else r % 16384
  if q = 2 ∨ q = 3 then IntKind.i32.wrap (IntKind.i64.wrap (0 - arcS f)) else IntKind.i32.wrap (arcS f)
def cosS (a : Int) : Int := sinS (a % 65536 + 16384)
def turnA (place : Nat) (x : List Int) (i : Nat) : Int := IntKind.i8.wrap (min (max (sh (IntKind.i64.wrap (IntKind.i64.wrap (IntKind.i64.wrap (x.getD (2 * i) 0) * IntKind.i64.wrap (cosS (angS place i))) - IntKind.i64.wrap (IntKind.i64.wrap (x.getD (2 * i + 1) 0) * IntKind.i64.wrap (sinS (angS place i))))) 14) (-128)) 127)
def turnB (place : Nat) (x : List Int) (i : Nat) : Int := IntKind.i8.wrap (min (max (sh (IntKind.i64.wrap (IntKind.i64.wrap (IntKind.i64.wrap (x.getD (2 * i) 0) * IntKind.i64.wrap (sinS (angS place i))) + IntKind.i64.wrap (IntKind.i64.wrap (x.getD (2 * i + 1) 0) * IntKind.i64.wrap (cosS (angS place i))))) 14) (-128)) 127)
def turnS (place : Nat) (x : List Int) : List Int := tabl (2 * (x.length / 2)) fun k => if k % 2 = 0 then turnA place x (k / 2) else turnB place x (k / 2)
theorem turnS_len (place : Nat) (x : List Int) : (turnS place x).length = 2 * (x.length / 2) := tabl_len _ _
def part (x : List Int) (w h : Nat) : List Int := (x.take ((h + 1) * w)).drop (h * w)
theorem part_len (x : List Int) (w h k : Nat) (hx : x.length = k * w) (hh : h < k) : (part x w h).length = w := by
  have : (h + 1) * w ≤ k * w := Nat.mul_le_mul_right w (by omega)
  unfold part
  rw [List.length_drop, List.length_take, Nat.min_eq_left (by omega), Nat.succ_mul]
  omega
def turnedS (place w : Nat) (x : List Int) : Nat → List Int
  | 0 => []
  | k + 1 => turnedS place w x k ++ turnS place (part x w k)
theorem turnedS_len (place w : Nat) (x : List Int) (n : Nat) (hx : x.length = n * w) (hw : w % 2 = 0) : ∀ k, k ≤ n → (turnedS place w x k).length = k * w
  | 0, _ => by simp [turnedS]
  | k + 1, hk => by
    rw [turnedS, List.length_append, turnedS_len place w x n hx hw k (by omega), turnS_len, part_len x w k n hx (by omega)]
    have : (k + 1) * w = k * w + w := Nat.succ_mul k w
    have : 2 * (w / 2) = w := by omega
    omega
set_option linter.unusedSectionVars false
structure Dim where
  ly : Nat
  h : Nat
  wd : Nat
  inn : Nat
  voc : Nat
  pl : Nat
def Dim.w (d : Dim) : Nat := d.h * d.wd
structure DOK (d : Dim) : Prop where
  ly : 0 < d.ly ∧ d.ly ≤ 3
  h : 0 < d.h ∧ d.h ≤ 4
  wd : 0 < d.wd ∧ d.wd % 2 = 0 ∧ d.wd ≤ 16
  w : d.h * d.wd ≤ 16
  inn : 0 < d.inn ∧ d.inn ≤ 8
  voc : 0 < d.voc ∧ d.voc ≤ 10
  pl : d.pl ≤ 12
structure BOK (d : Dim) (b : S_api_Block) : Prop where
  first : b.First.length = d.w
  second : b.Second.length = d.w
  q : matR b.Q d.w d.w
  k : matR b.K d.w d.w
  v : matR b.V d.w d.w
  o : matR b.O d.w d.w
  up : matR b.Up d.inn d.w
  down : matR b.Down d.w d.inn
structure WOK (d : Dim) (w : S_api_Weights) : Prop where
  layers : w.Shape.Layers = d.ly
  width : w.Shape.Width = (d.w : Nat)
  heads : w.Shape.Heads = d.h
  inner : w.Shape.Inner = d.inn
  vocab : w.Shape.Vocab = d.voc
  places : w.Shape.Places = d.pl
  embed : matR w.Embed d.voc d.w
  blen : w.Blocks.length = d.ly
  blocks : ∀ b ∈ w.Blocks, BOK d b
  last : w.Last.length = d.w
  head : matR w.Head d.voc d.w
def zB : S_api_Block := ⟨[], [], ⟨0, 0, []⟩, ⟨0, 0, []⟩, ⟨0, 0, []⟩, ⟨0, 0, []⟩, ⟨0, 0, []⟩, ⟨0, 0, []⟩⟩
def zK : S_ref08_Kept := ⟨[], []⟩
def KOK (d : Dim) (n : Nat) (k : S_ref08_Kept) : Prop := k.K.length = n ∧ k.V.length = n ∧ (∀ r ∈ k.K, r.length = d.w) ∧ ∀ r ∈ k.V, r.length = d.w
def headS (d : Dim) (L : List S_ref08_Kept) (n : Nat) (q : List Int) (h : Nat) : List Int :=
  mixS (softS 64 0 (tabl L.length fun p => IntKind.i32.wrap (dots (part q d.wd h) (part ((L.getD p zK).K.getD n []) d.wd h) d.wd))) (tabl L.length fun p => part ((L.getD p zK).V.getD n []) d.wd h) d.wd
def attS (d : Dim) (L : List S_ref08_Kept) (n : Nat) (q : List Int) : Nat → List Int
  | 0 => []
  | k + 1 => attS d L n q k ++ headS d L n q k
def reluS (u : List Int) : List Int := tabl u.length fun i => if u.getD i 0 < 0 then 0 else u.getD i 0
def qS (d : Dim) (b : S_api_Block) (place : Nat) (x : List Int) : List Int := turnedS place d.wd (quantsS b.Q (normS b.First x) d.w d.w) d.h
def kS (d : Dim) (b : S_api_Block) (place : Nat) (x : List Int) : List Int := turnedS place d.wd (quantsS b.K (normS b.First x) d.w d.w) d.h
def vS (d : Dim) (b : S_api_Block) (x : List Int) : List Int := quantsS b.V (normS b.First x) d.w d.w
def tailS (d : Dim) (b : S_api_Block) (x heads : List Int) : List Int :=
  let x1 := joinS x (applyS b.O heads d.w d.w) 1 4
  joinS x1 (applyS b.Down (reluS (quantsS b.Up (normS b.Second x1) d.inn d.w)) d.w d.inn) 1 4
def layersS (d : Dim) (w : S_api_Weights) (L : List S_ref08_Kept) (x : List Int) : Nat → S_ref08_Kept × List Int
  | 0 => (zK, x)
  | n + 1 =>
    let s := layersS d w L x n
    let b := w.Blocks.getD n zB
    let k : S_ref08_Kept := ⟨s.1.K ++ [kS d b L.length s.2], s.1.V ++ [vS d b s.2]⟩
    (k, tailS d b s.2 (attS d (L ++ [k]) n (qS d b L.length s.2) d.h))
def inS (d : Dim) (w : S_api_Weights) (t : Nat) : List Int := tabl d.w fun i => IntKind.i32.wrap (16 * IntKind.i32.wrap (w.Embed.V.getD (t * d.w + i) 0))
def keptS (d : Dim) (w : S_api_Weights) (L : List S_ref08_Kept) (t : Nat) : S_ref08_Kept := (layersS d w L (inS d w t) d.ly).1
def outS (d : Dim) (w : S_api_Weights) (L : List S_ref08_Kept) (t : Nat) : List Int := applyS w.Head (normS w.Last (layersS d w L (inS d w t) d.ly).2) d.voc d.w
theorem getD_in {α : Type} (l : List α) (z : α) (k : Nat) (h : k < l.length) : l.getD k z ∈ l := by
  rw [List.getD_eq_getElem?_getD, List.getElem?_eq_getElem h]; exact List.getElem_mem h
theorem matR_eta (m : S_api_Mat) : (⟨m.Rows, m.Cols, m.V⟩ : S_api_Mat) = m := rfl
section
variable {d : Dim} (hd : DOK d)
include hd
theorem dw16 : d.w ≤ 16 := hd.w
theorem headS_len (L : List S_ref08_Kept) (n : Nat) (q : List Int) (h : Nat) : (headS d L n q h).length = d.wd := mixS_len _ _ _
theorem attS_len (L : List S_ref08_Kept) (n : Nat) (q : List Int) : ∀ k, (attS d L n q k).length = k * d.wd
  | 0 => by simp [attS]
  | k + 1 => by rw [attS, List.length_append, attS_len L n q k, headS_len hd, Nat.succ_mul]
end
section
variable {d : Dim} (hd : DOK d)
include hd
theorem kS_len {b : S_api_Block} (hb : BOK d b) (place : Nat) (x : List Int) : (kS d b place x).length = d.w := by
  rw [kS, turnedS_len place d.wd _ d.h (by rw [quantsS_len]; rfl) hd.wd.2.1 d.h (Nat.le_refl _)]; rfl
theorem qS_len {b : S_api_Block} (hb : BOK d b) (place : Nat) (x : List Int) : (qS d b place x).length = d.w := by
  rw [qS, turnedS_len place d.wd _ d.h (by rw [quantsS_len]; rfl) hd.wd.2.1 d.h (Nat.le_refl _)]; rfl
theorem vS_len (b : S_api_Block) (x : List Int) : (vS d b x).length = d.w := quantsS_len _ _ _ _
theorem tailS_len (b : S_api_Block) (x heads : List Int) (hx : x.length = d.w) : (tailS d b x heads).length = d.w := by
  unfold tailS; dsimp only; rw [joinS_len, joinS_len, hx]
theorem layersS_ok {w : S_api_Weights} (hw : WOK d w) (L : List S_ref08_Kept) (x : List Int) (hx : x.length = d.w) : ∀ n, n ≤ d.ly → KOK d n (layersS d w L x n).1 ∧ (layersS d w L x n).2.length = d.w
  | 0, _ => ⟨⟨rfl, rfl, by simp [layersS, zK], by simp [layersS, zK]⟩, hx⟩
  | n + 1, hn => by
    obtain ⟨⟨a, b, c, e⟩, f⟩ := layersS_ok hw L x hx n (by omega)
    have hb : BOK d (w.Blocks.getD n zB) := hw.blocks _ (getD_in _ _ _ (by have := hw.blen; omega))
    rw [layersS]
    dsimp only
    refine ⟨⟨by simp [a], by simp [b], fun r hr => ?_, fun r hr => ?_⟩, tailS_len hd _ _ _ f⟩
    · rcases List.mem_append.1 hr with h | h
      · exact c r h
      · rw [List.mem_singleton] at h; rw [h]; exact kS_len hd hb _ _
    · rcases List.mem_append.1 hr with h | h
      · exact e r h
      · rw [List.mem_singleton] at h; rw [h]; exact vS_len hd _ _
theorem outS_len (w : S_api_Weights) (L : List S_ref08_Kept) (t : Nat) : (outS d w L t).length = d.voc := applyS_len _ _ _ _
theorem keptS_ok {w : S_api_Weights} (hw : WOK d w) (L : List S_ref08_Kept) (t : Nat) : KOK d d.ly (keptS d w L t) := (layersS_ok hd hw L _ (tabl_len _ _) d.ly (Nat.le_refl _)).1
end
def stS (d : Dim) (w : S_api_Weights) : List S_ref08_Kept → List Nat → List S_ref08_Kept
  | L, [] => L
  | L, t :: ts => stS d w (L ++ [keptS d w L t]) ts
def lastS (d : Dim) (w : S_api_Weights) : List S_ref08_Kept → List Int → List Nat → List Int
  | _, y, [] => y
  | L, _, t :: ts => lastS d w (L ++ [keptS d w L t]) (outS d w L t) ts
theorem stS_app (d : Dim) (w : S_api_Weights) : ∀ (ts us : List Nat) (L : List S_ref08_Kept), stS d w L (ts ++ us) = stS d w (stS d w L ts) us
  | [], us, L => rfl
  | t :: ts, us, L => by rw [List.cons_append, stS, stS, stS_app d w ts us]
theorem lastS_app (d : Dim) (w : S_api_Weights) : ∀ (ts us : List Nat) (L : List S_ref08_Kept) (y : List Int), lastS d w L y (ts ++ us) = lastS d w (stS d w L ts) (lastS d w L y ts) us
  | [], us, L, y => rfl
  | t :: ts, us, L, y => by rw [List.cons_append, lastS, lastS, stS, lastS_app d w ts us]
theorem stS_len (d : Dim) (w : S_api_Weights) : ∀ (ts : List Nat) (L : List S_ref08_Kept), (stS d w L ts).length = L.length + ts.length
  | [], L => rfl
  | t :: ts, L => by rw [stS, stS_len d w ts, len_app1, List.length_cons]; omega
section
variable {d : Dim} (hd : DOK d)
include hd
theorem stS_ok {w : S_api_Weights} (hw : WOK d w) : ∀ (ts : List Nat) (L : List S_ref08_Kept), (∀ k ∈ L, KOK d d.ly k) → ∀ k ∈ stS d w L ts, KOK d d.ly k
  | [], L, h => h
  | t :: ts, L, h => by
    rw [stS]
    refine stS_ok hw ts _ fun k hk => ?_
    rcases List.mem_append.1 hk with h1 | h1
    · exact h k h1
    · rw [List.mem_singleton] at h1; rw [h1]; exact keptS_ok hd hw L t
theorem lastS_len (w : S_api_Weights) : ∀ (ts : List Nat) (L : List S_ref08_Kept) (y : List Int), (ts ≠ [] ∨ y.length = d.voc) → (lastS d w L y ts).length = d.voc
  | [], L, y, h => by rcases h with h | h; exact absurd rfl h; exact h
  | t :: ts, L, y, _ => by rw [lastS]; exact lastS_len w ts _ _ (.inr (outS_len hd w L t))
end
def toks (ts : List Nat) : List Int := ts.map fun (t : Nat) => (t : Int)
theorem toks_len (ts : List Nat) : (toks ts).length = ts.length := by simp [toks]
theorem toks_app (a b : List Nat) : toks (a ++ b) = toks a ++ toks b := by simp [toks]
theorem toks_get (ts : List Nat) (k : Nat) (h : k < ts.length) : idx (toks ts) (k : Int) = some ((ts.getD k 0 : Nat) : Int) := by
  rw [idx_nat, toks, List.getElem?_map, List.getElem?_eq_getElem h, List.getD_eq_getElem?_getD, List.getElem?_eq_getElem h]; rfl
section
variable {d : Dim} (hd : DOK d)
include hd
end
theorem lastS_any (d : Dim) (w : S_api_Weights) (L : List S_ref08_Kept) (y z : List Int) : ∀ ts : List Nat, ts ≠ [] → lastS d w L y ts = lastS d w L z ts
  | [], h => absurd rfl h
  | t :: ts, _ => rfl
section
variable {d : Dim} (hd : DOK d)
include hd
end
theorem rest7_is (x : Int) (m : Nat) (h : 0 < m) (hb : m ≤ 1000) : ∃ k : Nat, k < m ∧ ref07_rest x (m : Int) = some (k : Int) := by
  obtain ⟨k, hk, e⟩ := W_restN x m h (by omega)
  refine ⟨k, hk, ?_⟩
  unfold ref07_rest
  rw [chk_ok _ (by omega), chk_ok _ (by omega), e, Option.bind_some]
def shapeS (d : Dim) : S_api_Shape := ⟨(d.ly : Int), ((d.w : Nat) : Int), (d.h : Int), (d.inn : Int), (d.voc : Int), (d.pl : Int)⟩
theorem tiny_is (n : A6_i64) : ∃ d : Dim, DOK d ∧ 2 ≤ d.voc ∧ 4 ≤ d.pl ∧ ref07_Tiny n = some (shapeS d) := by
  obtain ⟨a, ha, ea⟩ := rest7_is n.c2 3 (by decide) (by decide)
  obtain ⟨b, hb, eb⟩ := rest7_is n.c0 3 (by decide) (by decide)
  obtain ⟨c, hc, ec⟩ := rest7_is n.c1 2 (by decide) (by decide)
  obtain ⟨e, he, ee⟩ := rest7_is n.c3 8 (by decide) (by decide)
  obtain ⟨f, hf, ef⟩ := rest7_is n.c4 9 (by decide) (by decide)
  obtain ⟨g, hg, eg⟩ := rest7_is n.c5 9 (by decide) (by decide)
  have hh : ∃ h : Nat, 0 < h ∧ h ≤ 4 ∧ idx ([1, 2, 4] : List Int) (a : Int) = some (h : Int) := by
    match a, ha with
    | 0, _ => exact ⟨1, by decide, by decide, rfl⟩
    | 1, _ => exact ⟨2, by decide, by decide, rfl⟩
    | 2, _ => exact ⟨4, by decide, by decide, rfl⟩
  obtain ⟨h, h0, h4, eh⟩ := hh
  have hw : h * (2 * (1 + c)) ≤ 4 * 4 := Nat.mul_le_mul h4 (by omega)
  refine ⟨⟨1 + b, h, 2 * (1 + c), 1 + e, 2 + f, 4 + g⟩, ⟨by dsimp only; omega, by dsimp only; omega, by dsimp only; omega, hw, by dsimp only; omega, by dsimp only; omega, by dsimp only; omega⟩, by dsimp only; omega, by dsimp only; omega, ?_⟩
  have ea' : ref07_rest n.c2 3 = some (a : Int) := ea
  have eb' : ref07_rest n.c0 3 = some (b : Int) := eb
  have ec' : ref07_rest n.c1 2 = some (c : Int) := ec
  have ee' : ref07_rest n.c3 8 = some (e : Int) := ee
  have ef' : ref07_rest n.c4 9 = some (f : Int) := ef
  have eg' : ref07_rest n.c5 9 = some (g : Int) := eg
  unfold ref07_Tiny
  rw [ea', Option.bind_some, eh, Option.bind_some, eb', Option.bind_some, ec', Option.bind_some, ee', Option.bind_some, ef', Option.bind_some, eg', Option.bind_some]
  have e1 : IntKind.i64.wrap (1 + (b : Int)) = ((1 + b : Nat) : Int) := by rw [W_in (by omega)]; omega
  have e2 : IntKind.i64.wrap (IntKind.i64.wrap (2 * (h : Int)) * IntKind.i64.wrap (1 + (c : Int))) = ((h * (2 * (1 + c)) : Nat) : Int) := by
    rw [W_in (x := 2 * (h : Int)) (by omega), W_in (x := 1 + (c : Int)) (by omega)]
    have : 2 * (h : Int) * (1 + (c : Int)) = ((h * (2 * (1 + c)) : Nat) : Int) := by
      rw [Int.natCast_mul, Int.natCast_mul, Int.natCast_add, Int.mul_comm 2 (h : Int), Int.mul_assoc]; rfl
    rw [this, W_in (by omega)]
  have e3 : IntKind.i64.wrap (1 + (e : Int)) = ((1 + e : Nat) : Int) := by rw [W_in (by omega)]; omega
  have e4 : IntKind.i64.wrap (2 + (f : Int)) = ((2 + f : Nat) : Int) := by rw [W_in (by omega)]; omega
  have e5 : IntKind.i64.wrap (4 + (g : Int)) = ((4 + g : Nat) : Int) := by rw [W_in (by omega)]; omega
  rw [e1, e2, e3, e4, e5]
  rfl
def perL (d : Dim) : Nat := d.w + 4 * (d.w * d.w) + d.w + d.inn * d.w + d.w * d.inn
def countS (d : Dim) : Nat := d.voc * d.w + d.ly * perL d + d.w + d.voc * d.w
def layR (d : Dim) : List S_ref07_Row := [⟨true, ((d.w : Nat) : Int)⟩, ⟨false, ((d.w * d.w : Nat) : Int)⟩, ⟨false, ((d.w * d.w : Nat) : Int)⟩, ⟨false, ((d.w * d.w : Nat) : Int)⟩, ⟨false, ((d.w * d.w : Nat) : Int)⟩, ⟨true, ((d.w : Nat) : Int)⟩, ⟨false, ((d.inn * d.w : Nat) : Int)⟩, ⟨false, ((d.w * d.inn : Nat) : Int)⟩]
def rowsS (d : Dim) : Nat → List S_ref07_Row
  | 0 => [⟨false, ((d.voc * d.w : Nat) : Int)⟩]
  | k + 1 => rowsS d k ++ layR d
def sumN : List S_ref07_Row → Int
  | [] => 0
  | r :: rs => r.N + sumN rs
theorem sumN_app (a b : List S_ref07_Row) : sumN (a ++ b) = sumN a + sumN b := by
  induction a with
  | nil => simp [sumN]
  | cons r rs ih => rw [List.cons_append, sumN, sumN, ih]; omega
section
variable {d : Dim} (hd : DOK d)
include hd
theorem w_mulN (a b : Nat) (h : a * b ≤ 100000) : IntKind.i64.wrap ((a : Int) * (b : Int)) = ((a * b : Nat) : Int) := by
  have : (a : Int) * (b : Int) = ((a * b : Nat) : Int) := by simp
  rw [this, W_in (by omega)]
theorem prods : d.w * d.w ≤ 256 ∧ d.inn * d.w ≤ 128 ∧ d.w * d.inn ≤ 128 ∧ d.voc * d.w ≤ 160 := by
  have h := dw16 hd; have h1 := hd.inn; have h2 := hd.voc
  exact ⟨Nat.mul_le_mul h h, Nat.mul_le_mul h1.2 h, Nat.mul_le_mul h h1.2, Nat.mul_le_mul h2.2 h⟩
theorem rowsS_len : ∀ k, (rowsS d k).length = 1 + 8 * k
  | 0 => rfl
  | k + 1 => by rw [rowsS, List.length_append, rowsS_len k]; simp [layR]; omega
theorem rowsS_sum : ∀ k, sumN (rowsS d k) = ((d.voc * d.w + k * perL d : Nat) : Int)
  | 0 => by simp [rowsS, sumN]
  | k + 1 => by
    rw [rowsS, sumN_app, rowsS_sum k]
    have e : sumN (layR d) = ((perL d : Nat) : Int) := by simp only [layR, sumN, perL]; omega
    rw [e, Nat.succ_mul]; omega
theorem rows_is {N : Nat} (hN : 200 < N) : ref07_Rows N (shapeS d) = some (rowsS d d.ly ++ [⟨true, ((d.w : Nat) : Int)⟩, ⟨false, ((d.voc * d.w : Nat) : Int)⟩]) := by
  obtain ⟨p1, p2, p3, p4⟩ := prods hd
  have hly := hd.ly
  unfold ref07_Rows
  have e0 : IntKind.i64.wrap ((shapeS d).Vocab * (shapeS d).Width) = ((d.voc * d.w : Nat) : Int) := w_mulN hd d.voc d.w (by omega)
  have e1 : IntKind.i64.wrap ((shapeS d).Width * (shapeS d).Width) = ((d.w * d.w : Nat) : Int) := w_mulN hd d.w d.w (by omega)
  have e2 : IntKind.i64.wrap ((shapeS d).Inner * (shapeS d).Width) = ((d.inn * d.w : Nat) : Int) := w_mulN hd d.inn d.w (by omega)
  have e3 : IntKind.i64.wrap ((shapeS d).Width * (shapeS d).Inner) = ((d.w * d.inn : Nat) : Int) := w_mulN hd d.w d.inn (by omega)
  rw [e0]
  refine loop_c (fun m (s : List S_ref07_Row) i => ref07_Rows.L1 (shapeS d) m s i) (fun i => rowsS d i) d.ly _ (fun m i hi => ?_) (fun m => ?_) N (by omega)
  · show ref07_Rows.L1 (shapeS d) (m + 1) _ (i : Int) = ref07_Rows.L1 (shapeS d) m _ _
    have hl := rowsS_len hd i
    rw [ref07_Rows.L1, if_pos (by show (i : Int) < (d.ly : Int); omega), e1, e2, e3, app_ok _ _ (by simp only [List.length_cons, List.length_nil]; omega), Option.bind_some, W_succ i (by omega)]
    rfl
  · show ref07_Rows.L1 (shapeS d) (m + 1) _ (d.ly : Int) = _
    have hl := rowsS_len hd d.ly
    rw [ref07_Rows.L1, if_neg (by show ¬ (d.ly : Int) < (d.ly : Int); omega), e0, app_ok _ _ (by simp only [List.length_cons, List.length_nil]; omega), Option.bind_some]
    rfl
theorem grown_is {N : Nat} (hN : 5000 ≤ N) (seed : Int) : ∃ l : List Int, ref07_Grown N (shapeS d) seed = some l ∧ l.length = countS d := by
  obtain ⟨p1, p2, p3, p4⟩ := prods hd
  have hly := hd.ly; have hw := dw16 hd
  unfold ref07_Grown
  rw [show (⟨(shapeS d).Layers, (shapeS d).Width, (shapeS d).Heads, (shapeS d).Inner, (shapeS d).Vocab, (shapeS d).Places⟩ : S_api_Shape) = shapeS d from rfl, rows_is hd (by omega), Option.bind_some]
  generalize hrs : rowsS d d.ly ++ [(⟨true, ((d.w : Nat) : Int)⟩ : S_ref07_Row), ⟨false, ((d.voc * d.w : Nat) : Int)⟩] = rs
  have hlen : rs.length = 8 * d.ly + 3 := by rw [← hrs, List.length_append, rowsS_len hd]; simp; omega
  have hsum : sumN rs = ((countS d : Nat) : Int) := by
    rw [← hrs, sumN_app, rowsS_sum hd]; simp only [sumN, countS]; omega
  have hrange : ∀ r ∈ rs, 0 ≤ r.N ∧ r.N ≤ 256 := by
    have hlay : ∀ r ∈ layR d, 0 ≤ r.N ∧ r.N ≤ 256 := by
      intro r hr
      simp only [layR, List.mem_cons, List.not_mem_nil, or_false] at hr
      rcases hr with rfl | rfl | rfl | rfl | rfl | rfl | rfl | rfl <;> dsimp only <;> omega
    have hro : ∀ k, ∀ r ∈ rowsS d k, 0 ≤ r.N ∧ r.N ≤ 256 := by
      intro k
      induction k with
      | zero => intro r hr; simp only [rowsS, List.mem_singleton] at hr; subst hr; dsimp only; omega
      | succ k ih => intro r hr; rw [rowsS] at hr; rcases List.mem_append.1 hr with h | h; exact ih r h; exact hlay r h
    intro r hr
    rw [← hrs] at hr
    rcases List.mem_append.1 hr with h | h
    · exact hro _ r h
    · simp only [List.mem_cons, List.not_mem_nil, or_false] at h
      rcases h with rfl | rfl <;> dsimp only <;> omega
  obtain ⟨m', s', hs1, e⟩ := loop_to (fun m (s : List Int × Int) i => ref07_Grown.L1 N rs m s.1 s.2 i) (fun i => (i : Int)) rs.length (fun i s => ((s.1.length : Nat) : Int) = sumN (rs.take i)) (fun m i s hi hs1 => by
    have hri := hrange rs[i] (List.getElem_mem hi)
    obtain ⟨n, hn⟩ := Int.eq_ofNat_of_zero_le hri.1
    have hbnd : sumN (rs.take i) ≤ 256 * i := by
      have : ∀ k, k ≤ rs.length → sumN (rs.take k) ≤ 256 * k := by
        intro k
        induction k with
        | zero => intro _; simp [sumN]
        | succ k ih =>
          intro hk
          have h1 := ih (by omega)
          have h2 := hrange rs[k] (List.getElem_mem (by omega))
          rw [List.take_succ_eq_append_getElem (by omega), sumN_app]
          simp only [sumN]; omega
      exact this i (by omega)
    obtain ⟨m2, z, hz1, e2⟩ := loop_to (fun q (z : List Int × Int) j => ref07_Grown.L2 N rs (i : Int) (ref07_Grown.L1 N rs m) q z.1 z.2 j) (fun j => (j : Int)) n (fun j z => z.1.length = s.1.length + j) (fun q j z hj hz1 => by
      have j3 : ∀ g : Int, ∃ z' : List Int × Int, z'.1.length = s.1.length + (j + 1) ∧ ref07_Grown.J3 z.1 (j : Int) (IntKind.u64.wrap (IntKind.u64.wrap (z.2 * 6364136223846793005) + 1442695040888963407)) (ref07_Grown.L2 N rs (i : Int) (ref07_Grown.L1 N rs m) q) g = ref07_Grown.L2 N rs (i : Int) (ref07_Grown.L1 N rs m) q z'.1 z'.2 ((j + 1 : Nat) : Int) := by
        intro g
        refine ⟨(z.1 ++ [IntKind.i8.wrap g], IntKind.u64.wrap (IntKind.u64.wrap (z.2 * 6364136223846793005) + 1442695040888963407)), by simp [hz1]; omega, ?_⟩
        · unfold ref07_Grown.J3
          rw [app_ok _ _ (by simp only [List.length_cons, List.length_nil]; omega), Option.bind_some, W_succ j (by omega)]
      show ∃ s', _ ∧ ref07_Grown.L2 N rs (i : Int) (ref07_Grown.L1 N rs m) (q + 1) z.1 z.2 (j : Int) = _
      rw [ref07_Grown.L2, idx_get _ _ hi, Option.bind_some, if_pos (by omega), Option.bind_some, Option.bind_some, Option.bind_some]
      by_cases c : rs[i].Gain = true
      · rw [if_pos c, Option.bind_some]; exact j3 _
      · rw [if_neg c]; exact j3 _) N s (by omega) rfl
    refine ⟨z, ?_, ?_⟩
    · rw [List.take_succ_eq_append_getElem hi, sumN_app, ← hs1]
      simp only [sumN]; omega
    · show ref07_Grown.L1 N rs (m + 1) s.1 s.2 (i : Int) = ref07_Grown.L1 N rs m z.1 z.2 ((i + 1 : Nat) : Int)
      rw [ref07_Grown.L1, if_pos (by omega)]
      refine Eq.trans e2 ?_
      show ref07_Grown.L2 N rs (i : Int) (ref07_Grown.L1 N rs m) (m2 + 1) z.1 z.2 (n : Int) = _
      rw [ref07_Grown.L2, idx_get _ _ hi, Option.bind_some, if_neg (by omega), W_succ i (by omega)]) N ([], seed) (by omega) (by simp [sumN])
  refine ⟨s'.1, ?_, ?_⟩
  · refine Eq.trans e ?_
    show ref07_Grown.L1 N rs (m' + 1) s'.1 s'.2 (rs.length : Int) = _
    rw [ref07_Grown.L1, if_neg (by omega)]
  · rw [List.take_length, hsum] at hs1; omega
theorem take_is (l : List Int) (at_ n : Nat) (h : at_ + n ≤ l.length) (hl : l.length ≤ 100000) : ref08_taker_take ⟨l, (at_ : Int)⟩ (n : Int) = some ((l.take (at_ + n)).drop at_, ⟨l, ((at_ + n : Nat) : Int)⟩) := by
  unfold ref08_taker_take
  show chk (0 ≤ (at_ : Int) ∧ (at_ : Int) ≤ IntKind.i64.wrap ((at_ : Int) + (n : Int)) ∧ IntKind.i64.wrap ((at_ : Int) + (n : Int)) ≤ ((l.length : Nat) : Int)) ((app [] ((l.take (IntKind.i64.wrap ((at_ : Int) + (n : Int))).toNat).drop ((at_ : Int)).toNat)).bind fun z10 => some (z10, (⟨l, IntKind.i64.wrap ((at_ : Int) + (n : Int))⟩ : S_ref08_taker))) = _
  have e : IntKind.i64.wrap ((at_ : Int) + (n : Int)) = ((at_ + n : Nat) : Int) := by rw [W_in (by omega)]; omega
  rw [e, chk_ok _ (by omega), Int.toNat_natCast, Int.toNat_natCast, app_ok _ _ (by simp; omega), Option.bind_some, List.nil_append]
theorem takeL (l : List Int) (a n : Nat) (h : a + n ≤ l.length) : ((l.take (a + n)).drop a).length = n := by simp; omega
theorem mat_is (l : List Int) (at_ r c : Nat) (h : at_ + r * c ≤ l.length) (hl : l.length ≤ 100000) : ref08_taker_mat ⟨l, (at_ : Int)⟩ (r : Int) (c : Int) = some (⟨(r : Int), (c : Int), (l.take (at_ + r * c)).drop at_⟩, ⟨l, ((at_ + r * c : Nat) : Int)⟩) := by
  unfold ref08_taker_mat
  rw [w_mulN hd r c (by omega), take_is hd l at_ (r * c) h hl, Option.bind_some]
end
section
variable {d : Dim} (hd : DOK d)
include hd
theorem matR_mk (l : List Int) (at_ r c : Nat) (h : at_ + r * c ≤ l.length) : matR ⟨(r : Int), (c : Int), (l.take (at_ + r * c)).drop at_⟩ r c := ⟨rfl, rfl, takeL hd l at_ (r * c) h⟩
theorem of_is {N : Nat} (hN : 200 < N) (l : List Int) (hl : l.length = countS d) : ∃ w, ref08_Of N (shapeS d) l = some w ∧ WOK d w ∧ w.Shape = shapeS d := by
  obtain ⟨p1, p2, p3, p4⟩ := prods hd
  have hly := hd.ly; have hw := dw16 hd
  have hper : perL d ≤ 1400 := by unfold perL; omega
  have hlp : ∀ i, i ≤ d.ly → i * perL d ≤ d.ly * perL d := fun i hi => Nat.mul_le_mul_right _ hi
  have hl3 : d.ly * perL d ≤ 3 * 1400 := Nat.mul_le_mul hly.2 hper
  have hc : countS d = d.voc * d.w + d.ly * perL d + d.w + d.voc * d.w := rfl
  have hbig : l.length ≤ 100000 := by omega
  have hW : (shapeS d).Width = ((d.w : Nat) : Int) := rfl
  have hV : (shapeS d).Vocab = (d.voc : Int) := rfl
  have hI : (shapeS d).Inner = (d.inn : Int) := rfl
  have hLy : (shapeS d).Layers = (d.ly : Int) := rfl
  unfold ref08_Of
  have e0 : ref08_taker_mat ⟨l, 0⟩ (shapeS d).Vocab (shapeS d).Width = some (⟨(d.voc : Int), ((d.w : Nat) : Int), (l.take (0 + d.voc * d.w)).drop 0⟩, ⟨l, ((0 + d.voc * d.w : Nat) : Int)⟩) := mat_is hd l 0 d.voc d.w (by omega) hbig
  have hemb := matR_mk hd l 0 d.voc d.w (by omega)
  rw [e0, Option.bind_some]
  generalize hm0 : (⟨(d.voc : Int), ((d.w : Nat) : Int), (l.take (0 + d.voc * d.w)).drop 0⟩ : S_api_Mat) = m0 at hemb ⊢
  obtain ⟨m', s', ⟨h1, h2, h3⟩, e⟩ := loop_to (fun m (s : S_ref08_taker × List S_api_Block) i => ref08_Of.L1 (shapeS d) (m0, ⟨l, ((0 + d.voc * d.w : Nat) : Int)⟩) m s.1 s.2 i) (fun i => (i : Int)) d.ly (fun i s => s.1 = ⟨l, ((d.voc * d.w + i * perL d : Nat) : Int)⟩ ∧ s.2.length = i ∧ ∀ b ∈ s.2, BOK d b) (fun m i s hi hs => by
    obtain ⟨h1, h2, h3⟩ := hs
    have hp1 := hlp (i + 1) (by omega)
    have hp2 : (i + 1) * perL d = i * perL d + perL d := Nat.succ_mul _ _
    have hpd : perL d = d.w + 4 * (d.w * d.w) + d.w + d.inn * d.w + d.w * d.inn := rfl
    generalize hA : d.voc * d.w + i * perL d = A at h1
    have hAl : A + perL d ≤ l.length := by omega
    obtain ⟨s1, s2⟩ := s
    dsimp only at h1 h2 h3
    subst h1
    show ∃ s', _ ∧ ref08_Of.L1 (shapeS d) _ (m + 1) _ _ (i : Int) = _
    rw [ref08_Of.L1, hLy, hW, hI, if_pos (by omega), take_is hd l A d.w (by omega) hbig, Option.bind_some, mat_is hd l (A + d.w) d.w d.w (by omega) hbig, Option.bind_some, mat_is hd l (A + d.w + d.w * d.w) d.w d.w (by omega) hbig, Option.bind_some, mat_is hd l (A + d.w + d.w * d.w + d.w * d.w) d.w d.w (by omega) hbig, Option.bind_some,
      mat_is hd l (A + d.w + d.w * d.w + d.w * d.w + d.w * d.w) d.w d.w (by omega) hbig, Option.bind_some, take_is hd l (A + d.w + d.w * d.w + d.w * d.w + d.w * d.w + d.w * d.w) d.w (by omega) hbig, Option.bind_some, mat_is hd l (A + d.w + d.w * d.w + d.w * d.w + d.w * d.w + d.w * d.w + d.w) d.inn d.w (by omega) hbig, Option.bind_some,
      mat_is hd l (A + d.w + d.w * d.w + d.w * d.w + d.w * d.w + d.w * d.w + d.w + d.inn * d.w) d.w d.inn (by omega) hbig, Option.bind_some, app_ok _ _ (by simp only [List.length_cons, List.length_nil]; omega), Option.bind_some, W_succ i (by omega)]
    refine ⟨(_, _), ⟨?_, ?_, ?_⟩, rfl⟩
    · dsimp only
      rw [show A + d.w + d.w * d.w + d.w * d.w + d.w * d.w + d.w * d.w + d.w + d.inn * d.w + d.w * d.inn = d.voc * d.w + (i + 1) * perL d by omega]
    · dsimp only; rw [len_app1, h2]
    · intro b hb
      rcases List.mem_append.1 hb with h | h
      · exact h3 b h
      · rw [List.mem_singleton] at h
        subst h
        exact ⟨takeL hd l _ _ (by omega), takeL hd l _ _ (by omega), matR_mk hd l _ _ _ (by omega), matR_mk hd l _ _ _ (by omega), matR_mk hd l _ _ _ (by omega), matR_mk hd l _ _ _ (by omega), matR_mk hd l _ _ _ (by omega), matR_mk hd l _ _ _ (by omega)⟩) N (⟨l, ((0 + d.voc * d.w : Nat) : Int)⟩, []) (by omega) ⟨by dsimp only; rw [show 0 + d.voc * d.w = d.voc * d.w + 0 * perL d by omega], rfl, by simp⟩
  obtain ⟨s1, s2⟩ := s'
  dsimp only at h1 h2 h3
  subst h1
  refine ⟨⟨shapeS d, m0, s2, (l.take (d.voc * d.w + d.ly * perL d + d.w)).drop (d.voc * d.w + d.ly * perL d), ⟨(d.voc : Int), ((d.w : Nat) : Int), (l.take (d.voc * d.w + d.ly * perL d + d.w + d.voc * d.w)).drop (d.voc * d.w + d.ly * perL d + d.w)⟩⟩, e.trans ?_, ⟨rfl, rfl, rfl, rfl, rfl, rfl, hemb, h2, h3, takeL hd l _ _ (by omega), matR_mk hd l _ _ _ (by omega)⟩, rfl⟩
  show ref08_Of.L1 (shapeS d) _ (m' + 1) _ s2 (d.ly : Int) = _
  rw [ref08_Of.L1, hLy, hW, hV, if_neg (by omega), take_is hd l _ d.w (by omega) hbig, Option.bind_some, mat_is hd l (d.voc * d.w + d.ly * perL d + d.w) d.voc d.w (by omega) hbig, Option.bind_some]
  rfl
end
theorem made_is {N : Nat} (hN : 5000 ≤ N) (n : A6_i64) (seed : Int) (xs : List Int) (hx : xs.length ≤ 2000) : ∃ (d : Dim) (w : S_api_Weights), DOK d ∧ 2 ≤ d.voc ∧ 4 ≤ d.pl ∧ WOK d w ∧ w.Shape = shapeS d ∧ ref08_Made N n seed xs = some w := by
  obtain ⟨d, hd, hv, hp, et⟩ := tiny_is n
  obtain ⟨l, el, hl⟩ := grown_is hd hN seed
  have hfin : ∀ l' : List Int, l'.length = countS d → ∃ w, (ref08_Of N (shapeS d) l').bind (fun r29 => some (⟨(⟨r29.Shape.Layers, r29.Shape.Width, r29.Shape.Heads, r29.Shape.Inner, r29.Shape.Vocab, r29.Shape.Places⟩ : S_api_Shape), (⟨r29.Embed.Rows, r29.Embed.Cols, r29.Embed.V⟩ : S_api_Mat), r29.Blocks, r29.Last, (⟨r29.Head.Rows, r29.Head.Cols, r29.Head.V⟩ : S_api_Mat)⟩ : S_api_Weights)) = some w ∧ WOK d w ∧ w.Shape = shapeS d := by
    intro l' h'
    obtain ⟨w, e, hw, hs⟩ := of_is hd (N := N) (by omega) l' h'
    exact ⟨w, by rw [e]; rfl, hw, hs⟩
  obtain ⟨m', s', hs, e⟩ := loop_to (fun m (s : List Int) i => ref08_Made.L1 N xs (shapeS d) l m s i) (fun i => (i : Int)) (min l.length xs.length) (fun i s => s.length = countS d) (fun m i s hi hs => by
    have hi1 : i < l.length := by omega
    have hi2 : i < xs.length := by omega
    refine ⟨s.set i xs[i], by simp [hs], ?_⟩
    show ref08_Made.L1 N xs (shapeS d) l (m + 1) s (i : Int) = _
    rw [ref08_Made.L1, if_pos (by omega), decide_eq_true (by omega), ref08_Made.J2, if_pos rfl, idx_get xs i hi2, Option.bind_some, idx_get s i (by omega), Option.bind_some, W_succ i (by omega), Int.toNat_natCast]) N l (by omega) hl
  obtain ⟨w, ew, hw, hsh⟩ := hfin s' hs
  refine ⟨d, w, hd, hv, hp, hw, hsh, ?_⟩
  unfold ref08_Made
  rw [show (⟨n.c0, n.c1, n.c2, n.c3, n.c4, n.c5⟩ : A6_i64) = n from rfl, et, Option.bind_some]
  show (ref07_Grown N (shapeS d) seed).bind _ = _
  rw [el, Option.bind_some]
  refine Eq.trans e ?_
  have hJ : ref08_Made.J2 N xs (shapeS d) s' ((min l.length xs.length : Nat) : Int) (ref08_Made.L1 N xs (shapeS d) l m') false = some w := by
    unfold ref08_Made.J2
    rw [if_neg (by decide)]
    exact ew
  show ref08_Made.L1 N xs (shapeS d) l (m' + 1) s' ((min l.length xs.length : Nat) : Int) = _
  rw [ref08_Made.L1]
  by_cases c : ((min l.length xs.length : Nat) : Int) < ((l.length : Nat) : Int)
  · rw [if_pos c, decide_eq_false (by omega)]; exact hJ
  · rw [if_neg c]; exact hJ
end Go.Proofs.Ytdipfegofpfhaaa

namespace Go.Proofs.Ytdipfegofpfhaaa
open Go Go.Hp
set_option linter.unusedVariables false
theorem and_low (k : IntKind) (hk : k = .i64 ∨ k = .u64) (i : Nat) (hi : i < 63) (x : Int) : iand k x (2 ^ i - 1) = x % 2 ^ i := by
  have hb : k.bits = 64 := by rcases hk with rfl | rfl <;> rfl
  have hpos : 0 < 2 ^ i := Nat.two_pow_pos i
  have hlt : 2 ^ i ≤ 2 ^ 62 := Nat.pow_le_pow_right (by decide) (by omega)
  have hc : ((2 : Int) ^ i - 1) = ((2 ^ i - 1 : Nat) : Int) := by
    rw [Int.natCast_sub hpos]; simp
  have hnn : 0 ≤ x % 18446744073709551616 := Int.emod_nonneg _ (by decide)
  obtain ⟨a, ha⟩ := Int.eq_ofNat_of_zero_le hnn
  have hal : a < 18446744073709551616 := by omega
  have e1 : (BitVec.ofInt 64 x).toNat = a := by
    rw [BitVec.toNat_ofInt]
    show (x % ((2 ^ 64 : Nat) : Int)).toNat = a
    have : ((2 ^ 64 : Nat) : Int) = 18446744073709551616 := by decide
    rw [this, ha]
    rfl
  have e2 : (BitVec.ofInt 64 (((2 ^ i - 1 : Nat) : Int))).toNat = 2 ^ i - 1 := by
    rw [BitVec.ofInt_natCast, BitVec.toNat_ofNat]
    exact Nat.mod_eq_of_lt (by omega)
  have hdvd : (2 : Int) ^ i ∣ 18446744073709551616 := by
    refine ⟨2 ^ (64 - i), ?_⟩
    rw [← Int.pow_add, show i + (64 - i) = 64 by omega]
    decide
  have hmm : x % 2 ^ i = ((a % 2 ^ i : Nat) : Int) := by
    rw [← Int.emod_emod_of_dvd x hdvd, ha]
    simp
  have hml : a % 2 ^ i < 2 ^ i := Nat.mod_lt _ hpos
  rw [hc, hmm]
  have hw : ∀ z : Nat, z < 2 ^ 62 → k.wrap (z : Int) = (z : Int) := by
    intro z hz
    rcases hk with rfl | rfl
    · rw [IntKind.wrap_i64]; omega
    · rw [IntKind.wrap_u64]; omega
  have e3 : (BitVec.ofInt 64 x &&& BitVec.ofInt 64 (((2 ^ i - 1 : Nat) : Int))).toNat = a % 2 ^ i := by rw [BitVec.toNat_and, e1, e2, Nat.and_two_pow_sub_one_eq_mod]
  have e4 : iand k x (((2 ^ i - 1 : Nat) : Int)) = k.wrap ((BitVec.ofInt 64 x &&& BitVec.ofInt 64 (((2 ^ i - 1 : Nat) : Int))).toNat : Int) := by rcases hk with rfl | rfl <;> rfl
  rw [e4, e3]
  exact hw _ (by omega)
theorem shift_is (x n : Int) (hx : -9223372036854775808 ≤ x ∧ x ≤ 9223372036854775807) : round_Shift x n = some (sh x (min (max n 0) 62).toNat) := by
  obtain ⟨k, hk⟩ := Int.eq_ofNat_of_zero_le (show 0 ≤ min (max n 0) 62 by omega)
  have hk2 : k ≤ 62 := by omega
  have hp := pow_pos' k
  have h62 := pow_le62 k hk2
  have e1 : ishr .i64 x (k : Int) = x / 2 ^ k := by
    unfold ishr
    rw [show min ((k : Int).toNat) IntKind.i64.bits = k by show min ((k:Int).toNat) 64 = k; omega, Int.fdiv_eq_ediv_of_nonneg _ (by omega)]
  have e2 : ishl .u64 1 (k : Int) = 2 ^ k := by
    unfold ishl
    rw [show min ((k : Int).toNat) IntKind.u64.bits = k by show min ((k:Int).toNat) 64 = k; omega, Int.one_mul, IntKind.wrap_u64]; omega
  have e3 : ishr .u64 (2 ^ k) 1 = 2 ^ k / 2 := by
    unfold ishr
    rw [show min ((1 : Int).toNat) IntKind.u64.bits = 1 from rfl, Int.fdiv_eq_ediv_of_nonneg _ (by omega)]
    rfl
  have e4 : IntKind.u64.wrap ((2:Int) ^ k - 1) = 2 ^ k - 1 := by rw [IntKind.wrap_u64]; omega
  have e5 : iand .u64 (IntKind.u64.wrap x) (2 ^ k - 1) = x % 2 ^ k := by
    rw [and_low _ (.inr rfl) k (by omega), IntKind.wrap_u64]
    refine Int.emod_emod_of_dvd x ?_
    refine ⟨2 ^ (64 - k), ?_⟩
    rw [← Int.pow_add, show k + (64 - k) = 64 by omega]; decide
  have e6 : ∀ z : Int, iand .i64 z 1 = z % 2 := fun z => and_low .i64 (.inl rfl) 1 (by omega) z
  unfold round_Shift
  rw [hk]
  simp only [chk_ok _ (show (0:Int) ≤ (k:Int) by omega), Option.bind_some, e1, e2, e4, e5, e3, e6]
  unfold sh
  rw [Int.toNat_natCast]
  by_cases h0 : 0 < k
  · have hd := half_in x hx k h0
    have hw : IntKind.i64.wrap (x / 2 ^ k + 1) = x / 2 ^ k + 1 := W_in (by omega)
    by_cases c1 : x % 2 ^ k > 2 ^ k / 2
    · rw [if_pos c1, if_pos c1, round_Shift.J1, if_pos rfl, hw]
    · rw [if_neg c1, if_neg c1]
      by_cases c2 : x % 2 ^ k = 2 ^ k / 2
      · rw [if_pos c2, if_pos c2, if_pos (show (k : Int) > 0 by omega), if_pos h0, round_Shift.J1]
        by_cases c3 : x / 2 ^ k % 2 = 1
        · rw [if_pos (by simp only [c3, decide_true]), if_pos c3, hw]
        · rw [if_neg (by simp only [c3, decide_false]; decide), if_neg c3]
      · rw [if_neg c2, if_neg c2, round_Shift.J1, if_neg (by decide)]
  · obtain rfl : k = 0 := by omega
    have z1 : x % (2 : Int) ^ 0 = 0 := by simp
    have z2 : (2 : Int) ^ 0 / 2 = 0 := by decide
    rw [z1, z2, if_neg (by decide), if_pos rfl, if_neg (by decide), if_neg (by decide), if_pos rfl, if_neg (by decide), round_Shift.J1, if_neg (by decide)]

theorem fill_step {α : Type} (n : Nat) (f : Nat → α) (z : α) (i : Nat) : (tabl n fun k => if k < i then f k else z).set ((i : Int)).toNat (f i) = tabl n fun k => if k < i + 1 then f k else z := by
  rw [Int.toNat_natCast, tabl_set]
  refine tabl_congr fun j hj => ?_
  by_cases h : j = i
  · subst h; rw [if_pos rfl, if_pos (by omega)]
  · rw [if_neg h]
    by_cases h2 : j < i
    · rw [if_pos h2, if_pos (by omega)]
    · rw [if_neg h2, if_neg (by omega)]
theorem fill_0 {α : Type} (n : Nat) (f : Nat → α) (z : α) : List.replicate n z = tabl n fun k => if k < 0 then f k else z := by
  rw [tabl_rep]
  exact tabl_congr fun j hj => (if_neg (by omega)).symm
theorem fill_n {α : Type} (n : Nat) (f : Nat → α) (z : α) : (tabl n fun k => if k < n then f k else z) = tabl n f := tabl_congr fun j hj => if_pos hj
theorem w8_is (x : Int) : IntKind.i8.wrap x = (x + 128) % 256 - 128 := by
  simp [IntKind.wrap, IntKind.bits, IntKind.signed]
  split <;> omega
theorem sat8_is (x : Int) : round_Sat8 x = some (min (max x (-128)) 127) := by
  unfold round_Sat8 round_near_int8
  simp only [Option.bind_some]
  congr 1
  rw [w8_is]; omega
theorem sat32_is (x : Int) : round_Sat32 x = some (min (max x (-2147483648)) 2147483647) := by
  unfold round_Sat32 round_near_int32
  simp only [Option.bind_some]
  congr 1
  rw [IntKind.wrap_i32]; omega
theorem scale_is (x b n : Int) : round_Scale x b n = some (scl x b n (-2147483648) 2147483647) := by
  unfold round_Scale
  rw [shift_is _ _ (W_range _), Option.bind_some, sat32_is, Option.bind_some]
  rfl
theorem quant_is (x b n : Int) : round_Quant x b n = some (scl x b n (-128) 127) := by
  unfold round_Quant
  rw [shift_is _ _ (W_range _), Option.bind_some, sat8_is, Option.bind_some]
  rfl
theorem scl8 (x b n : Int) : IntKind.i8.wrap (scl x b n (-128) 127) = scl x b n (-128) 127 := by
  unfold scl
  rw [w8_is]; omega
theorem roundQuants_is {N : Nat} (b n : Int) (xs : List Int) (hl : xs.length < N) (h2 : xs.length ≤ 100000) : round_Quants N b n xs = some (tabl xs.length fun i => scl (xs.getD i 0) b n (-128) 127) := by
  unfold round_Quants
  rw [chk_ok _ (by omega), Int.toNat_natCast, fill_0 xs.length (fun i => scl (xs.getD i 0) b n (-128) 127) 0]
  refine loop_c (fun m (s : List Int) i => round_Quants.L1 b n xs m s i) (fun i => tabl xs.length fun k => if k < i then scl (xs.getD k 0) b n (-128) 127 else 0) xs.length _ (fun m i hi => ?_) (fun m => ?_) N hl
  · show round_Quants.L1 b n xs (m + 1) _ (i : Int) = round_Quants.L1 b n xs m _ _
    rw [round_Quants.L1, if_pos (by omega), idx_d xs 0 hi, Option.bind_some, quant_is, Option.bind_some, idx_t _ hi, Option.bind_some, W_succ i (by omega), fill_step xs.length (fun k => scl (xs.getD k 0) b n (-128) 127) 0 i]
  · show round_Quants.L1 b n xs (m + 1) _ (xs.length : Int) = _
    rw [round_Quants.L1, if_neg (by omega), fill_n]
theorem rdot_is {N : Nat} (a b : List Int) (h : a.length = b.length) (hl : a.length < N) (h2 : a.length ≤ 1000000) : round_Dot N a b = some (IntKind.i32.wrap (dots a b a.length)) := by
  unfold round_Dot
  have h0 : (0 : Int) = IntKind.i32.wrap (dots a b 0) := rfl
  refine (congrArg (fun z => round_Dot.L1 a b N z 0) h0).trans ?_
  refine loop_c (fun m (s : Int) i => round_Dot.L1 a b m s i) (fun i => IntKind.i32.wrap (dots a b i)) a.length _ (fun m i hi => ?_) (fun m => ?_) N hl
  · show round_Dot.L1 a b (m + 1) _ (i : Int) = round_Dot.L1 a b m _ _
    rw [round_Dot.L1, if_pos (by omega), idx_d a 0 hi, Option.bind_some, idx_d b 0 (by omega), Option.bind_some, W_succ i (by omega)]
    congr 1
    rw [dots]
    generalize dots a b i = d
    generalize a.getD i 0 = x
    generalize b.getD i 0 = y
    have e : IntKind.i32.wrap (IntKind.i32.wrap x * IntKind.i32.wrap y) = IntKind.i32.wrap (x * y) := by
      obtain ⟨p, hp⟩ : ∃ p, IntKind.i32.wrap x = x + 4294967296 * p := ⟨-((x + 2147483648) / 4294967296), by rw [IntKind.wrap_i32]; omega⟩
      obtain ⟨q, hq⟩ : ∃ q, IntKind.i32.wrap y = y + 4294967296 * q := ⟨-((y + 2147483648) / 4294967296), by rw [IntKind.wrap_i32]; omega⟩
      rw [hp, hq, show (x + 4294967296 * p) * (y + 4294967296 * q) = x * y + 4294967296 * (p * y + x * q + 4294967296 * (p * q)) by
        rw [Int.add_mul, Int.mul_add, Int.mul_add]
        generalize x * y = xy
        rw [show x * (4294967296 * q) = 4294967296 * (x * q) by rw [Int.mul_left_comm], Int.mul_assoc 4294967296 p y, show 4294967296 * p * (4294967296 * q) = 4294967296 * (4294967296 * (p * q)) by rw [Int.mul_assoc, Int.mul_left_comm p]]
        omega]
      simp only [IntKind.wrap_i32]
      omega
    rw [e]
    simp only [IntKind.wrap_i32]
    omega
  · show round_Dot.L1 a b (m + 1) _ (a.length : Int) = _
    rw [round_Dot.L1, if_neg (by omega)]
end Go.Proofs.Ytdipfegofpfhaaa

namespace Go.Proofs.Ytdipfegofpfhaaa
open Go Go.Hp
set_option linter.unusedVariables false
theorem matP {m : S_api_Mat} {r c : Nat} (h : matR m r c) (hr : r ≤ 200) (hc : c ≤ 200) : matmul_wrong m = some false := by
  obtain ⟨h1, h2, h3⟩ := h
  have hrc : r * c ≤ 40000 := Nat.le_trans (Nat.mul_le_mul hr hc) (by decide)
  have e : ((r * c : Nat) : Int) = (r : Int) * (c : Int) := by simp
  have hs : ∀ k : Nat, k ≤ 200 → matmul_side (k : Int) = some true := fun k hk => by
    unfold matmul_side
    rw [if_pos (by omega), decide_eq_true (by omega)]
  unfold matmul_wrong
  rw [h1, h2, hs r hr, Option.bind_some, if_pos rfl, hs c hc, Option.bind_some, if_pos rfl, h3, W_in (by rw [← e]; omega), if_neg (by rw [← e]; omega), decide_eq_false (by omega)]
theorem rowAt {m : S_api_Mat} {r c i : Nat} (h : matR m r c) (hr : r ≤ 200) (hc : c ≤ 200) (hi : i < r) :
    IntKind.i64.wrap ((i : Int) * m.Cols) = ((i * c : Nat) : Int) ∧ IntKind.i64.wrap (IntKind.i64.wrap ((i : Int) + 1) * m.Cols) = (((i + 1) * c : Nat) : Int) ∧ (i + 1) * c ≤ m.V.length := by
  obtain ⟨h1, h2, h3⟩ := h
  have a1 : (i + 1) * c ≤ r * c := Nat.mul_le_mul_right c (by omega)
  have a2 : r * c ≤ 40000 := Nat.le_trans (Nat.mul_le_mul hr hc) (by decide)
  have a3 : i * c ≤ (i + 1) * c := Nat.mul_le_mul_right c (by omega)
  refine ⟨?_, ?_, by omega⟩
  · rw [h2, show (i : Int) * (c : Int) = ((i * c : Nat) : Int) by simp, W_in (by omega)]
  · rw [h2, W_succ i (by omega), show ((i + 1 : Nat) : Int) * (c : Int) = (((i + 1) * c : Nat) : Int) by simp, W_in (by omega)]
theorem row_part {m : S_api_Mat} {r c i : Nat} (h : matR m r c) (hi : (i + 1) * c ≤ m.V.length) : ((m.V.take ((i + 1) * c)).drop (i * c)).length = c ∧ ∀ j, j < c → ((m.V.take ((i + 1) * c)).drop (i * c)).getD j 0 = m.V.getD (i * c + j) 0 := by
  have e : (i + 1) * c = i * c + c := Nat.succ_mul i c
  refine ⟨by simp; omega, fun j hj => ?_⟩
  rw [List.getD_eq_getElem?_getD, List.getElem?_drop, List.getElem?_take, if_pos (by omega), ← List.getD_eq_getElem?_getD]
theorem papply_is {N : Nat} {m : S_api_Mat} {r c : Nat} (h : matR m r c) (hr : r ≤ 200) (hc : c ≤ 200) (hN : 200 < N) (x : List Int) (hx : x.length = c) : matmul_Apply N m x = some (applyS m x r c, 0) := by
  unfold matmul_Apply
  rw [show (⟨m.Rows, m.Cols, m.V⟩ : S_api_Mat) = m from rfl, matP h hr hc, Option.bind_some, if_neg (by decide), if_neg (by rw [h.2.1]; omega), chk_ok _ (by rw [h.1]; omega), h.1, Int.toNat_natCast]
  rw [fill_0 r (fun i => IntKind.i32.wrap (dots (rowOf m c i) x c)) 0]
  refine loop_c (fun k (s : List Int) i => matmul_Apply.L1 N m x k s i) (fun i => tabl r fun k => if k < i then IntKind.i32.wrap (dots (rowOf m c k) x c) else 0) r _ (fun k i hi => ?_) (fun k => ?_) N (by omega)
  · show matmul_Apply.L1 N m x (k + 1) _ (i : Int) = matmul_Apply.L1 N m x k _ _
    obtain ⟨w1, w2, w3⟩ := rowAt h hr hc hi
    obtain ⟨l1, l2⟩ := row_part h w3
    have a3 : i * c ≤ (i + 1) * c := Nat.mul_le_mul_right c (by omega)
    rw [matmul_Apply.L1, if_pos (by rw [h.1, Int.toNat_natCast]; omega), w1, w2, chk_ok _ (by omega), Int.toNat_natCast, Int.toNat_natCast, rdot_is _ _ (by rw [l1, hx]) (by omega) (by omega), Option.bind_some, idx_t _ hi, Option.bind_some, W_succ i (by omega), l1]
    have hd : dots ((m.V.take ((i + 1) * c)).drop (i * c)) x c = dots (rowOf m c i) x c := dots_congr _ _ _ _ c fun j hj => ⟨by rw [l2 j hj, rowOf, tabl_getD _ _ _ _ hj], rfl⟩
    rw [hd, fill_step r (fun k => IntKind.i32.wrap (dots (rowOf m c k) x c)) 0 i]
  · show matmul_Apply.L1 N m x (k + 1) _ (r : Int) = _
    rw [matmul_Apply.L1, if_neg (by rw [h.1, Int.toNat_natCast]; omega), fill_n]
    rfl
theorem pquants_is {N : Nat} {m : S_api_Mat} {r c : Nat} (h : matR m r c) (hr : r ≤ 200) (hc : c ≤ 200) (hN : 200 < N) (x : List Int) (hx : x.length = c) : model_quants N m x = some (quantsS m x r c) := by
  unfold model_quants
  rw [show (⟨m.Rows, m.Cols, m.V⟩ : S_api_Mat) = m from rfl, papply_is h hr hc hN x hx, Option.bind_some, roundQuants_is _ _ _ (by rw [applyS_len]; omega) (by rw [applyS_len]; omega), Option.bind_some, applyS_len]
  congr 1
  exact tabl_congr fun i hi => (scl8 _ _ _).symm
theorem pjoin_is {N : Nat} (x y : List Int) (by_ n : Int) (h : y.length = x.length) (hl : x.length ≤ 200) (hN : 200 < N) : norm_Join N x y by_ n = some (joinS x y by_ n, 0) := by
  have hs : ∀ a b : Int, round_Sum N [a, b] = some (IntKind.i32.wrap (a + b)) := fun a b => by
    obtain ⟨k, rfl⟩ : ∃ k, N = k + 3 := ⟨N - 3, by omega⟩
    unfold round_Sum
    rw [round_Sum.L1, if_pos (by simp), show idx [a, b] 0 = some a from rfl, Option.bind_some, Option.bind_some, show IntKind.i64.wrap (0 + 1) = 1 from rfl, round_Sum.L1, if_pos (by simp), show idx [a, b] 1 = some b from rfl, Option.bind_some, Option.bind_some, show IntKind.i64.wrap (1 + 1) = 2 from rfl, round_Sum.L1, if_neg (by simp)]
    congr 1
    simp only [IntKind.wrap_i32, IntKind.wrap_u32]
    omega
  unfold norm_Join
  rw [if_neg (by omega), chk_ok _ (by omega), Int.toNat_natCast, fill_0 x.length (fun i => IntKind.i32.wrap (x.getD i 0 + scl (y.getD i 0) by_ n (-2147483648) 2147483647)) 0]
  refine loop_c (fun k (s : List Int) i => norm_Join.L1 N x y by_ n k s i) (fun i => tabl x.length fun k => if k < i then IntKind.i32.wrap (x.getD k 0 + scl (y.getD k 0) by_ n (-2147483648) 2147483647) else 0) x.length _ (fun k i hi => ?_) (fun k => ?_) N (by omega)
  · show norm_Join.L1 N x y by_ n (k + 1) _ (i : Int) = norm_Join.L1 N x y by_ n k _ _
    rw [norm_Join.L1, if_pos (by omega), idx_d x 0 hi, Option.bind_some, idx_d y 0 (by omega), Option.bind_some, scale_is, Option.bind_some, hs, Option.bind_some, idx_t _ hi, Option.bind_some, W_succ i (by omega), fill_step x.length (fun i => IntKind.i32.wrap (x.getD i 0 + scl (y.getD i 0) by_ n (-2147483648) 2147483647)) 0 i]
  · show norm_Join.L1 N x y by_ n (k + 1) _ (x.length : Int) = _
    rw [norm_Join.L1, if_neg (by omega), fill_n]
    rfl
end Go.Proofs.Ytdipfegofpfhaaa

namespace Go.Proofs.Ytdipfegofpfhaaa
open Go Go.Hp
set_option linter.unusedVariables false
theorem shr_is (x : Int) (k : Nat) (hk : k ≤ 62) : ishr .i64 x (k : Int) = x / 2 ^ k := by
  unfold ishr
  have hp := pow_pos' k
  rw [show min ((k : Int).toNat) IntKind.i64.bits = k by show min ((k:Int).toNat) 64 = k; omega, Int.fdiv_eq_ediv_of_nonneg _ (by omega)]
theorem step_is (i : Nat) (h : i ≤ 33) : rope_step (i : Int) = some (sinT.getD (min i 32) 0) := by
  have key : ∀ i : Fin 34, rope_step ((i.val : Nat) : Int) = some (sinT.getD (min i.val 32) 0) := by decide +kernel
  exact key ⟨i, by omega⟩
theorem psin_is (a : Int) (ha : -9223372036854775808 ≤ a ∧ a ≤ 9223372036854775807) : rope_Sin a = some (sinS a) := by
  have hr : 0 ≤ a % 65536 ∧ a % 65536 < 65536 := by omega
  have e0 : iand .i64 a 65535 = a % 65536 := and_low .i64 (.inl rfl) 16 (by omega) a
  unfold rope_Sin sinS
  rw [e0]
  generalize a % 65536 = r at hr ⊢
  dsimp only
  have eq : IntKind.i64.wrap (Int.tdiv r 16384) = r / 16384 := by rw [Int.tdiv_eq_ediv_of_nonneg hr.1, W_in (by omega)]
  have em : Int.tmod r 16384 = r % 16384 := Int.tmod_eq_emod_of_nonneg hr.1
  have hq : 0 ≤ r / 16384 ∧ r / 16384 ≤ 3 := by omega
  rw [eq, em, Option.bind_some, Option.bind_some]
  have e1 : ∀ q : Int, iand .i64 q 1 = q % 2 := fun q => and_low .i64 (.inl rfl) 1 (by omega) q
  rw [e1]
  generalize r / 16384 = q at hq ⊢
  have j1 : ∀ f : Int, 0 ≤ f → f ≤ 16384 → rope_Sin.J1 q f = some (if q = 2 ∨ q = 3 then IntKind.i32.wrap (IntKind.i64.wrap (0 - arcS f)) else IntKind.i32.wrap (arcS f)) := by
    intro f h0 h1
    obtain ⟨i, hi⟩ := Int.eq_ofNat_of_zero_le (show 0 ≤ f / 512 by omega)
    have hi2 : i ≤ 32 := by omega
    have e9 : ishr .i64 f 9 = (i : Int) := (shr_is f 9 (by omega)).trans hi
    have e5 : iand .i64 f 511 = f % 512 := and_low .i64 (.inl rfl) 9 (by omega) f
    have ea : IntKind.i64.wrap (sinT.getD (min i 32) 0 + sh (IntKind.i64.wrap (IntKind.i64.wrap (sinT.getD (min (i + 1) 32) 0 - sinT.getD (min i 32) 0) * (f % 512))) 9) = arcS f := by
      unfold arcS
      by_cases c : f / 512 < 32
      · rw [if_pos c, hi, Int.toNat_natCast, show min i 32 = i by omega, show min (i + 1) 32 = i + 1 by omega]
      · obtain rfl : i = 32 := by omega
        rw [if_neg c, show f % 512 = 0 by omega]
        decide +kernel
    unfold rope_Sin.J1
    rw [e9, e5, W_succ i (by omega), step_is i (by omega), step_is (i + 1) (by omega), Option.bind_some, Option.bind_some, Option.bind_some, shift_is _ _ (W_range _), Option.bind_some, show (min (max (9 : Int) 0) 62).toNat = 9 from rfl, ea]
    by_cases c : q ≥ 2
    · rw [if_pos c, if_pos (show q = 2 ∨ q = 3 by omega)]; rfl
    · rw [if_neg c, if_neg (show ¬ (q = 2 ∨ q = 3) by omega)]; rfl
  by_cases c1 : q % 2 = 1
  · rw [if_pos c1, W_in (by omega), Option.bind_some, j1 _ (by omega) (by omega), if_pos (show q = 1 ∨ q = 3 by omega)]
  · rw [if_neg c1, j1 _ (by omega) (by omega), if_neg (show ¬ (q = 1 ∨ q = 3) by omega)]
theorem pcos_is (a : Int) (ha : -9223372036854775808 ≤ a ∧ a ≤ 9223372036854775807) : rope_Cos a = some (cosS a) := by
  unfold rope_Cos cosS
  have e0 : iand .i64 a 65535 = a % 65536 := and_low .i64 (.inl rfl) 16 (by omega) a
  rw [e0, W_in (by omega), psin_is _ (by omega), Option.bind_some]
theorem pangle_is (place pair : Nat) (hp : place ≤ 1000) (hq : pair ≤ 13) : rope_Angle (place : Int) (pair : Int) = some (angS place pair) := by
  unfold rope_Angle
  have e2 : IntKind.u64.wrap (pair : Int) = (pair : Int) := by rw [IntKind.wrap_u64]; omega
  have hk : (0 : Int) < 2 ^ pair := pow_pos' pair
  have hd : (0 : Int) ≤ 8192 / 2 ^ pair ∧ (8192 : Int) / 2 ^ pair ≤ 8192 := ⟨Int.ediv_nonneg (by decide) (by omega), Int.ediv_le_self _ (by decide)⟩
  have hm : (0 : Int) ≤ (place : Int) * (8192 / 2 ^ pair) ∧ (place : Int) * (8192 / 2 ^ pair) ≤ 8192000 := by
    refine ⟨Int.mul_nonneg (by omega) hd.1, ?_⟩
    have := Int.mul_le_mul (show (place : Int) ≤ 1000 by omega) hd.2 hd.1 (by decide)
    omega
  rw [if_neg (by omega), if_neg (by omega), if_neg (by omega), e2, show min (pair : Int) 14 = (pair : Int) by omega, chk_ok _ (by omega), shr_is 8192 pair (by omega), Option.bind_some, W_in (by omega)]
  congr 1
  exact and_low .i64 (.inl rfl) 16 (by omega) _
end Go.Proofs.Ytdipfegofpfhaaa

namespace Go.Proofs.Ytdipfegofpfhaaa
open Go Go.Hp
set_option linter.unusedVariables false
theorem ppair_is (place : Nat) (x : List Int) (i : Nat) : rope_pairOf (x.getD (2 * i) 0) (x.getD (2 * i + 1) 0) ⟨cosS (angS place i), sinS (angS place i)⟩ = some (turnA place x i, turnB place x i) := by
  have w8r : ∀ z : Int, IntKind.i8.wrap (min (max z (-128)) 127) = min (max z (-128)) 127 := fun z => by rw [w8_is]; omega
  unfold rope_pairOf
  rw [shift_is _ _ (W_range _), Option.bind_some, sat8_is, Option.bind_some, shift_is _ _ (W_range _), Option.bind_some, sat8_is, Option.bind_some]
  unfold turnA turnB
  rw [w8r, w8r]
  rfl
theorem pturn_is {N : Nat} (hN : 200 < N) (place : Nat) (hp : place ≤ 1000) (x : List Int) (p : Nat) (hx : x.length = 2 * p) (hl : p ≤ 13) : rope_Turn N (place : Int) x = some (turnS place x, 0) := by
  unfold rope_Turn
  rw [if_neg (by rw [Int.tmod_eq_emod_of_nonneg (by omega)]; omega), if_neg (by omega), if_neg (by omega), chk_ok _ (by omega), Int.toNat_natCast]
  let f : Nat → Int := fun k => if k % 2 = 0 then turnA place x (k / 2) else turnB place x (k / 2)
  have ht : turnS place x = tabl x.length f := by
    unfold turnS
    rw [show 2 * (x.length / 2) = x.length by omega]
  obtain ⟨m', s', hs', e⟩ := loop_to (fun m (s : List Int) i => rope_Turn.L1 (place : Int) x m s i) (fun i => ((2 * i : Nat) : Int)) p (fun i s => s = tabl x.length fun k => if k < 2 * i then f k else 0) (fun m i s hi hs => by
    subst hs
    refine ⟨_, rfl, ?_⟩
    have a1 : IntKind.i64.wrap (Int.tdiv ((2 * i : Nat) : Int) 2) = (i : Int) := by rw [Int.tdiv_eq_ediv_of_nonneg (by omega), W_in (by omega)]; omega
    have a2 : IntKind.i64.wrap (((2 * i : Nat) : Int) + 1) = ((2 * i + 1 : Nat) : Int) := W_succ (2 * i) (by omega)
    have a3 : IntKind.i64.wrap (((2 * i : Nat) : Int) + 2) = ((2 * (i + 1) : Nat) : Int) := by rw [W_in (by omega)]; omega
    have hr : -9223372036854775808 ≤ angS place i ∧ angS place i ≤ 9223372036854775807 := by unfold angS; omega
    have fA : turnA place x i = f (2 * i) := by show _ = if 2 * i % 2 = 0 then turnA place x (2 * i / 2) else _; rw [if_pos (by omega), show 2 * i / 2 = i by omega]
    have fB : turnB place x i = f (2 * i + 1) := by show _ = if (2 * i + 1) % 2 = 0 then _ else turnB place x ((2 * i + 1) / 2); rw [if_neg (by omega), show (2 * i + 1) / 2 = i by omega]
    show rope_Turn.L1 (place : Int) x (m + 1) _ ((2 * i : Nat) : Int) = _
    rw [rope_Turn.L1, if_pos (by omega), a1, a2, a3, pangle_is place i hp (by omega), Option.bind_some, idx_d x 0 (by omega), Option.bind_some, idx_d x 0 (by omega), Option.bind_some, pcos_is _ hr, Option.bind_some, psin_is _ hr, Option.bind_some, ppair_is, Option.bind_some, idx_t _ (by omega), Option.bind_some]
    show (idx ((tabl x.length fun k => if k < 2 * i then f k else 0).set (((2 * i : Nat) : Int)).toNat (turnA place x i)) ((2 * i + 1 : Nat) : Int)).bind _ = _
    rw [fA, fill_step x.length f 0 (2 * i), idx_t _ (by omega), Option.bind_some]
    show rope_Turn.L1 (place : Int) x m ((tabl x.length fun k => if k < 2 * i + 1 then f k else 0).set (((2 * i + 1 : Nat) : Int)).toNat (turnB place x i)) _ = _
    rw [fB, fill_step x.length f 0 (2 * i + 1)]
    rfl) N (List.replicate x.length 0) (by omega) (fill_0 x.length f 0)
  subst hs'
  refine e.trans ?_
  show rope_Turn.L1 (place : Int) x (m' + 1) _ ((2 * p : Nat) : Int) = _
  rw [rope_Turn.L1, if_neg (by omega), ht, show 2 * p = x.length from hx.symm, fill_n]
theorem pturned_is {N : Nat} (hN : 200 < N) (place w n : Nat) (hp : place ≤ 1000) (x : List Int) (hx : x.length = n * w) (hn : n ≤ 150) (hw : 0 < w) (hw2 : w % 2 = 0) (hw3 : w ≤ 26) : model_turned N (place : Int) (w : Int) x = some (turnedS place w x n) := by
  have hnw : n * w ≤ 3900 := Nat.mul_le_mul hn hw3
  unfold model_turned
  rw [chk_ok _ (by omega), Int.toNat_natCast]
  have key : ∀ (d m k : Nat), k + d = n → d < m → model_turned.L N (place : Int) w x m (turnedS place w x k) (k * w) = some (turnedS place w x n) := by
    intro d
    induction d with
    | zero =>
      intro m k hk hm
      obtain ⟨m, rfl⟩ : ∃ q, m = q + 1 := ⟨m - 1, by omega⟩
      obtain rfl : k = n := by omega
      rw [model_turned.L, if_neg (by omega)]
    | succ d ih =>
      intro m k hk hm
      obtain ⟨m, rfl⟩ : ∃ q, m = q + 1 := ⟨m - 1, by omega⟩
      have e1 : (k + 1) * w = k * w + w := Nat.succ_mul k w
      have e2 : (k + 1) * w ≤ n * w := Nat.mul_le_mul_right w (by omega)
      have e3 : k * w + min w (x.length - k * w) = (k + 1) * w := by omega
      have hpl : (part x w k).length = w := part_len x w k n hx (by omega)
      have hT := pturn_is hN place hp (part x w k) (w / 2) (by omega) (by omega)
      have hl := turnedS_len place w x n hx hw2 k (by omega)
      rw [model_turned.L, if_pos (by omega), e3, show (x.take ((k + 1) * w)).drop (k * w) = part x w k from rfl, hT, Option.bind_some]
      show (chk ((turnedS place w x k).length + (turnS place (part x w k)).length ≤ 4294967296) <| model_turned.L N (place : Int) w x m (turnedS place w x k ++ turnS place (part x w k)) (k * w + w)) = _
      rw [chk_ok _ (by rw [hl, turnS_len]; omega), ← e1]
      exact ih m (k + 1) (by omega) (by omega)
  have := key n N 0 (by omega) (by omega)
  rw [Nat.zero_mul] at this
  exact this
end Go.Proofs.Ytdipfegofpfhaaa

namespace Go.Proofs.Ytdipfegofpfhaaa
open Go Go.Hp
set_option linter.unusedVariables false
theorem estep_is (i : Nat) (h : i < 33) : curve_step (i : Int) = some (tbl.getD i 0) := by
  have key : ∀ i : Fin 33, curve_step ((i.val : Nat) : Int) = some (tbl.getD i.val 0) := by decide +kernel
  exact key ⟨i, by omega⟩
theorem pexp_is (x : Int) : curve_Exp x = some (expS x) := by
  unfold curve_Exp
  by_cases h0 : x ≥ 0
  · rw [if_pos h0]
    by_cases h1 : x > 0
    · unfold expS
      rw [if_pos h1]
    · obtain rfl : x = 0 := by omega
      decide +kernel
  rw [if_neg h0]
  by_cases h1 : x < -4294967296
  · rw [if_pos h1]
    unfold expS
    rw [if_neg (by omega), if_pos (by omega)]
  rw [if_neg h1]
  have e3 : ishr .i64 (IntKind.i64.wrap (IntKind.i64.wrap (0 - x) * 94548)) 16 = (0 - x) * 94548 / 65536 := by
    rw [W_in (x := 0 - x) (by omega), W_in (x := (0 - x) * 94548) (by omega)]
    exact shr_is _ 16 (by omega)
  have ht : 0 ≤ (0 - x) * 94548 / 65536 ∧ (0 - x) * 94548 / 65536 ≤ 8000000000 := by omega
  have hbig : x < -10000000 → (0 - x) * 94548 / 65536 / 65536 > 31 := fun h => by omega
  rw [e3, Option.bind_some]
  unfold expS
  rw [if_neg (show ¬ x > 0 by omega)]
  dsimp only
  generalize (0 - x) * 94548 / 65536 = t at ht hbig ⊢
  have e4 : ishr .i64 t 16 = t / 65536 := shr_is t 16 (by omega)
  rw [e4]
  by_cases h3 : t / 65536 > 31
  · rw [if_pos h3, if_pos h3]
    split <;> rfl
  rw [if_neg h3, if_neg (fun h => h3 (hbig h)), if_neg h3]
  obtain ⟨i, hi⟩ := Int.eq_ofNat_of_zero_le (show 0 ≤ t % 65536 / 2048 by omega)
  have hi2 : i < 32 := by omega
  have a1 : iand .i64 t 65535 = t % 65536 := and_low .i64 (.inl rfl) 16 (by omega) t
  have a2 : iand .i64 (t % 65536) 2047 = t % 65536 % 2048 := and_low .i64 (.inl rfl) 11 (by omega) _
  have a3 : ishr .i64 (t % 65536) 11 = (i : Int) := (shr_is _ 11 (by omega)).trans hi
  rw [a1, a2, a3, Option.bind_some, Option.bind_some, estep_is i (by omega), Option.bind_some, Option.bind_some, W_succ i (by omega), estep_is (i + 1) (by omega), Option.bind_some, shift_is _ _ (W_range _), Option.bind_some, shift_is _ _ (W_range _), Option.bind_some, hi, Int.toNat_natCast, show min (max (t / 65536) 0) 62 = t / 65536 by omega]
  rfl
end Go.Proofs.Ytdipfegofpfhaaa

namespace Go.Proofs.Ytdipfegofpfhaaa
open Go Go.Hp
set_option linter.unusedVariables false
theorem wu_id {x : Int} (h : 0 ≤ x ∧ x < 18446744073709551616) : IntKind.u64.wrap x = x := by rw [IntKind.wrap_u64]; omega
theorem pshares_is {N : Nat} (x : List Int) (h : in32 x) (hl : x.length ≤ 200) (hN : 200 < N) : curve_Shares N 65536 x = some (sharesS 65536 x) := by
  unfold curve_Shares
  rw [chk_ok _ (by omega)]
  refine loop_c (fun m (s : Int) i => curve_Shares.L1 N 65536 x m s i) (fun i => sumS x i) x.length _ (fun m i hi => ?_) (fun m => ?_) N (by omega)
  · show curve_Shares.L1 N 65536 x (m + 1) _ (i : Int) = curve_Shares.L1 N 65536 x m _ _
    obtain ⟨a, b, c⟩ := sumS_range x h i
    have hx := h i
    rw [curve_Shares.L1, if_pos (by omega), idx_d x 0 hi, Option.bind_some, Option.bind_some, W_succ i (by omega), wu_id (x := max (x.getD i 0) 0) (by omega), wu_id (by omega), sumS]
    congr 1
    by_cases hk : x.getD i 0 > 0
    · rw [if_pos hk]; omega
    · rw [if_neg hk]; omega
  · show curve_Shares.L1 N 65536 x (m + 1) _ (x.length : Int) = _
    rw [curve_Shares.L1, if_neg (by omega), Int.toNat_natCast]
    let f : Nat → Int := fun i => if x.getD i 0 > 0 ∧ (65536 : Int) > 0 then IntKind.i32.wrap (IntKind.i64.wrap (Int.tdiv (IntKind.i64.wrap (IntKind.i64.wrap (x.getD i 0) * IntKind.i64.wrap 65536)) (sumS x x.length))) else 0
    rw [fill_0 x.length f 0]
    refine loop_c (fun m (s : List Int) i => curve_Shares.L2 65536 x (sumS x x.length) m s i) (fun i => tabl x.length fun k => if k < i then f k else 0) x.length _ (fun m i hi => ?_) (fun m => ?_) N (by omega)
    · show curve_Shares.L2 65536 x _ (m + 1) _ (i : Int) = curve_Shares.L2 65536 x _ m _ _
      obtain ⟨a, b, c⟩ := sumS_range x h x.length
      have hx := c i hi
      have h32 := h i
      rw [curve_Shares.L2, if_pos (by omega), idx_d x 0 hi, Option.bind_some]
      by_cases hk : x.getD i 0 > 0
      · rw [if_pos hk, show decide ((65536 : Int) > 0) = true from rfl, curve_Shares.J4, if_pos rfl, chk_ok _ (by omega), idx_t _ hi, Option.bind_some, curve_Shares.J3, W_succ i (by omega)]
        have hd : 0 ≤ Int.tdiv (x.getD i 0 * 65536) (sumS x x.length) ∧ Int.tdiv (x.getD i 0 * 65536) (sumS x x.length) ≤ x.getD i 0 * 65536 := by
          rw [Int.tdiv_eq_ediv_of_nonneg (by omega)]
          exact ⟨Int.ediv_nonneg (by omega) (by omega), Int.ediv_le_self _ (by omega)⟩
        have e : IntKind.i32.wrap (IntKind.u64.wrap (Int.tdiv (IntKind.u64.wrap (IntKind.u64.wrap (x.getD i 0) * IntKind.u64.wrap 65536)) (sumS x x.length))) = f i := by
          show _ = if x.getD i 0 > 0 ∧ (65536 : Int) > 0 then IntKind.i32.wrap (IntKind.i64.wrap (Int.tdiv (IntKind.i64.wrap (IntKind.i64.wrap (x.getD i 0) * IntKind.i64.wrap 65536)) (sumS x x.length))) else 0
          rw [if_pos ⟨hk, by decide⟩, wu_id (x := x.getD i 0) (by omega), show IntKind.u64.wrap 65536 = 65536 from rfl, show IntKind.i64.wrap 65536 = 65536 from rfl, W_in (x := x.getD i 0) (by omega), wu_id (x := x.getD i 0 * 65536) (by omega), W_in (x := x.getD i 0 * 65536) (by omega), wu_id (by omega), W_in (by omega)]
        rw [e, fill_step x.length f 0 i]
      · rw [if_neg hk, curve_Shares.J4, if_neg (by decide), curve_Shares.J3, W_succ i (by omega)]
        congr 1
        refine tabl_congr fun j hj => ?_
        by_cases h1 : j < i
        · rw [if_pos h1, if_pos (by omega)]
        · rw [if_neg h1]
          by_cases h2 : j = i
          · subst h2
            rw [if_pos (by omega)]
            exact (if_neg (fun h => hk h.1)).symm
          · rw [if_neg (by omega)]
    · show curve_Shares.L2 65536 x _ (m + 1) _ (x.length : Int) = _
      rw [curve_Shares.L2, if_neg (by omega), fill_n]
      rfl
end Go.Proofs.Ytdipfegofpfhaaa

namespace Go.Proofs.Ytdipfegofpfhaaa
open Go Go.Hp
set_option linter.unusedVariables false
theorem pmax_is {N : Nat} (x : List Int) (h0 : 0 < x.length) (hl : x.length ≤ 200) (hN : 201 < N) : slices_Max_s_int32_int32 N x = some (topS x (x.getD 0 0) x.length) := by
  unfold slices_Max_s_int32_int32
  rw [if_neg (by omega), show idx x (0 : Int) = some (x.getD 0 0) from idx_d x 0 h0, Option.bind_some]
  have ht : ∀ k, topS x (x.getD 0 0) k ≥ x.getD 0 0 := by
    intro k
    induction k with
    | zero => exact Int.le_refl _
    | succ k ih => rw [topS]; split <;> omega
  have key : ∀ (d m k : Nat), k + d = x.length → d < m → slices_Max_s_int32_int32.L1 x m (topS x (x.getD 0 0) k) (k : Int) = some (topS x (x.getD 0 0) x.length) := by
    intro d
    induction d with
    | zero =>
      intro m k hk hm
      obtain ⟨m, rfl⟩ : ∃ q, m = q + 1 := ⟨m - 1, by omega⟩
      obtain rfl : k = x.length := by omega
      rw [slices_Max_s_int32_int32.L1, if_neg (by omega)]
    | succ d ih =>
      intro m k hk hm
      obtain ⟨m, rfl⟩ : ∃ q, m = q + 1 := ⟨m - 1, by omega⟩
      rw [slices_Max_s_int32_int32.L1, if_pos (by omega), idx_d x 0 (by omega), Option.bind_some, W_succ k (by omega), show max (topS x (x.getD 0 0) k) (x.getD k 0) = topS x (x.getD 0 0) (k + 1) by rw [topS]; split <;> omega]
      exact ih m (k + 1) (by omega) (by omega)
  have e1 : topS x (x.getD 0 0) 1 = x.getD 0 0 := by rw [topS, topS]; split <;> omega
  have := key (x.length - 1) N 1 (by omega) (by omega)
  rw [e1] at this
  exact this
theorem topS_ge (x : List Int) (t : Int) : ∀ k, topS x t k ≥ t ∧ (∀ j, j < k → topS x t k ≥ x.getD j 0) ∧ (topS x t k = t ∨ ∃ j, j < k ∧ topS x t k = x.getD j 0)
  | 0 => ⟨Int.le_refl _, fun j hj => by omega, .inl rfl⟩
  | k + 1 => by
    obtain ⟨a, b, c⟩ := topS_ge x t k
    rw [topS]
    by_cases h : x.getD k 0 > topS x t k
    · rw [if_pos h]
      refine ⟨by omega, fun j hj => ?_, .inr ⟨k, by omega, rfl⟩⟩
      by_cases e : j = k
      · subst e; omega
      · have := b j (by omega); omega
    · rw [if_neg h]
      refine ⟨a, fun j hj => ?_, c.imp id fun ⟨j, h1, h2⟩ => ⟨j, by omega, h2⟩⟩
      by_cases e : j = k
      · subst e; omega
      · exact b j (by omega)
theorem topS_same (x : List Int) (i j : Nat) (hi : i < x.length) (hj : j < x.length) : topS x (x.getD i 0) x.length = topS x (x.getD j 0) x.length := by
  obtain ⟨a1, b1, c1⟩ := topS_ge x (x.getD i 0) x.length
  obtain ⟨a2, b2, c2⟩ := topS_ge x (x.getD j 0) x.length
  have u1 := b1 j hj
  have u2 := b2 i hi
  rcases c1 with e1 | ⟨p, hp, e1⟩ <;> rcases c2 with e2 | ⟨q, hq, e2⟩
  · omega
  · have := b1 q hq; omega
  · have := b2 p hp; omega
  · have := b1 q hq; have := b2 p hp; omega
theorem psoftmax_is {N : Nat} (by_ n : Int) (x : List Int) (h0 : 0 < x.length) (hl : x.length ≤ 200) (hN : 201 < N) : norm_Softmax N by_ n x = some (softS by_ n x) := by
  unfold norm_Softmax
  rw [if_neg (by omega), pmax_is x h0 hl hN, Option.bind_some, chk_ok _ (by omega), Int.toNat_natCast]
  let f : Nat → Int := fun i => expS (sh (IntKind.i64.wrap (IntKind.i64.wrap (IntKind.i64.wrap (x.getD i 0) - IntKind.i64.wrap (topS x (x.getD i 0) x.length)) * IntKind.i64.wrap by_)) (min (max n 0) 62).toNat)
  rw [fill_0 x.length f 0]
  refine loop_c (fun m (s : List Int) i => norm_Softmax.L1 N by_ n x (topS x (x.getD 0 0) x.length) m s i) (fun i => tabl x.length fun k => if k < i then f k else 0) x.length _ (fun m i hi => ?_) (fun m => ?_) N (by omega)
  · show norm_Softmax.L1 N by_ n x _ (m + 1) _ (i : Int) = norm_Softmax.L1 N by_ n x _ m _ _
    rw [norm_Softmax.L1, if_pos (by omega), idx_d x 0 hi, Option.bind_some, shift_is _ _ (W_range _), Option.bind_some, pexp_is, Option.bind_some, idx_t _ hi, Option.bind_some, W_succ i (by omega), topS_same x 0 i h0 hi]
    exact congrArg (fun z => norm_Softmax.L1 N by_ n x _ m z _) (fill_step x.length f 0 i)
  · show norm_Softmax.L1 N by_ n x _ (m + 1) _ (x.length : Int) = _
    rw [norm_Softmax.L1, if_neg (by omega), fill_n]
    have hp : in32 (powS by_ n x) := by
      intro k
      by_cases hk : k < x.length
      · rw [powS, tabl_getD _ _ _ _ hk]; exact expS_range _
      · rw [List.getD_eq_getElem?_getD, List.getElem?_eq_none (by rw [powS, tabl_len]; omega)]; decide
    have := pshares_is (N := N) (powS by_ n x) hp (by rw [powS, tabl_len]; omega) (by omega)
    rw [powS] at this
    rw [this, Option.bind_some]
    rfl
end Go.Proofs.Ytdipfegofpfhaaa

namespace Go.Proofs.Ytdipfegofpfhaaa
open Go Go.Hp
set_option linter.unusedVariables false
theorem pmix_is {N : Nat} (ws : List Int) (rows : List (List Int)) (n : Nat) (hw : ws.length = rows.length) (h0 : 0 < rows.length) (hr : rows.length ≤ 200) (hn : ∀ i, i < rows.length → (rows.getD i []).length = n) (hn2 : n ≤ 200) (hN : 200 < N) : norm_Mix N ws rows = some (mixS ws rows n, 0) := by
  unfold norm_Mix
  have hl0 := hn 0 h0
  rw [if_neg (by omega), if_neg (by omega), show idx rows (0 : Int) = some (rows.getD 0 []) from idx_d rows [] h0, Option.bind_some, chk_ok _ (by omega)]
  generalize hy : rows.getD 0 [] = y at hl0 ⊢
  have hz : (List.replicate (((y.length : Nat) : Int)).toNat 0 : List Int) = tabl n fun k => accS ws rows k 0 := by rw [Int.toNat_natCast, hl0, tabl_rep]; rfl
  rw [hz]
  refine loop_c (fun m (s : List Int) i => norm_Mix.L1 N ws rows y m s i) (fun i => tabl n fun k => accS ws rows k i) rows.length _ (fun m i hi => ?_) (fun m => ?_) N (by omega)
  · show norm_Mix.L1 N ws rows y (m + 1) _ (i : Int) = norm_Mix.L1 N ws rows y m _ _
    have hli := hn i hi
    rw [norm_Mix.L1, if_pos (by omega), idx_d rows [] hi, Option.bind_some, if_neg (by rw [hli, Int.toNat_natCast, hl0]; omega)]
    have hs : (tabl n fun k => accS ws rows k i) = tabl n fun k => if k < 0 then accS ws rows k (i + 1) else accS ws rows k i := tabl_congr fun j hj => (if_neg (by omega)).symm
    rw [hs]
    refine loop_c (fun q (s : List Int) j => norm_Mix.L3 ws (i : Int) (rows.getD i []) (norm_Mix.L1 N ws rows y m) q s j) (fun j => tabl n fun k => if k < j then accS ws rows k (i + 1) else accS ws rows k i) n _ (fun q j hj => ?_) (fun q => ?_) N (by omega)
    · show norm_Mix.L3 ws _ _ _ (q + 1) _ (j : Int) = norm_Mix.L3 ws _ _ _ q _ _
      rw [norm_Mix.L3, if_pos (by omega), idx_d (rows.getD i []) 0 (by omega), Option.bind_some, idx_t _ hj, Option.bind_some, idx_d ws 0 (by omega), Option.bind_some, Option.bind_some, W_succ j (by omega), if_neg (show ¬ j < j by omega), Int.toNat_natCast, tabl_set]
      congr 1
      refine tabl_congr fun p hp => ?_
      by_cases e : p = j
      · subst e; rw [if_pos rfl, if_pos (by omega)]; rfl
      · rw [if_neg e]
        by_cases e2 : p < j
        · rw [if_pos e2, if_pos (by omega)]
        · rw [if_neg e2, if_neg (by omega)]
    · show norm_Mix.L3 ws _ _ _ (q + 1) _ (n : Int) = _
      rw [norm_Mix.L3, if_neg (by omega), W_succ i (by omega)]
      congr 1
      exact tabl_congr fun p hp => if_pos hp
  · show norm_Mix.L1 N ws rows y (m + 1) _ (rows.length : Int) = _
    rw [norm_Mix.L1, if_neg (by omega), Int.toNat_natCast, hl0, chk_ok _ (by omega), Int.toNat_natCast]
    let f : Nat → Int := fun k => IntKind.i8.wrap (min (max (sh (accS ws rows k rows.length) 16) (-128)) 127)
    rw [fill_0 n f 0]
    refine loop_c (fun q (s : List Int) j => norm_Mix.L2 y (tabl n fun k => accS ws rows k rows.length) q s j) (fun j => tabl n fun k => if k < j then f k else 0) n _ (fun q j hj => ?_) (fun q => ?_) N (by omega)
    · show norm_Mix.L2 y _ (q + 1) _ (j : Int) = norm_Mix.L2 y _ q _ _
      rw [norm_Mix.L2, if_pos (by rw [Int.toNat_natCast, hl0]; omega), idx_t _ hj, Option.bind_some, shift_is _ _ (accS_range ws rows j _), Option.bind_some, sat8_is, Option.bind_some, idx_t _ hj, Option.bind_some, W_succ j (by omega)]
      have e : min (max (sh (accS ws rows j rows.length) (min (max (16 : Int) 0) 62).toNat) (-128)) 127 = f j := by
        show _ = IntKind.i8.wrap (min (max (sh (accS ws rows j rows.length) 16) (-128)) 127)
        rw [w8_is, show (min (max (16 : Int) 0) 62).toNat = 16 from rfl]; omega
      rw [e, fill_step n f 0 j]
    · show norm_Mix.L2 y _ (q + 1) _ (n : Int) = _
      rw [norm_Mix.L2, if_neg (by rw [Int.toNat_natCast, hl0]; omega), fill_n]
      rfl
end Go.Proofs.Ytdipfegofpfhaaa

namespace Go.Proofs.Ytdipfegofpfhaaa
open Go Go.Hp
set_option linter.unusedVariables false
theorem u64w {n : Int} (h0 : 0 ≤ n) (h1 : n < 18446744073709551616) : IntKind.u64.wrap n = n := by rw [IntKind.wrap_u64]; omega
theorem u64_wraps (n : Int) (h0 : 0 ≤ n) (h1 : n < 2 ^ 64) : IntKind.u64.wrap n = n := u64w h0 (by have : (2 : Int) ^ 64 = 18446744073709551616 := by decide
                                                                                                   omega)
theorem ior_pow (i : Nat) (x : Int) (h0 : 0 ≤ x) (h1 : x < 18446744073709551616) (hx : x % 2 ^ (i + 1) = 0) (hi : i < 64) : ior .u64 x (2 ^ i) = x + 2 ^ i := by
  have hp : (2 : Int) ^ 64 = 18446744073709551616 := by decide
  have h2 : (2 : Int) ^ i < 2 ^ (i + 1) := by
    have : (2 : Nat) ^ i < 2 ^ (i + 1) := Nat.pow_lt_pow_right (by decide) (by omega)
    exact_mod_cast this
  have h3 : (2 : Int) ^ i < 2 ^ 64 := by
    have : (2 : Nat) ^ i < 2 ^ 64 := Nat.pow_lt_pow_right (by decide) hi
    exact_mod_cast this
  have h4 : (0 : Int) ≤ 2 ^ i := by
    have : (0 : Nat) ≤ 2 ^ i := Nat.zero_le _
    exact_mod_cast this
  exact bits_join .u64 64 (by decide) u64_wraps (i + 1) x (2 ^ i) h0 hx (by omega) h4 h2 h3
theorem ishl_one (b : Nat) (hb : b < 64) : ishl .u64 1 (b : Int) = 2 ^ b := by
  unfold ishl
  have e : min ((b : Int).toNat) IntKind.u64.bits = b := by
    show min ((b : Int).toNat) 64 = b
    omega
  rw [e, Int.one_mul]
  refine u64_wraps _ ?_ ?_
  · have : (0 : Nat) ≤ 2 ^ b := Nat.zero_le _
    exact_mod_cast this
  · have : (2 : Nat) ^ b < 2 ^ 64 := Nat.pow_lt_pow_right (by decide) hb
    exact_mod_cast this
theorem mul_u64 {a b : Int} (ha0 : 0 ≤ a) (ha : a < 4294967296) (hb0 : 0 ≤ b) (hb : b < 4294967296) : 0 ≤ a * b ∧ a * b < 18446744073709551616 := by
  refine ⟨Int.mul_nonneg ha0 hb0, ?_⟩
  have h1 : a * b ≤ 4294967295 * b := Int.mul_le_mul_of_nonneg_right (by omega) hb0
  omega
theorem root_one {a b n : Nat} (h1 : a * a ≤ n) (h2 : n < (a + 1) * (a + 1)) (h3 : b * b ≤ n) (h4 : n < (b + 1) * (b + 1)) : a = b := by
  rcases Nat.lt_trichotomy a b with h | h | h
  · have : (a + 1) * (a + 1) ≤ b * b := Nat.mul_le_mul (by omega) (by omega)
    omega
  · exact h
  · have : (b + 1) * (b + 1) ≤ a * a := Nat.mul_le_mul (by omega) (by omega)
    omega
theorem bitLen_lt (x : Nat) (hx : x < 2 ^ 64) : x < 2 ^ Lib.bitLen x := by
  have key : ∀ (f y : Nat), y < 2 ^ f → y < 2 ^ Lib.bitLenAux f y := by
    intro f
    induction f with
    | zero => intro y hy; simpa [Lib.bitLenAux] using hy
    | succ f ih =>
      intro y hy
      simp only [Lib.bitLenAux]
      split
      · rename_i h; subst h; decide
      · have := ih (y / 2) (by rw [Nat.pow_succ] at hy; omega)
        rw [Nat.add_comm, Nat.pow_succ]
        omega
  exact key 64 x hx
theorem bitLen_le (x : Nat) : Lib.bitLen x ≤ 64 := by
  have key : ∀ (f y : Nat), Lib.bitLenAux f y ≤ f := by
    intro f
    induction f with
    | zero => intro y; simp [Lib.bitLenAux]
    | succ f ih =>
      intro y
      simp only [Lib.bitLenAux]
      split
      · omega
      · have := ih (y / 2); omega
  exact key 64 x
theorem mul64_small (a b : Int) (ha0 : 0 ≤ a) (ha : a < 4294967296) (hb0 : 0 ≤ b) (hb : b < 4294967296) : bits_Mul64 a b = some (0, a * b) := by
  obtain ⟨hp0, hp1⟩ := mul_u64 ha0 ha hb0 hb
  have m : ∀ x : Int, 0 ≤ x → x < 18446744073709551616 → iand .u64 x 4294967295 = x % 4294967296 := fun x h0 h1 => and_low .u64 (.inr rfl) 32 (by decide) x
  have s : ∀ x : Int, 0 ≤ x → ishr .u64 x 32 = x / 4294967296 := fun x h0 => by
    show x.fdiv (2 ^ min (32 : Int).toNat IntKind.u64.bits) = _
    rw [show (2 : Int) ^ min (32 : Int).toNat IntKind.u64.bits = 4294967296 from rfl, Int.fdiv_eq_ediv_of_nonneg _ (by decide)]
  have da : a / 4294967296 = 0 := by omega
  have db : b / 4294967296 = 0 := by omega
  have ma : iand .u64 a 4294967295 = a := by rw [m a ha0 (by omega)]; omega
  have mb : iand .u64 b 4294967295 = b := by rw [m b hb0 (by omega)]; omega
  have sa : ishr .u64 a 32 = 0 := by rw [s a ha0]; exact da
  have sb : ishr .u64 b 32 = 0 := by rw [s b hb0]; exact db
  unfold bits_Mul64
  rw [ma, mb, sa, sb, Option.bind_some, u64w hp0 hp1, Option.bind_some]
  have e2 : IntKind.u64.wrap (IntKind.u64.wrap (0 * b) + ishr .u64 (a * b) 32) = a * b / 4294967296 := by
    rw [s _ hp0, Int.zero_mul, u64w (n := 0) (by decide) (by decide), u64w (n := 0 + a * b / 4294967296) (by omega) (by omega)]; omega
  have q0 : 0 ≤ a * b / 4294967296 ∧ a * b / 4294967296 < 4294967296 := by omega
  have e3 : IntKind.u64.wrap (iand .u64 (a * b / 4294967296) 4294967295 + IntKind.u64.wrap (a * 0)) = a * b / 4294967296 := by
    rw [m _ q0.1 (by omega), Int.mul_zero, u64w (n := 0) (by decide) (by decide), Int.add_zero, u64w (by omega) (by omega)]; omega
  have e4 : a * b / 4294967296 / 4294967296 = 0 := by omega
  rw [e2, Option.bind_some, e3, Option.bind_some, s _ q0.1, e4]
  rfl
theorem root_loop (n : Nat) (b : Nat) : ∀ (k r : Nat), b < k → r % 2 ^ b = 0 → r * r ≤ n → n < (r + 2 ^ b) * (r + 2 ^ b) → r + 2 ^ b ≤ 4294967296 →
    ∃ q : Nat, curve_Root.L1 (n : Int) k (r : Int) (b : Int) = some (q : Int) ∧ q * q ≤ n ∧ n < (q + 1) * (q + 1) ∧ q < 4294967296 := by
  induction b with
  | zero =>
    intro k r hk _ h1 h2 h3
    obtain ⟨k, rfl⟩ : ∃ m, k = m + 1 := ⟨k - 1, by omega⟩
    refine ⟨r, ?_, h1, by simpa using h2, by omega⟩
    rw [curve_Root.L1, if_neg (by decide)]
  | succ b ih =>
    intro k r hk hm h1 h2 h3
    obtain ⟨k, rfl⟩ : ∃ m, k = m + 1 := ⟨k - 1, by omega⟩
    have hb : b < 32 := by
      rcases Nat.lt_or_ge b 32 with h | h
      · exact h
      · have : 2 ^ 33 ≤ 2 ^ (b + 1) := Nat.pow_le_pow_right (by decide) (by omega)
        omega
    have hpow : 2 ^ (b + 1) = 2 ^ b * 2 := Nat.pow_succ 2 b
    have hpos : 0 < 2 ^ b := Nat.two_pow_pos b
    have hup : r + 2 ^ b < 4294967296 := by omega
    have e0 : IntKind.u64.wrap (((b + 1 : Nat) : Int) - 1) = (b : Int) := by rw [u64w] <;> omega
    have e1 : ior .u64 (r : Int) (2 ^ b) = ((r + 2 ^ b : Nat) : Int) := by
      rw [ior_pow b (r : Int) (by omega) (by omega) (by exact_mod_cast hm) (by omega)]
      simp
    have step : ∀ q : Bool, curve_Root.J3 (r : Int) ((b + 1 : Nat) : Int) ((r + 2 ^ b : Nat) : Int) (curve_Root.L1 (n : Int) k) q = curve_Root.L1 (n : Int) k (((if q = true then r + 2 ^ b else r : Nat) : Int)) (b : Int) := by
      intro q
      unfold curve_Root.J3 curve_Root.J2
      rw [e0]
      cases q <;> rfl
    rw [curve_Root.L1, if_pos (by omega), e0, chk_ok _ (by omega), ishl_one b (by omega), e1, Option.bind_some, mul64_small _ _ (by omega) (by omega) (by omega) (by omega), Option.bind_some, if_pos rfl, step]
    have hmod : (r + 2 ^ b) % 2 ^ b = 0 := by
      have : r % 2 ^ b = 0 := by
        have h := Nat.mod_mod_of_dvd r (show 2 ^ b ∣ 2 ^ (b + 1) from ⟨2, hpow⟩)
        rw [← h, hm]; simp
      simp [this]
    have hmod' : r % 2 ^ b = 0 := by simpa using hmod
    by_cases hle : ((r + 2 ^ b : Nat) : Int) * ((r + 2 ^ b : Nat) : Int) ≤ (n : Int)
    · rw [if_pos (decide_eq_true hle)]
      exact ih k (r + 2 ^ b) (by omega) hmod (by exact_mod_cast hle) (by rw [show r + 2 ^ b + 2 ^ b = r + 2 ^ (b + 1) by omega]; exact h2) (by omega)
    · rw [if_neg (fun e => hle (of_decide_eq_true e))]
      refine ih k r (by omega) hmod' h1 ?_ (by omega)
      have : ¬ (r + 2 ^ b) * (r + 2 ^ b) ≤ n := fun h => hle (by exact_mod_cast h)
      omega
theorem root_is (n : Nat) (hn : n < 18446744073709551616) (k : Nat) (hk : 40 ≤ k) :
    ∃ q : Nat, curve_Root k (n : Int) = some (q : Int) ∧ q * q ≤ n ∧ n < (q + 1) * (q + 1) ∧ q < 4294967296 := by
  have hL := bitLen_le n
  have hlt := bitLen_lt n (by simpa using hn)
  unfold curve_Root bits_Len64
  rw [if_pos (by omega), Option.bind_some, Int.toNat_natCast, W_in (by omega), u64w (n := (Lib.bitLen n : Int) + 1) (by omega) (by omega)]
  have e : IntKind.u64.wrap (Int.tdiv ((Lib.bitLen n : Int) + 1) 2) = (((Lib.bitLen n + 1) / 2 : Nat) : Int) := by
    rw [Int.tdiv_eq_ediv_of_nonneg (by omega), u64w] <;> omega
  rw [e, Option.bind_some]
  have h32 : 2 ^ ((Lib.bitLen n + 1) / 2) ≤ 2 ^ 32 := Nat.pow_le_pow_right (by decide) (by omega)
  refine root_loop n _ k 0 (by omega) (Nat.zero_mod _) (by omega) ?_ (by omega)
  rw [Nat.zero_add, ← Nat.pow_add]
  exact Nat.lt_of_lt_of_le hlt (Nat.pow_le_pow_right (by decide) (by omega))
theorem inverseR_is (n : Nat) (h0 : n ≠ 0) (k : Nat) (hk : 40 ≤ k) :
    ∃ q : Nat, curve_Inverse k (n : Int) = some (q : Int) ∧ q * q ≤ 281474976710656 / n ∧ 281474976710656 / n < (q + 1) * (q + 1) ∧ q < 4294967296 := by
  have hd : 281474976710656 / n ≤ 281474976710656 := Nat.div_le_self _ _
  obtain ⟨q, hq, h⟩ := root_is (281474976710656 / n) (by omega) k hk
  refine ⟨q, ?_, h⟩
  unfold curve_Inverse
  rw [if_neg (by omega), chk_ok _ (by omega), Int.tdiv_eq_ediv_of_nonneg (by decide)]
  have e : (281474976710656 : Int) / (n : Int) = ((281474976710656 / n : Nat) : Int) := by simp
  rw [e, u64w (by omega) (by omega), hq]
  rfl
end Go.Proofs.Ytdipfegofpfhaaa

namespace Go.Proofs.Ytdipfegofpfhaaa
open Go Go.Hp
set_option linter.unusedVariables false
theorem pinv_is {N : Nat} (hN : 100 ≤ N) (n : Int) (h0 : 0 ≤ n) (h1 : n < 18446744073709551616) : curve_Inverse N n = some (invS n) ∧ -9223372036854775808 ≤ invS n ∧ invS n ≤ 9223372036854775807 := by
  unfold invS
  obtain ⟨m, rfl⟩ := Int.eq_ofNat_of_zero_le h0
  by_cases hm : m = 0
  · subst hm
    have z : ∀ k, curve_Inverse k ((0 : Nat) : Int) = some 16777216 := fun k => by unfold curve_Inverse; exact if_pos rfl
    rw [z N, z 100]
    exact ⟨rfl, by decide⟩
  · obtain ⟨q, e, a1, a2, a3⟩ := inverseR_is m hm N (by omega)
    obtain ⟨p, e', b1, b2, b3⟩ := inverseR_is m hm 100 (by omega)
    rw [e, e', root_one a1 a2 b1 b2]
    refine ⟨rfl, ?_⟩
    show -9223372036854775808 ≤ (p : Int) ∧ (p : Int) ≤ 9223372036854775807
    omega
end Go.Proofs.Ytdipfegofpfhaaa

namespace Go.Proofs.Ytdipfegofpfhaaa
open Go Go.Hp
set_option linter.unusedVariables false
set_option linter.unusedSimpArgs false
set_option linter.unusedSectionVars false
theorem wu_range (x : Int) : 0 ≤ IntKind.u64.wrap x ∧ IntKind.u64.wrap x < 18446744073709551616 := by rw [IntKind.wrap_u64]; omega
theorem tame_is (y : Int) : norm_tame y = some (min (max (IntKind.i64.wrap y) (-8388608)) 8388607) := rfl
theorem square_is {N : Nat} (x : List Int) (h0 : 0 < x.length) (hl : x.length ≤ 200) (hN : 200 < N) : norm_square N x = some (IntKind.u64.wrap (Int.tdiv (sqS x x.length) (IntKind.u64.wrap ((x.length : Nat) : Int)))) := by
  unfold norm_square
  refine loop_c (fun m (s : Int) i => norm_square.L1 x m s i) (fun i => sqS x i) x.length _ (fun m i hi => ?_) (fun m => ?_) N (by omega)
  · show norm_square.L1 x (m + 1) _ (i : Int) = norm_square.L1 x m _ _
    rw [norm_square.L1, if_pos (by omega), idx_d x 0 hi, Option.bind_some, tame_is, Option.bind_some, Option.bind_some, Option.bind_some, W_succ i (by omega)]
    rfl
  · show norm_square.L1 x (m + 1) _ (x.length : Int) = _
    rw [norm_square.L1, if_neg (by omega), chk_ok _ (by rw [wu_in (by omega)]; omega), Option.bind_some]
theorem pnorm_is {N : Nat} (hN : 200 < N) (g x : List Int) (hg : g.length = x.length) (h0 : 0 < x.length) (hl : x.length ≤ 200) : norm_Norm N g x = some (normS g x, 0) := by
  have hr := wu_range (Int.tdiv (sqS x x.length) (IntKind.u64.wrap ((x.length : Nat) : Int)))
  obtain ⟨hv, _, _⟩ := pinv_is (N := N) (by omega) _ hr.1 hr.2
  unfold norm_Norm
  rw [if_neg (by omega), if_neg (by omega), if_neg (by omega), square_is x h0 hl hN, Option.bind_some, hv, Option.bind_some, chk_ok _ (by omega), Int.toNat_natCast]
  let f : Nat → Int := fun i => IntKind.i8.wrap (min (max (sh (IntKind.i64.wrap (IntKind.i64.wrap (min (max (IntKind.i64.wrap (x.getD i 0)) (-8388608)) 8388607 * IntKind.i64.wrap (invS (IntKind.u64.wrap (Int.tdiv (sqS x x.length) (IntKind.u64.wrap ((x.length : Nat) : Int)))))) * IntKind.i64.wrap (g.getD i 0))) 23) (-128)) 127)
  rw [fill_0 x.length f 0]
  refine loop_c (fun m (s : List Int) i => norm_Norm.L1 g x _ m s i) (fun i => tabl x.length fun k => if k < i then f k else 0) x.length _ (fun m i hi => ?_) (fun m => ?_) N (by omega)
  · show norm_Norm.L1 g x _ (m + 1) _ (i : Int) = norm_Norm.L1 g x _ m _ _
    rw [norm_Norm.L1, if_pos (by omega), idx_d x 0 hi, Option.bind_some, tame_is, Option.bind_some, idx_d g 0 (by omega), Option.bind_some, shift_is _ _ (W_range _), Option.bind_some, sat8_is, Option.bind_some, idx_t _ hi, Option.bind_some, W_succ i (by omega)]
    have e : min (max (sh (IntKind.i64.wrap (IntKind.i64.wrap (min (max (IntKind.i64.wrap (x.getD i 0)) (-8388608)) 8388607 * IntKind.i64.wrap (invS (IntKind.u64.wrap (Int.tdiv (sqS x x.length) (IntKind.u64.wrap ((x.length : Nat) : Int)))))) * IntKind.i64.wrap (g.getD i 0))) (min (max (23 : Int) 0) 62).toNat) (-128)) 127 = f i := by
      show _ = IntKind.i8.wrap (min (max (sh (IntKind.i64.wrap (IntKind.i64.wrap (min (max (IntKind.i64.wrap (x.getD i 0)) (-8388608)) 8388607 * IntKind.i64.wrap (invS (IntKind.u64.wrap (Int.tdiv (sqS x x.length) (IntKind.u64.wrap ((x.length : Nat) : Int)))))) * IntKind.i64.wrap (g.getD i 0))) 23) (-128)) 127)
      rw [w8_is, show (min (max (23 : Int) 0) 62).toNat = 23 from rfl]; omega
    rw [e, fill_step x.length f 0 i]
  · show norm_Norm.L1 g x _ (m + 1) _ (x.length : Int) = _
    rw [norm_Norm.L1, if_neg (by omega), fill_n]
    rfl
theorem clone8_is (x : List Int) (h : x.length ≤ 100000) : slices_Clone_s_int8_int8 x = some x := by
  unfold slices_Clone_s_int8_int8
  rw [app_ok _ _ (by simp; omega), Option.bind_some]; rfl
theorem gate_is {N : Nat} (u : List Int) (hl : u.length ≤ 300) (hN : 300 < N) : norm_Gate N u = some (reluS u) := by
  unfold norm_Gate
  rw [clone8_is u (by omega), Option.bind_some]
  let f : Nat → Int := fun i => if u.getD i 0 < 0 then 0 else u.getD i 0
  have h0 : u = tabl u.length fun k => if k < 0 then f k else u.getD k 0 := by
    conv => lhs; rw [tab_of u 0]
    exact tabl_congr fun j hj => (if_neg (by omega)).symm
  have e0 : norm_Gate.L1 u N u 0 = norm_Gate.L1 u N (tabl u.length fun k => if k < 0 then f k else u.getD k 0) 0 := congrArg (fun z => norm_Gate.L1 u N z 0) h0
  rw [e0]
  refine loop_c (fun m (s : List Int) i => norm_Gate.L1 u m s i) (fun i => tabl u.length fun k => if k < i then f k else u.getD k 0) u.length _ (fun m i hi => ?_) (fun m => ?_) N (by omega)
  · show norm_Gate.L1 u (m + 1) _ (i : Int) = norm_Gate.L1 u m _ _
    rw [norm_Gate.L1, if_pos (by omega), idx_t _ hi, Option.bind_some, Option.bind_some, W_succ i (by omega), if_neg (show ¬ i < i by omega), Int.toNat_natCast, tabl_set]
    congr 1
    refine tabl_congr fun p hp => ?_
    by_cases e : p = i
    · subst e; rw [if_pos rfl, if_pos (by omega)]
      show _ = if u.getD p 0 < 0 then 0 else u.getD p 0
      split <;> omega
    · rw [if_neg e]
      by_cases e2 : p < i
      · rw [if_pos e2, if_pos (by omega)]
      · rw [if_neg e2, if_neg (by omega)]
  · show norm_Gate.L1 u (m + 1) _ (u.length : Int) = _
    rw [norm_Gate.L1, if_neg (by omega)]
    exact congrArg some (tabl_congr fun j hj => if_pos hj)
end Go.Proofs.Ytdipfegofpfhaaa

namespace Go.Proofs.Ytdipfegofpfhaaa
open Go Go.Hp
set_option linter.unusedVariables false
set_option linter.unusedSimpArgs false
set_option linter.unusedSectionVars false
def lookS (L : List S_ref08_Kept) (s : S_model_spot) : Option S_model_kept :=
  if 0 ≤ s.layer ∧ 0 ≤ s.place ∧ s.place < L.length ∧ s.layer < (L.getD s.place.toNat zK).K.length then some ⟨(L.getD s.place.toNat zK).K.getD s.layer.toNat [], (L.getD s.place.toNat zK).V.getD s.layer.toNat []⟩ else none
def KM (L : List S_ref08_Kept) (m : List (S_model_spot × S_model_kept)) : Prop := ∀ s, mget m s = lookS L s
theorem lookS_at (L : List S_ref08_Kept) (n p : Nat) (hp : p < L.length) (hn : n < (L.getD p zK).K.length) : lookS L ⟨(n : Int), (p : Int)⟩ = some ⟨(L.getD p zK).K.getD n [], (L.getD p zK).V.getD n []⟩ := by
  unfold lookS
  simp only [Int.toNat_natCast]
  exact if_pos ⟨by omega, by omega, by omega, by omega⟩
theorem getD_app1 {α : Type} (l : List α) (a z : α) (k : Nat) : (l ++ [a]).getD k z = if k < l.length then l.getD k z else if k = l.length then a else z := by
  rw [List.getD_eq_getElem?_getD]
  by_cases h : k < l.length
  · rw [if_pos h, List.getElem?_append_left h, ← List.getD_eq_getElem?_getD]
  · rw [if_neg h]
    by_cases e : k = l.length
    · subst e; rw [if_pos rfl]; simp
    · rw [if_neg e, List.getElem?_eq_none (by rw [len_app1]; omega)]; rfl
theorem lookS_z (L : List S_ref08_Kept) (s : S_model_spot) : lookS (L ++ [zK]) s = lookS L s := by
  unfold lookS
  by_cases h : 0 ≤ s.place
  · obtain ⟨p, hp⟩ := Int.eq_ofNat_of_zero_le h
    rw [hp, Int.toNat_natCast, getD_app1, len_app1]
    by_cases h1 : p < L.length
    · rw [if_pos h1]
      by_cases c : 0 ≤ s.layer ∧ 0 ≤ ((p : Nat) : Int) ∧ ((p : Nat) : Int) < ((L.length : Nat) : Int) ∧ s.layer < ((L.getD p zK).K.length : Int)
      · rw [if_pos c, if_pos ⟨c.1, c.2.1, by omega, c.2.2.2⟩]
      · rw [if_neg c, if_neg (fun q => c ⟨q.1, q.2.1, by omega, q.2.2.2⟩)]
    · rw [if_neg h1]
      have hz : (if p = L.length then zK else zK) = zK := by split <;> rfl
      rw [hz, if_neg (fun q => by have := q.2.2.2; simp only [zK, List.length_nil] at this; omega), if_neg (fun q => h1 (by omega))]
  · rw [if_neg (fun q => h q.2.1), if_neg (fun q => h q.2.1)]
theorem KM_z {L : List S_ref08_Kept} {m : List (S_model_spot × S_model_kept)} (h : KM L m) : KM (L ++ [zK]) m := fun s => by rw [h s, lookS_z]
theorem KM_set {L : List S_ref08_Kept} {kk : S_ref08_Kept} {m : List (S_model_spot × S_model_kept)} (h : KM (L ++ [kk]) m) (n : Nat) (h1 : kk.K.length = n) (h2 : kk.V.length = n) (a b : List Int) :
    KM (L ++ [⟨kk.K ++ [a], kk.V ++ [b]⟩]) (mset m ⟨(n : Int), ((L.length : Nat) : Int)⟩ ⟨a, b⟩) := by
  intro s
  rw [mget_mset]
  by_cases hs : s = ⟨(n : Int), ((L.length : Nat) : Int)⟩
  · subst hs
    rw [if_pos rfl, lookS_at _ n L.length (by rw [len_app1]; omega) (by rw [getD_app1, if_neg (by omega), if_pos rfl]; simp [h1])]
    rw [getD_app1 L, if_neg (by omega), if_pos rfl]
    dsimp only
    rw [getD_app1, getD_app1, if_neg (by omega), if_pos (by omega), if_neg (by omega), if_pos (by omega)]
  · rw [if_neg hs, h s]
    unfold lookS
    rw [len_app1, len_app1]
    by_cases hp : s.place.toNat = L.length
    · rw [hp, getD_app1 L kk, getD_app1 L, if_neg (show ¬ L.length < L.length by omega), if_pos (show L.length = L.length from rfl), if_neg (show ¬ L.length < L.length by omega), if_pos (show L.length = L.length from rfl)]
      dsimp only
      rw [len_app1]
      by_cases c : 0 ≤ s.layer ∧ 0 ≤ s.place ∧ s.place < ((L.length + 1 : Nat) : Int) ∧ s.layer < ((kk.K.length : Nat) : Int)
      · rw [if_pos c, if_pos ⟨c.1, c.2.1, c.2.2.1, by omega⟩, getD_app1, getD_app1, if_pos (by omega), if_pos (by omega)]
      · rw [if_neg c, if_neg (fun q => by
          have : s.layer = (n : Int) := by
            rcases Int.lt_or_le s.layer (n : Int) with hh | hh
            · exact absurd ⟨q.1, q.2.1, q.2.2.1, by omega⟩ c
            · have := q.2.2.2; omega
          exact hs (by cases s; simp only [S_model_spot.mk.injEq] at *; omega))]
    · rw [getD_app1, getD_app1]
      by_cases h3 : s.place.toNat < L.length
      · rw [if_pos h3, if_pos h3]
      · rw [if_neg h3, if_neg h3, if_neg hp, if_neg hp]
section
variable {d : Dim} (hd : DOK d)
include hd
theorem pat_is (x : List Int) (h : Nat) (hx : x.length = d.w) (hh : h < d.h) : (0 : Int) ≤ ((h * d.wd : Nat) : Int) ∧ ((h * d.wd : Nat) : Int) ≤ IntKind.i64.wrap (((h * d.wd : Nat) : Int) + (d.wd : Int)) ∧ IntKind.i64.wrap (((h * d.wd : Nat) : Int) + (d.wd : Int)) ≤ ((x.length : Nat) : Int) ∧ ((x.take (IntKind.i64.wrap (((h * d.wd : Nat) : Int) + (d.wd : Int))).toNat).drop (((h * d.wd : Nat) : Int)).toNat) = part x d.wd h := by
  have h1 : (h + 1) * d.wd ≤ d.h * d.wd := Nat.mul_le_mul_right _ (by omega)
  have h2 := hd.w
  have h3 : (h + 1) * d.wd = h * d.wd + d.wd := Nat.succ_mul _ _
  have : d.w = d.h * d.wd := rfl
  have e : IntKind.i64.wrap (((h * d.wd : Nat) : Int) + (d.wd : Int)) = (((h + 1) * d.wd : Nat) : Int) := by rw [W_in (by omega)]; omega
  rw [e, Int.toNat_natCast, Int.toNat_natCast]
  exact ⟨by omega, by omega, by omega, rfl⟩
theorem pattend_is {N : Nat} (hN : 300 < N) {w : S_api_Weights} (hw : WOK d w) (r : S_model_Run) (hm : r.m = some ⟨w⟩) (L : List S_ref08_Kept) (hL : L.length ≤ 50) (hL0 : L ≠ []) (hp : r.place + 1 = ((L.length : Nat) : Int)) (hk : KM L r.kept) (n : Nat) (hn : n < d.ly)
    (hK : ∀ k ∈ L, n < k.K.length ∧ n < k.V.length ∧ (∀ r ∈ k.K, r.length = d.w) ∧ ∀ r ∈ k.V, r.length = d.w) (q : List Int) (hq : q.length = d.w) : model_Run_attend N r (n : Int) q = some (attS d L n q d.h) := by
  have hlp : 0 < L.length := List.length_pos_iff.2 hL0
  have hdd := hd.h; have hly := hd.ly; have hww := dw16 hd; have hwd := hd.wd
  have hdw : d.w = d.h * d.wd := rfl
  have hkk : ∀ p, p < L.length → ((L.getD p zK).K.getD n []).length = d.w ∧ ((L.getD p zK).V.getD n []).length = d.w := fun p hp => by
    obtain ⟨a, b, c, e⟩ := hK _ (getD_in L zK p hp)
    exact ⟨c _ (getD_in _ _ _ a), e _ (getD_in _ _ _ b)⟩
  have hwp : IntKind.i64.wrap (r.place + 1) = ((L.length : Nat) : Int) := by rw [hp, W_in (by omega)]
  have ewd : IntKind.i64.wrap (Int.tdiv ((q.length : Nat) : Int) w.Shape.Heads) = (d.wd : Int) := by
    rw [hw.heads, hq, hdw]
    have : ((d.h * d.wd : Nat) : Int) = (d.h : Int) * (d.wd : Int) := by simp
    rw [this, Int.mul_tdiv_cancel_left _ (by omega), W_in (by omega)]
  unfold model_Run_attend
  rw [hm, Option.bind_some, chk_ok _ (by show w.Shape.Heads ≠ 0; rw [hw.heads]; omega)]
  show (some (IntKind.i64.wrap (Int.tdiv ((q.length : Nat) : Int) w.Shape.Heads))).bind _ = _
  rw [ewd, Option.bind_some]
  obtain ⟨m', s', hs, e⟩ := loop_to (fun m (s : List Int) i => model_Run_attend.L1 N r (n : Int) q (d.wd : Int) m s i) (fun i => ((i * d.wd : Nat) : Int)) d.h (fun i s => s = attS d L n q i) (fun m h s hh hs => by
    refine ⟨_, rfl, ?_⟩
    subst hs
    have hal := attS_len hd L n q h
    have hhw : (h + 1) * d.wd ≤ d.h * d.wd := Nat.mul_le_mul_right _ (by omega)
    have hsm : (h + 1) * d.wd = h * d.wd + d.wd := Nat.succ_mul _ _
    show model_Run_attend.L1 N r (n : Int) q (d.wd : Int) (m + 1) _ ((h * d.wd : Nat) : Int) = _
    rw [model_Run_attend.L1, if_pos (by omega)]
    obtain ⟨q1, q2, q3, q4⟩ := pat_is hd q h hq hh
    have lq := part_len q d.wd h d.h (by rw [hq]; rfl) hh
    refine loop_c (fun m2 (s : List Int × List (List Int)) i => model_Run_attend.L2 N r (n : Int) q (d.wd : Int) (attS d L n q h) ((h * d.wd : Nat) : Int) (model_Run_attend.L1 N r (n : Int) q (d.wd : Int) m) m2 s.1 s.2 i) (fun p => (tabl p fun p => IntKind.i32.wrap (dots (part q d.wd h) (part ((L.getD p zK).K.getD n []) d.wd h) d.wd), tabl p fun p => part ((L.getD p zK).V.getD n []) d.wd h)) L.length _ (fun m2 p hp2 => ?_) (fun m2 => ?_) N (by omega)
    · show model_Run_attend.L2 N r (n : Int) q _ _ _ _ (m2 + 1) (tabl p _) (tabl p _) (p : Int) = model_Run_attend.L2 N r (n : Int) q _ _ _ _ m2 (tabl (p + 1) _) (tabl (p + 1) _) _
      obtain ⟨a, b, c, e⟩ := hK _ (getD_in L zK p hp2)
      obtain ⟨k1, k2⟩ := hkk p hp2
      obtain ⟨p1, p2, p3, p4⟩ := pat_is hd _ h k1 hh
      obtain ⟨v1, v2, v3, v4⟩ := pat_is hd _ h k2 hh
      have lk := part_len _ d.wd h d.h (by rw [k1]; rfl) hh
      have hdot := rdot_is (N := N) (part q d.wd h) (part ((L.getD p zK).K.getD n []) d.wd h) (by rw [lq, lk]) (by rw [lq]; omega) (by rw [lq]; omega)
      rw [lq] at hdot
      rw [model_Run_attend.L2, if_pos (by rw [hwp]; omega), hk, lookS_at L n p hp2 a, Option.getD_some, Option.bind_some, chk_ok _ ⟨q1, q2, q3⟩, chk_ok _ ⟨p1, p2, p3⟩, q4, p4, hdot, Option.bind_some, app_ok _ _ (by rw [tabl_len]; simp only [List.length_cons, List.length_nil]; omega), Option.bind_some, chk_ok _ ⟨v1, v2, v3⟩, v4, app_ok _ _ (by rw [tabl_len]; simp only [List.length_cons, List.length_nil]; omega), Option.bind_some, W_succ p (by omega), tabl_succ, tabl_succ]
    · show model_Run_attend.L2 N r (n : Int) q _ _ _ _ (m2 + 1) (tabl L.length _) (tabl L.length _) (L.length : Int) = _
      have hmx := pmix_is (N := N) (softS 64 0 (tabl L.length fun p => IntKind.i32.wrap (dots (part q d.wd h) (part ((L.getD p zK).K.getD n []) d.wd h) d.wd))) (tabl L.length fun p => part ((L.getD p zK).V.getD n []) d.wd h) d.wd (by rw [softS_len, tabl_len, tabl_len]) (by rw [tabl_len]; exact hlp) (by rw [tabl_len]; omega) (fun i hi => by
        rw [tabl_len] at hi
        rw [tabl_getD _ _ _ _ hi]
        exact part_len _ d.wd h d.h (by rw [(hkk i hi).2]; rfl) hh) (by omega) (by omega)
      rw [model_Run_attend.L2, if_neg (by rw [hwp]; omega), psoftmax_is _ _ _ (by rw [tabl_len]; omega) (by rw [tabl_len]; omega) (by omega), Option.bind_some, hmx, Option.bind_some, app_ok _ _ (by rw [mixS_len]; omega), Option.bind_some]
      have e2 : IntKind.i64.wrap (((h * d.wd : Nat) : Int) + (d.wd : Int)) = (((h + 1) * d.wd : Nat) : Int) := by rw [W_in (by omega)]; omega
      rw [e2]
      rfl) N [] (by omega) rfl
  subst hs
  have e0 : ((0 * d.wd : Nat) : Int) = 0 := by simp
  rw [show model_Run_attend.L1 N r (n : Int) q (d.wd : Int) N [] 0 = model_Run_attend.L1 N r (n : Int) q (d.wd : Int) N [] ((0 * d.wd : Nat) : Int) by rw [e0]]
  refine Eq.trans e ?_
  show model_Run_attend.L1 N r (n : Int) q (d.wd : Int) (m' + 1) _ ((d.h * d.wd : Nat) : Int) = _
  rw [model_Run_attend.L1, if_neg (by omega)]
structure ROK (d : Dim) (w : S_api_Weights) (L : List S_ref08_Kept) (r : S_model_Run) : Prop where
  m : r.m = some ⟨w⟩
  place : r.place = ((L.length : Nat) : Int)
  kept : KM L r.kept
theorem player_is {N : Nat} (hN : 300 < N) {w : S_api_Weights} (hw : WOK d w) (L : List S_ref08_Kept) (hL : L.length ≤ 40) (hK : ∀ k ∈ L, KOK d d.ly k) (r : S_model_Run) (hm : r.m = some ⟨w⟩) (hp : r.place = ((L.length : Nat) : Int)) (s : S_ref08_Kept × List Int) (n : Nat) (hn : n < d.ly) (hs : KOK d n s.1) (hx : s.2.length = d.w) (hk : KM (L ++ [s.1]) r.kept) :
    ∃ r', model_Run_layer N r (n : Int) s.2 = some (tailS d (w.Blocks.getD n zB) s.2 (attS d (L ++ [⟨s.1.K ++ [kS d (w.Blocks.getD n zB) L.length s.2], s.1.V ++ [vS d (w.Blocks.getD n zB) s.2]⟩]) n (qS d (w.Blocks.getD n zB) L.length s.2) d.h), r') ∧ r'.m = some ⟨w⟩ ∧ r'.place = ((L.length : Nat) : Int) ∧ KM (L ++ [⟨s.1.K ++ [kS d (w.Blocks.getD n zB) L.length s.2], s.1.V ++ [vS d (w.Blocks.getD n zB) s.2]⟩]) r'.kept := by
  have hww := dw16 hd; have hi := hd.inn; have hh := hd.h; have hwd := hd.wd; have hly := hd.ly; have hvo := hd.voc
  have hdw : d.w = d.h * d.wd := rfl
  have hw0 : 0 < d.w := by rw [hdw]; exact Nat.mul_pos hh.1 hwd.1
  have hb : BOK d (w.Blocks.getD n zB) := hw.blocks _ (getD_in _ _ _ (by have := hw.blen; omega))
  have hib : idx w.Blocks (n : Int) = some (w.Blocks.getD n zB) := idx_d w.Blocks zB (by have := hw.blen; omega)
  generalize w.Blocks.getD n zB = b at hb hib ⊢
  obtain ⟨k1, k2, k3, k4⟩ := hs
  have ewd : IntKind.i64.wrap (Int.tdiv w.Shape.Width w.Shape.Heads) = (d.wd : Int) := by
    rw [hw.width, hw.heads, hdw]
    have : ((d.h * d.wd : Nat) : Int) = (d.h : Int) * (d.wd : Int) := by simp
    rw [this, Int.mul_tdiv_cancel_left _ (by omega), W_in (by omega)]
  have hnl : (normS b.First s.2).length = d.w := by rw [normS_len, hx]
  have hset := KM_set hk n k1 k2 (kS d b L.length s.2) (vS d b s.2)
  refine ⟨⟨r.m, r.place, mset r.kept ⟨(n : Int), r.place⟩ ⟨kS d b L.length s.2, vS d b s.2⟩⟩, ?_, hm, hp, by rw [hp]; exact hset⟩
  have hKL : ∀ k ∈ L ++ [(⟨s.1.K ++ [kS d b L.length s.2], s.1.V ++ [vS d b s.2]⟩ : S_ref08_Kept)], n < k.K.length ∧ n < k.V.length ∧ (∀ r ∈ k.K, r.length = d.w) ∧ ∀ r ∈ k.V, r.length = d.w := by
    intro k hk
    rcases List.mem_append.1 hk with h | h
    · obtain ⟨a, b', c, e⟩ := hK k h
      exact ⟨by omega, by omega, c, e⟩
    · rw [List.mem_singleton] at h
      subst h
      refine ⟨by simp [k1], by simp [k2], fun r hr => ?_, fun r hr => ?_⟩
      · rcases List.mem_append.1 hr with h | h
        · exact k3 r h
        · rw [List.mem_singleton] at h; rw [h]; exact kS_len hd hb _ _
      · rcases List.mem_append.1 hr with h | h
        · exact k4 r h
        · rw [List.mem_singleton] at h; rw [h]; exact vS_len hd _ _
  have hatt := pattend_is hd hN hw ⟨r.m, r.place, mset r.kept ⟨(n : Int), r.place⟩ ⟨kS d b L.length s.2, vS d b s.2⟩⟩ hm (L ++ [⟨s.1.K ++ [kS d b L.length s.2], s.1.V ++ [vS d b s.2]⟩]) (by rw [len_app1]; omega) (by simp) (by rw [len_app1]; show r.place + 1 = _; rw [hp]; rfl) (by show KM _ (mset r.kept ⟨(n : Int), r.place⟩ _); rw [hp]; exact hset) n hn hKL (qS d b L.length s.2) (qS_len hd hb _ _)
  have hal := attS_len hd (L ++ [(⟨s.1.K ++ [kS d b L.length s.2], s.1.V ++ [vS d b s.2]⟩ : S_ref08_Kept)]) n (qS d b L.length s.2) d.h
  unfold model_Run_layer
  rw [hm, Option.bind_some]
  show (idx w.Blocks (n : Int)).bind _ = _
  rw [hib, Option.bind_some, chk_ok _ (by show w.Shape.Heads ≠ 0; rw [hw.heads]; omega), pnorm_is (by omega) _ _ (by rw [hx]; exact hb.first) (by omega) (by omega), Option.bind_some, matR_eta, pquants_is hb.q (by omega) (by omega) (by omega) _ hnl, Option.bind_some]
  show (model_turned N r.place (IntKind.i64.wrap (Int.tdiv w.Shape.Width w.Shape.Heads)) _).bind _ = _
  rw [ewd, hp, pturned_is (by omega) L.length d.wd d.h (by omega) _ (by rw [quantsS_len]; rfl) (by omega) hwd.1 hwd.2.1 (by omega), Option.bind_some, matR_eta, pquants_is hb.k (by omega) (by omega) (by omega) _ hnl, Option.bind_some]
  rw [pturned_is (by omega) L.length d.wd d.h (by omega) _ (by rw [quantsS_len]; rfl) (by omega) hwd.1 hwd.2.1 (by omega), Option.bind_some, matR_eta, pquants_is hb.v (by omega) (by omega) (by omega) _ hnl, Option.bind_some]
  rw [hm, hp] at hatt
  show (model_Run_attend N ⟨some ⟨w⟩, ((L.length : Nat) : Int), mset r.kept ⟨(n : Int), ((L.length : Nat) : Int)⟩ ⟨kS d b L.length s.2, vS d b s.2⟩⟩ (n : Int) (qS d b L.length s.2)).bind _ = _
  rw [hatt, Option.bind_some, matR_eta, papply_is hb.o (by omega) (by omega) (by omega) _ hal, Option.bind_some, pjoin_is _ _ _ _ (by rw [applyS_len, hx]) (by omega) (by omega), Option.bind_some]
  have hx1 := joinS_len s.2 (applyS b.O (attS d (L ++ [(⟨s.1.K ++ [kS d b L.length s.2], s.1.V ++ [vS d b s.2]⟩ : S_ref08_Kept)]) n (qS d b L.length s.2) d.h) d.w d.w) 1 4
  dsimp only
  rw [pnorm_is (by omega) _ _ (by rw [hx1, hx]; exact hb.second) (by omega) (by omega), Option.bind_some, matR_eta, pquants_is hb.up (by omega) (by omega) (by omega) _ (by rw [normS_len, hx1, hx]), Option.bind_some, gate_is _ (by rw [quantsS_len]; omega) (by omega), Option.bind_some, matR_eta, papply_is hb.down (by omega) (by omega) (by omega) _ (by rw [reluS, tabl_len, quantsS_len]), Option.bind_some, pjoin_is _ _ _ _ (by rw [applyS_len, hx1, hx]) (by omega) (by omega), Option.bind_some]
  rfl
end
end Go.Proofs.Ytdipfegofpfhaaa

namespace Go.Proofs.Ytdipfegofpfhaaa
open Go Go.Hp
set_option linter.unusedVariables false
set_option linter.unusedSimpArgs false
set_option linter.unusedSectionVars false
section
variable {d : Dim} (hd : DOK d)
include hd
theorem pone_is {N : Nat} (hN : 300 < N) {w : S_api_Weights} (hw : WOK d w) (L : List S_ref08_Kept) (hL : L.length ≤ 40) (hK : ∀ k ∈ L, KOK d d.ly k) (r : S_model_Run) (hr : ROK d w L r) (t : Nat) (ht : t < d.voc) :
    ∃ r', model_Run_one N r (t : Int) = some (outS d w L t, r') ∧ ROK d w (L ++ [keptS d w L t]) r' := by
  have hww := dw16 hd; have hi := hd.inn; have hh := hd.h; have hwd := hd.wd; have hly := hd.ly; have hvo := hd.voc
  have hdw : d.w = d.h * d.wd := rfl
  have hw0 : 0 < d.w := by rw [hdw]; exact Nat.mul_pos hh.1 hwd.1
  have hin : (inS d w t).length = d.w := tabl_len _ _
  have h1 : (t + 1) * d.w ≤ d.voc * d.w := Nat.mul_le_mul_right _ (by omega)
  have h2 : (t + 1) * d.w = t * d.w + d.w := Nat.succ_mul _ _
  have hvw : d.voc * d.w ≤ 10 * 16 := Nat.mul_le_mul hvo.2 hww
  have hel : w.Embed.V.length = d.voc * d.w := hw.embed.2.2
  have e1 : IntKind.i64.wrap ((t : Int) * w.Shape.Width) = ((t * d.w : Nat) : Int) := by
    rw [hw.width, show (t : Int) * ((d.w : Nat) : Int) = ((t * d.w : Nat) : Int) by simp, W_in (by omega)]
  have e2 : IntKind.i64.wrap (IntKind.i64.wrap ((t : Int) + 1) * w.Shape.Width) = (((t + 1) * d.w : Nat) : Int) := by
    rw [hw.width, W_succ t (by omega), show ((t + 1 : Nat) : Int) * ((d.w : Nat) : Int) = (((t + 1) * d.w : Nat) : Int) by simp, W_in (by omega)]
  -- layer by layer, from the end
  have hL2 : ∃ r', model_Run_one.L2 N ⟨w⟩ N r (inS d w t) 0 = some (outS d w L t, r') ∧ ROK d w (L ++ [keptS d w L t]) r' := by
    obtain ⟨m', s', ⟨hm, hp, hk, hx⟩, e⟩ := loop_to (fun m (s : S_model_Run × List Int) i => model_Run_one.L2 N ⟨w⟩ m s.1 s.2 i) (fun i => (i : Int)) d.ly (fun n s => s.1.m = some ⟨w⟩ ∧ s.1.place = ((L.length : Nat) : Int) ∧ KM (L ++ [(layersS d w L (inS d w t) n).1]) s.1.kept ∧ s.2 = (layersS d w L (inS d w t) n).2) (fun m n s hn hs => by
      obtain ⟨hm, hp, hk, hx⟩ := hs
      obtain ⟨hko, hxl⟩ := layersS_ok hd hw L (inS d w t) hin n (by omega)
      obtain ⟨r', e, m1, p1, k1⟩ := player_is hd hN hw L hL hK s.1 hm hp (layersS d w L (inS d w t) n) n hn hko hxl hk
      refine ⟨(r', _), ⟨m1, p1, k1, rfl⟩, ?_⟩
      show model_Run_one.L2 N ⟨w⟩ (m + 1) s.1 s.2 (n : Int) = _
      rw [model_Run_one.L2]
      show (if (n : Int) < ((w.Blocks.length : Nat) : Int) then _ else _) = _
      rw [if_pos (by rw [hw.blen]; omega), hx, e, Option.bind_some, W_succ n (by omega)]
      rfl) N (r, inS d w t) (by omega) ⟨hr.m, hr.place, KM_z hr.kept, rfl⟩
    obtain ⟨hko, hxl⟩ := layersS_ok hd hw L (inS d w t) hin d.ly (Nat.le_refl _)
    refine ⟨⟨s'.1.m, IntKind.i64.wrap (s'.1.place + 1), s'.1.kept⟩, e.trans ?_, hm, ?_, hk⟩
    · show model_Run_one.L2 N ⟨w⟩ (m' + 1) s'.1 s'.2 (d.ly : Int) = _
      rw [model_Run_one.L2]
      show (if (d.ly : Int) < ((w.Blocks.length : Nat) : Int) then _ else (norm_Norm N w.Last s'.2).bind _) = _
      rw [if_neg (by rw [hw.blen]; omega), hx, pnorm_is (by omega) _ _ (by rw [hxl]; exact hw.last) (by omega) (by omega), Option.bind_some]
      show (matmul_Apply N ⟨w.Head.Rows, w.Head.Cols, w.Head.V⟩ _).bind _ = _
      rw [matR_eta, papply_is hw.head (by omega) (by omega) (by omega) _ (by rw [normS_len, hxl]), Option.bind_some]
      rfl
    · show IntKind.i64.wrap (s'.1.place + 1) = _
      rw [hp, W_succ _ (by omega), len_app1]
  obtain ⟨r', e, hro⟩ := hL2
  refine ⟨r', ?_, hro⟩
  unfold model_Run_one
  rw [hr.m, Option.bind_some]
  show chk (0 ≤ IntKind.i64.wrap ((t : Int) * w.Shape.Width) ∧ IntKind.i64.wrap ((t : Int) * w.Shape.Width) ≤ IntKind.i64.wrap (IntKind.i64.wrap ((t : Int) + 1) * w.Shape.Width) ∧ IntKind.i64.wrap (IntKind.i64.wrap ((t : Int) + 1) * w.Shape.Width) ≤ ((w.Embed.V.length : Nat) : Int)) _ = _
  rw [e1, e2, chk_ok _ ⟨by omega, by omega, by omega⟩]
  refine loop_c (fun m (s : List Int) i => model_Run_one.L1 N r (t : Int) ⟨w⟩ m s i) (fun i => tabl i fun i => IntKind.i32.wrap (16 * IntKind.i32.wrap (w.Embed.V.getD (t * d.w + i) 0))) d.w _ (fun m i hi => ?_) (fun m => ?_) N (by omega)
  · show model_Run_one.L1 N r (t : Int) ⟨w⟩ (m + 1) _ (i : Int) = model_Run_one.L1 N r (t : Int) ⟨w⟩ m _ _
    rw [model_Run_one.L1]
    show (if (i : Int) < (((IntKind.i64.wrap (IntKind.i64.wrap ((t : Int) + 1) * w.Shape.Width)).toNat - (IntKind.i64.wrap ((t : Int) * w.Shape.Width)).toNat : Nat) : Int) then (idx ((w.Embed.V.take (IntKind.i64.wrap (IntKind.i64.wrap ((t : Int) + 1) * w.Shape.Width)).toNat).drop (IntKind.i64.wrap ((t : Int) * w.Shape.Width)).toNat) (i : Int)).bind _ else _) = _
    rw [e1, e2, Int.toNat_natCast, Int.toNat_natCast, if_pos (by omega)]
    have hx : idx ((w.Embed.V.take ((t + 1) * d.w)).drop (t * d.w)) (i : Int) = some (w.Embed.V.getD (t * d.w + i) 0) := by
      rw [idx_d _ 0 (by simp; omega), List.getD_eq_getElem?_getD, List.getElem?_drop, List.getElem?_take, if_pos (by omega), ← List.getD_eq_getElem?_getD]
    have hs : ∀ y : Int, ishl .i32 (IntKind.i32.wrap y) 4 = IntKind.i32.wrap (16 * IntKind.i32.wrap y) := fun y => by
      show IntKind.i32.wrap (IntKind.i32.wrap y * 2 ^ min (4 : Int).toNat 32) = _
      rw [show (2 : Int) ^ min (4 : Int).toNat 32 = 16 from rfl, Int.mul_comm]
    rw [hx, Option.bind_some, hs, app_ok _ _ (by rw [tabl_len]; simp only [List.length_cons, List.length_nil]; omega), Option.bind_some, W_succ i (by omega), tabl_succ]
  · show model_Run_one.L1 N r (t : Int) ⟨w⟩ (m + 1) _ (d.w : Int) = _
    rw [model_Run_one.L1]
    show (if (d.w : Int) < (((IntKind.i64.wrap (IntKind.i64.wrap ((t : Int) + 1) * w.Shape.Width)).toNat - (IntKind.i64.wrap ((t : Int) * w.Shape.Width)).toNat : Nat) : Int) then _ else _) = _
    rw [e1, e2, Int.toNat_natCast, Int.toNat_natCast, if_neg (by omega)]
    exact e
theorem pfeed2_is {N : Nat} (hN : 300 < N) {w : S_api_Weights} (hw : WOK d w) : ∀ (post pre : List Nat) (m : Nat) (y : List Int) (L : List S_ref08_Kept) (r : S_model_Run), (∀ t ∈ post, t < d.voc) → post.length < m → L.length + post.length ≤ 40 → pre.length + post.length ≤ 100 → (∀ k ∈ L, KOK d d.ly k) → ROK d w L r →
    ∃ r', model_Run_Feed.L2 N (toks (pre ++ post)) m r y (pre.length : Int) = some (lastS d w L y post, 0, r') ∧ ROK d w (stS d w L post) r' := by
  intro post
  induction post with
  | nil =>
    intro pre m y L r hv hm hl hl2 hK hr
    obtain ⟨m, rfl⟩ : ∃ q, m = q + 1 := ⟨m - 1, by omega⟩
    refine ⟨r, ?_, hr⟩
    rw [model_Run_Feed.L2, if_neg (by rw [toks_len, List.append_nil]; omega)]; rfl
  | cons t post ih =>
    intro pre m y L r hv hm hl hl2 hK hr
    obtain ⟨m, rfl⟩ : ∃ q, m = q + 1 := ⟨m - 1, by omega⟩
    have hi : idx (toks (pre ++ t :: post)) (pre.length : Int) = some (t : Int) := by
      rw [toks_app]
      have := idx_mid (toks pre) (t : Int) (toks post)
      rw [toks_len] at this
      exact this
    simp only [List.length_cons] at hm hl hl2
    obtain ⟨r1, e1, hr1⟩ := pone_is hd hN hw L (by omega) hK r hr t (hv t (by simp))
    obtain ⟨r2, e2, hr2⟩ := ih (pre ++ [t]) m (outS d w L t) (L ++ [keptS d w L t]) r1 (fun u hu => hv u (by simp [hu])) (by omega) (by rw [len_app1]; omega) (by rw [len_app1]; omega) (fun k hk => by
      rcases List.mem_append.1 hk with h | h
      · exact hK k h
      · rw [List.mem_singleton] at h; rw [h]; exact keptS_ok hd hw L t) hr1
    refine ⟨r2, ?_, hr2⟩
    rw [model_Run_Feed.L2, if_pos (by rw [toks_len]; simp only [List.length_append, List.length_cons]; omega), hi, Option.bind_some, e1, Option.bind_some, W_succ _ (by omega), ← len_snoc pre t]
    rw [show pre ++ t :: post = (pre ++ [t]) ++ post by simp]
    exact e2
theorem pfeed1_is {N : Nat} (hN : 300 < N) {w : S_api_Weights} (hw : WOK d w) (L : List S_ref08_Kept) (r : S_model_Run) (hr : ROK d w L r) (ts : List Nat) (hv : ∀ t ∈ ts, t < d.voc) (hl : ts.length ≤ 30) (hL : L.length ≤ 40) :
    model_Run_Feed N r (toks ts) = if L.length + ts.length > d.pl then some ([], 80, r) else model_Run_Feed.L2 N (toks ts) N r [] 0 := by
  have hlen := toks_len ts
  have hpl := hd.pl
  unfold model_Run_Feed
  rw [hr.m, Option.bind_some]
  refine loop_c (fun m (_ : Unit) i => model_Run_Feed.L1 N r (toks ts) ⟨w⟩ m i) (fun _ => ()) ts.length _ (fun m i hi => ?_) (fun m => ?_) N (by omega)
  · show model_Run_Feed.L1 N r _ ⟨w⟩ (m + 1) (i : Int) = model_Run_Feed.L1 N r _ ⟨w⟩ m _
    have hv := hv _ (getD_in ts 0 i hi)
    rw [model_Run_Feed.L1, if_pos (by omega), toks_get ts i hi, Option.bind_some, if_neg (by omega)]
    show (if ((ts.getD i 0 : Nat) : Int) ≥ w.Shape.Vocab then _ else _) = _
    rw [if_neg (by rw [hw.vocab]; omega), W_succ i (by omega)]
  · show model_Run_Feed.L1 N r _ ⟨w⟩ (m + 1) (ts.length : Int) = _
    rw [model_Run_Feed.L1, if_neg (by omega)]
    show (if (((toks ts).length : Nat) : Int) > IntKind.i64.wrap (w.Shape.Places - r.place) then _ else _) = _
    rw [hw.places, hr.place, W_in (by omega), hlen]
    by_cases c : L.length + ts.length > d.pl
    · rw [if_pos (by omega), if_pos c]
    · rw [if_neg (by omega), if_neg c]
theorem pfeed_is {N : Nat} (hN : 300 < N) {w : S_api_Weights} (hw : WOK d w) (L : List S_ref08_Kept) (hK : ∀ k ∈ L, KOK d d.ly k) (r : S_model_Run) (hr : ROK d w L r) (ts : List Nat) (hv : ∀ t ∈ ts, t < d.voc) (hl : L.length + ts.length ≤ d.pl) :
    ∃ r', model_Run_Feed N r (toks ts) = some (lastS d w L [] ts, 0, r') ∧ ROK d w (stS d w L ts) r' := by
  have hpl := hd.pl
  obtain ⟨r', e, h⟩ := pfeed2_is hd hN hw ts [] N [] L r hv (by omega) (by omega) (by simp; omega) hK hr
  refine ⟨r', ?_, h⟩
  rw [pfeed1_is hd hN hw L r hr ts hv (by omega) (by omega), if_neg (by omega)]
  exact e
end
end Go.Proofs.Ytdipfegofpfhaaa

namespace Go.Proofs.Ytdipfegofpfhaaa
open Go Go.Hp
set_option linter.unusedVariables false
set_option linter.unusedSimpArgs false
set_option linter.unusedSectionVars false
theorem win_is (x a b : Int) (h : a ≤ x ∧ x ≤ b) : weight_in x a b = some true := by
  unfold weight_in
  rw [if_pos (by omega), decide_eq_true h.2]
theorem wis_is {N : Nat} (hN : 5 < N) {m : S_api_Mat} {r c : Nat} (h : matR m r c) (hr : r ≤ 200) (hc : c ≤ 200) : weight_is N m (r : Int) (c : Int) = some true := by
  obtain ⟨k, rfl⟩ : ∃ k, N = k + 3 := ⟨N - 3, by omega⟩
  unfold weight_is
  rw [if_pos h.1, if_pos h.2.1, matR_eta]
  unfold matmul_Right slices_ContainsFunc_s_api_Mat_api_Mat slices_IndexFunc_s_api_Mat_api_Mat
  rw [slices_IndexFunc_s_api_Mat_api_Mat.L1, if_pos (by simp), show idx [m] 0 = some m from rfl, Option.bind_some, matP h hr hc, Option.bind_some, if_neg (by decide), show IntKind.i64.wrap (0 + 1) = 1 from rfl, slices_IndexFunc_s_api_Mat_api_Mat.L1, if_neg (by simp)]
  rfl
theorem wmat_is {m : S_api_Mat} (h : m.V.length ≤ 100000) : model_mat m = some m := by
  unfold model_mat
  rw [clone8_is _ h, Option.bind_some]
section
variable {d : Dim} (hd : DOK d)
include hd
theorem wodd_is {N : Nat} (hN : 10 < N) {w : S_api_Weights} (hw : WOK d w) {b : S_api_Block} (hb : BOK d b) : weight_sides_odd N (⟨w.Shape.Layers, w.Shape.Width, w.Shape.Heads, w.Shape.Inner, w.Shape.Vocab, w.Shape.Places⟩ : S_weight_sides) b = some false := by
  have hww := dw16 hd; have hi := hd.inn
  have e1 := wis_is (N := N) (by omega) hb.q (by omega) (by omega)
  have e2 := wis_is (N := N) (by omega) hb.k (by omega) (by omega)
  have e3 := wis_is (N := N) (by omega) hb.v (by omega) (by omega)
  have e4 := wis_is (N := N) (by omega) hb.o (by omega) (by omega)
  have e5 := wis_is (N := N) (by omega) hb.up (by omega) (by omega)
  have e6 := wis_is (N := N) (by omega) hb.down (by omega) (by omega)
  unfold weight_sides_odd
  rw [hw.width, hw.inner]
  refine loop_c (fun m (_ : Unit) i => weight_sides_odd.L1 N _ b m i) (fun _ => ()) 4 _ (fun m i hi => ?_) (fun m => ?_) N (by omega)
  · show weight_sides_odd.L1 N _ b (m + 1) (i : Int) = weight_sides_odd.L1 N _ b m _
    rw [weight_sides_odd.L1, if_pos (by omega), matR_eta, matR_eta, matR_eta, matR_eta]
    have hx : ∃ y, idx [b.Q, b.K, b.V, b.O] (i : Int) = some y ∧ weight_is N y ((d.w : Nat) : Int) ((d.w : Nat) : Int) = some true := by
      match i, hi with
      | 0, _ => exact ⟨_, rfl, e1⟩
      | 1, _ => exact ⟨_, rfl, e2⟩
      | 2, _ => exact ⟨_, rfl, e3⟩
      | 3, _ => exact ⟨_, rfl, e4⟩
    obtain ⟨y, ey, e⟩ := hx
    rw [ey, Option.bind_some, matR_eta, e, Option.bind_some, if_pos rfl, W_succ i (by omega)]
  · show weight_sides_odd.L1 N _ b (m + 1) ((4 : Nat) : Int) = _
    rw [weight_sides_odd.L1, if_neg (by omega), if_neg (by rw [hb.first]; exact fun q => q rfl), if_neg (by rw [hb.second]; exact fun q => q rfl), matR_eta, matR_eta, e5, Option.bind_some, if_pos rfl, e6, Option.bind_some, if_pos rfl]
theorem whole_is {N : Nat} (hN : 10 < N) (hp : 0 < d.pl) {w : S_api_Weights} (hw : WOK d w) : weight_Whole N [w] = some true := by
  have hww := dw16 hd; have hi := hd.inn; have hh := hd.h; have hwd := hd.wd; have hly := hd.ly; have hvo := hd.voc; have hpl := hd.pl
  have hdw : d.w = d.h * d.wd := rfl
  have hw2 : 2 ≤ d.w := by
    have : 1 * 2 ≤ d.h * d.wd := Nat.mul_le_mul (by omega) (by omega)
    omega
  have h1 : weight_Whole_1 N w = some false := by
    have hR : weight_Right (⟨w.Shape.Layers, w.Shape.Width, w.Shape.Heads, w.Shape.Inner, w.Shape.Vocab, w.Shape.Places⟩ : S_api_Shape) = some true := by
      have hm : Int.tmod ((d.w : Nat) : Int) (IntKind.i64.wrap (2 * (d.h : Int))) = 0 := by
        rw [W_in (by omega), Int.tmod_eq_emod_of_nonneg (by omega)]
        obtain ⟨e, he⟩ : ∃ e, d.wd = 2 * e := ⟨d.wd / 2, by omega⟩
        have : ((d.w : Nat) : Int) = 2 * (d.h : Int) * (e : Int) := by
          rw [hdw, he]
          have : d.h * (2 * e) = 2 * d.h * e := by rw [Nat.mul_left_comm, Nat.mul_assoc]
          rw [this]; simp
        rw [this, Int.mul_emod_right]
      unfold weight_Right
      rw [hw.layers, hw.width, hw.heads, hw.inner, hw.vocab, hw.places]
      rw [win_is _ _ _ ⟨by omega, by omega⟩, Option.bind_some, if_pos rfl, win_is _ _ _ ⟨by omega, by omega⟩, Option.bind_some, if_pos rfl, win_is _ _ _ ⟨by omega, by omega⟩, Option.bind_some, if_pos rfl]
      show chk (IntKind.i64.wrap (2 * (d.h : Int)) ≠ 0) (if Int.tmod ((d.w : Nat) : Int) (IntKind.i64.wrap (2 * (d.h : Int))) = 0 then _ else _) = _
      rw [chk_ok _ (by rw [W_in (by omega)]; omega), if_pos hm, win_is _ _ _ ⟨by omega, by omega⟩, Option.bind_some, if_pos rfl, win_is _ _ _ ⟨by omega, by omega⟩, Option.bind_some, if_pos rfl, win_is _ _ _ ⟨by omega, by omega⟩, Option.bind_some]
    have e1 := wis_is (N := N) (by omega) hw.embed (by omega) (by omega)
    have e2 := wis_is (N := N) (by omega) hw.head (by omega) (by omega)
    unfold weight_Whole_1
    rw [hR, Option.bind_some, if_pos rfl, matR_eta, matR_eta, hw.vocab, hw.width, e1, Option.bind_some, if_pos rfl, e2, Option.bind_some, if_pos rfl, if_neg (by rw [hw.last]; exact fun q => q rfl), if_neg (by rw [hw.blen, hw.layers]; exact fun q => q rfl)]
    refine loop_c (fun m (_ : Unit) i => weight_Whole_1.L1 N w m i) (fun _ => ()) w.Blocks.length _ (fun m i hi => ?_) (fun m => ?_) N (by rw [hw.blen]; omega)
    · show weight_Whole_1.L1 N w (m + 1) (i : Int) = weight_Whole_1.L1 N w m _
      have hb : BOK d (w.Blocks.getD i zB) := hw.blocks _ (getD_in _ _ _ hi)
      rw [weight_Whole_1.L1, if_pos (by omega), idx_d _ zB hi, Option.bind_some, wodd_is hd hN hw hb, Option.bind_some, if_neg (by decide), W_succ i (by have := hw.blen; omega)]
    · show weight_Whole_1.L1 N w (m + 1) (w.Blocks.length : Int) = _
      rw [weight_Whole_1.L1, if_neg (by omega)]
      rfl
  obtain ⟨k, rfl⟩ : ∃ k, N = k + 3 := ⟨N - 3, by omega⟩
  unfold weight_Whole slices_ContainsFunc_s_api_Weights_api_Weights slices_IndexFunc_s_api_Weights_api_Weights
  rw [slices_IndexFunc_s_api_Weights_api_Weights.L1, if_pos (by simp), show idx [w] 0 = some w from rfl, Option.bind_some, h1, Option.bind_some, if_neg (by decide), show IntKind.i64.wrap (0 + 1) = 1 from rfl, slices_IndexFunc_s_api_Weights_api_Weights.L1, if_neg (by simp)]
  rfl
theorem new_is {N : Nat} (hN : 10 < N) (hp : 0 < d.pl) {w : S_api_Weights} (hw : WOK d w) : model_New N w = some (some ⟨w⟩, 0) := by
  have hww := dw16 hd; have hi := hd.inn; have hly := hd.ly; have hvo := hd.voc
  have hbig : ∀ {m : S_api_Mat} {r c : Nat}, matR m r c → r ≤ 200 → c ≤ 200 → m.V.length ≤ 100000 := fun h h1 h2 => by
    rw [h.2.2]; exact Nat.le_trans (Nat.mul_le_mul h1 h2) (by decide)
  have hl := hw.last
  unfold model_New
  show (weight_Whole N [w]).bind _ = _
  rw [whole_is hd hN hp hw, Option.bind_some, if_pos rfl, matR_eta, matR_eta, wmat_is (hbig hw.embed (by omega) (by omega)), Option.bind_some, clone8_is _ (by omega), Option.bind_some, wmat_is (hbig hw.head (by omega) (by omega)), Option.bind_some]
  unfold model_New.J1
  refine loop_c (fun m (s : List S_api_Block) i => model_New.L2 w w.Embed.Rows w.Embed.Cols w.Embed.V w.Last w.Head.Rows w.Head.Cols w.Head.V m s i) (fun i => w.Blocks.take i) w.Blocks.length _ (fun m i hib => ?_) (fun m => ?_) N (by rw [hw.blen]; omega)
  · show model_New.L2 w _ _ _ _ _ _ _ (m + 1) _ (i : Int) = model_New.L2 w _ _ _ _ _ _ _ m _ _
    have hb : BOK d w.Blocks[i] := hw.blocks _ (List.getElem_mem hib)
    have hf := hb.first; have hs := hb.second
    rw [model_New.L2, if_pos (by omega), idx_get _ _ hib, Option.bind_some]
    generalize hbb : w.Blocks[i] = b at hb hf hs ⊢
    rw [clone8_is _ (by omega), Option.bind_some, clone8_is _ (by omega), Option.bind_some, matR_eta, matR_eta, matR_eta, matR_eta, matR_eta, matR_eta, wmat_is (hbig hb.q (by omega) (by omega)), Option.bind_some, wmat_is (hbig hb.k (by omega) (by omega)), Option.bind_some, wmat_is (hbig hb.v (by omega) (by omega)), Option.bind_some, wmat_is (hbig hb.o (by omega) (by omega)), Option.bind_some, wmat_is (hbig hb.up (by omega) (by omega)), Option.bind_some, wmat_is (hbig hb.down (by omega) (by omega)), Option.bind_some]
    rw [app_ok _ _ (by rw [List.length_take]; simp only [List.length_cons, List.length_nil]; have := hw.blen; omega), Option.bind_some, W_succ i (by have := hw.blen; omega), List.take_succ_eq_append_getElem hib, hbb]
  · show model_New.L2 w _ _ _ _ _ _ _ (m + 1) _ (w.Blocks.length : Int) = _
    rw [model_New.L2, if_neg (by omega), List.take_length]
end
end Go.Proofs.Ytdipfegofpfhaaa

namespace Go.Proofs.Ytdipfegofpfhaaa
open Go Go.Hp
set_option linter.unusedVariables false
set_option linter.unusedSimpArgs false
set_option linter.unusedSectionVars false
section
variable {d : Dim} (hd : DOK d)
include hd
theorem ROK_0 (w : S_api_Weights) : ROK d w [] ⟨some ⟨w⟩, 0, []⟩ := ⟨rfl, rfl, fun s => by
  unfold lookS
  rw [if_neg (fun q => by have := q.2.2.1; simp only [List.length_nil] at this; have := q.2.1; omega)]
  rfl⟩
end
end Go.Proofs.Ytdipfegofpfhaaa

namespace Go.Proofs.Ytdipfegofpfhaaa
open Go Go.Hp
set_option linter.unusedVariables false
set_option linter.unusedSimpArgs false
set_option linter.unusedSectionVars false
theorem shape_eta (s : S_api_Shape) : (⟨s.Layers, s.Width, s.Heads, s.Inner, s.Vocab, s.Places⟩ : S_api_Shape) = s := rfl
theorem made8_is {N : Nat} (hN : 5000 ≤ N) (n : A6_i64) (seed : Int) (xs : List Int) (hx : xs.length ≤ 2000) : ∃ (d : Dim) (w : S_api_Weights), DOK d ∧ 2 ≤ d.voc ∧ 4 ≤ d.pl ∧ WOK d w ∧ w.Shape = shapeS d ∧ ref08_Made N n seed xs = some w ∧ law08_made N n seed xs = some (some ⟨w⟩, some ⟨w, []⟩) := by
  obtain ⟨d, w, hd, hv, hp, hw, hsh, em⟩ := made_is hN n seed xs hx
  refine ⟨d, w, hd, hv, hp, hw, hsh, em, ?_⟩
  unfold law08_made
  show (ref08_Made N n seed xs).bind _ = _
  rw [em, Option.bind_some]
  show (model_New N w).bind _ = _
  rw [new_is hd (by omega) (by omega) hw, Option.bind_some, if_neg (fun q => q rfl), optc_some]
  show (some w.Shape).bind _ = _
  rw [Option.bind_some, shape_eta, decide_eq_true rfl, if_neg (by decide)]
theorem fits_is {N : Nat} (xs : List Int) (hN : xs.length < N) (hx : xs.length ≤ 1000) (voc : Nat) (hv : 0 < voc) (hv2 : voc ≤ 1000) : ∃ ts : List Nat, law08_fits N xs (voc : Int) = some (toks ts) ∧ ts.length = xs.length ∧ ∀ t ∈ ts, t < voc := by
  obtain ⟨m', s', ⟨ts, rfl, h1, h2⟩, e⟩ := loop_to (fun m (s : List Int) i => law08_fits.L1 xs (voc : Int) m s i) (fun i => (i : Int)) xs.length (fun i s => ∃ ts : List Nat, s = toks ts ∧ ts.length = i ∧ ∀ t ∈ ts, t < voc) (fun m i s hi hs => by
    obtain ⟨ts, rfl, h1, h2⟩ := hs
    obtain ⟨k, hk, ek⟩ := W_restN (xs.getD i 0) voc hv (by omega)
    refine ⟨toks (ts ++ [k]), ⟨ts ++ [k], rfl, by simp [h1], fun t ht => ?_⟩, ?_⟩
    · rcases List.mem_append.1 ht with h | h
      · exact h2 t h
      · rw [List.mem_singleton] at h; omega
    · show law08_fits.L1 xs (voc : Int) (m + 1) (toks ts) (i : Int) = _
      rw [law08_fits.L1, if_pos (by omega), idx_d xs 0 hi, Option.bind_some, chk_ok _ (by omega), chk_ok _ (by omega), ek, app_ok _ _ (by rw [toks_len]; simp only [List.length_cons, List.length_nil]; omega), Option.bind_some, W_succ i (by omega), toks_app]
      rfl) N [] (by omega) ⟨[], rfl, rfl, by simp⟩
  refine ⟨ts, ?_, h1, h2⟩
  unfold law08_fits
  refine Eq.trans e ?_
  show law08_fits.L1 xs (voc : Int) (m' + 1) _ (xs.length : Int) = _
  rw [law08_fits.L1, if_neg (by omega)]
theorem ints4_same {N : Nat} (xs : List Int) (hx : xs.length < N) (h2 : xs.length ≤ 100000) : ref04_Ints N xs xs = some true := by
  unfold ref04_Ints
  rw [if_neg (fun q => q rfl)]
  refine loop_c (fun m (_ : Unit) i => ref04_Ints.L1 xs xs m i) (fun _ => ()) xs.length _ (fun m i hi => ?_) (fun m => ?_) N hx
  · show ref04_Ints.L1 xs xs (m + 1) (i : Int) = _
    rw [ref04_Ints.L1, if_pos (by omega), idx_get _ _ hi, Option.bind_some, Option.bind_some, if_neg (fun q => q rfl), W_succ i (by omega)]
  · show ref04_Ints.L1 xs xs (m + 1) (xs.length : Int) = _
    rw [ref04_Ints.L1, if_neg (by omega)]
theorem bytes4_same {N : Nat} (xs : List Int) (hx : xs.length < N) (h2 : xs.length ≤ 100000) : ref04_Bytes N xs xs = some true := by
  unfold ref04_Bytes
  rw [if_neg (fun q => q rfl)]
  refine loop_c (fun m (_ : Unit) i => ref04_Bytes.L1 xs xs m i) (fun _ => ()) xs.length _ (fun m i hi => ?_) (fun m => ?_) N hx
  · show ref04_Bytes.L1 xs xs (m + 1) (i : Int) = _
    rw [ref04_Bytes.L1, if_pos (by omega), idx_get _ _ hi, Option.bind_some, Option.bind_some, if_neg (fun q => q rfl), W_succ i (by omega)]
  · show ref04_Bytes.L1 xs xs (m + 1) (xs.length : Int) = _
    rw [ref04_Bytes.L1, if_neg (by omega)]
theorem toks_take (ts : List Nat) (k : Nat) : (toks ts).take k = toks (ts.take k) := by simp [toks, List.map_take]
theorem toks_drop (ts : List Nat) (k : Nat) : (toks ts).drop k = toks (ts.drop k) := by simp [toks, List.map_drop]
section
variable {d : Dim} (hd : DOK d)
include hd
theorem kept_is {w : S_api_Weights} (L : List S_ref08_Kept) (hK : ∀ k ∈ L, KOK d d.ly k) (r : S_model_Run) (hr : ROK d w L r) (n p : Nat) (hn : n < d.ly) (hp : p < L.length) : model_Run_Kept r (n : Int) (p : Int) = some ((L.getD p zK).K.getD n [], (L.getD p zK).V.getD n [], true) ∧ ((L.getD p zK).K.getD n []).length = d.w ∧ ((L.getD p zK).V.getD n []).length = d.w := by
  have hww := dw16 hd
  obtain ⟨a, b, c, e⟩ := hK _ (getD_in L zK p hp)
  have h1 := c _ (getD_in _ [] n (by omega))
  have h2 := e _ (getD_in _ [] n (by omega))
  refine ⟨?_, h1, h2⟩
  unfold model_Run_Kept
  rw [hr.kept, lookS_at L n p hp (by omega), Option.getD_some, Option.bind_some]
  dsimp only
  rw [clone8_is _ (by omega), Option.bind_some, clone8_is _ (by omega), Option.bind_some]
  rfl
theorem lastS_cut (w : S_api_Weights) (ts : List Nat) (k : Nat) (hk : k < ts.length) (y : List Int) : lastS d w (stS d w [] (ts.take k)) y (ts.drop k) = lastS d w [] [] ts := by
  conv => rhs; rw [← List.take_append_drop k ts]
  rw [lastS_app]
  exact lastS_any d w _ _ _ _ (fun e => by
    have := congrArg List.length e
    simp at this; omega)
theorem stS_cut (w : S_api_Weights) (ts : List Nat) (k : Nat) : stS d w (stS d w [] (ts.take k)) (ts.drop k) = stS d w [] ts := by
  rw [← stS_app, List.take_append_drop]
end
end Go.Proofs.Ytdipfegofpfhaaa
end
