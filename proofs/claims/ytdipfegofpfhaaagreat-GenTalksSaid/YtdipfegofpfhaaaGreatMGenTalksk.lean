/- What the law needs. -/
import Derived.Test.YtdipfegofpfhaaaGreatMGenTalksj
import Derived.Test.YtdipfegofpfhaaaGreatMGenTalksa
section
namespace Go.Proofs.YtdipfegofpfhaaaGreat
open Go Go.RowKit Go.Hp
set_option linter.unusedVariables false
set_option linter.unusedSimpArgs false
set_option maxRecDepth 100000

def ref09_Ints.L1 (x0 : (List Int)) (x1 : (List Int)) : Nat → Int → Option (Bool)
  | 0, _ => none
  | m1 + 1, j2 =>
    if j2 < ((x0.length : Nat) : Int) then
      (idx x0 j2).bind fun y6 =>
      (idx x1 j2).bind fun y15 =>
      if y6 ≠ y15 then
        some false
      else
        (ref09_Ints.L1 x0 x1 m1) (IntKind.i64.wrap (j2 + 1))
    else
      some true

def ref09_Ints (N : Nat) (x0 : (List Int)) (x1 : (List Int)) : Option (Bool) :=
  if ((x0.length : Nat) : Int) ≠ ((x1.length : Nat) : Int) then
    some false
  else
    ref09_Ints.L1 x0 x1 N 0

set_option maxHeartbeats 8000000 in
theorem ref09_Ints_any {N : Nat} {x0 : (List Int)} {ax0 : Option Addr} {nx0 : Nat} {qx0 : Nat} {P0 : HP} {x1 : (List Int)} {ax1 : Option Addr} {nx1 : Nat} {qx1 : Nat} {P1 : HP} {Fr : List HP} {w : World} {r : Bool} {K : Value → World → Prop} (hrd0 : Reads P0 (pInt .i64) (.slice ax0 nx0 qx0) x0) (hrd1 : Reads P1 (pInt .i64) (.slice ax1 nx1 qx1) x1) (hc : Ctx w (P0 :: P1 :: Fr)) (hp : ref09_Ints N x0 x1 = some r)
    (k : ∀ w', Ctx w' (P0 :: P1 :: Fr) → K (.bool r) w') : Calls Tryz.prog 28 #[.slice ax0 nx0 qx0, .slice ax1 nx1 qx1] w (Ret K) := by
 unfold ref09_Ints at hp; refine Center (args := [.slice ax0 nx0 qx0, .slice ax1 nx1 qx1]) (l := [(0, .slice ax0 nx0 qx0), (1, .slice ax1 nx1 qx1)]) Tryz.func28 Tryz.ntmps28 rfl rfl rfl ?_; obtain ⟨hn0, _⟩ := Ctx.rdLen hc (k := 0) rfl rfl hrd0; subst hn0; obtain ⟨hn1, _⟩ := Ctx.rdLen hc (k := 1) rfl rfl hrd1; subst hn1; refine Wseq (Wreg ?_); refine rA (.bool false) rfl rfl ?_; refine rn (qn (Wseq (Wseq (Wreg ?_)))); refine rM (.slice ax0 x0.length qx0) rfl rfl ?_; refine rs (ln rfl Tryz.underlying27) rfl ?_; refine rM (.slice ax1 x1.length qx1) rfl rfl ?_; refine rs (ln rfl Tryz.underlying27) rfl ?_; refine rs (ned rfl rfl) rfl ?_; refine rn (qn ?_); cases hb1 : (decide (((x0.length : Nat) : Int) ≠ ((x1.length : Nat) : Int)))
 · replace hp := gneg hp (of_decide_eq_false hb1); refine Wcf rfl (Wskip (qn (Wseq (Wseq (Wreg ?_))))); refine rA (.int .i64 0) rfl rfl ?_; refine rn (qn (Wblk ?_)); refine Wloop [4, 5, 11, 12, 13, 14, 15, 16, 17, 18, 19, 20, 21, 22, 23, 24, 25] [5] (fun m vs w' => ∃ j2 : Int, vs = [.int .i64 j2] ∧ ref09_Ints.L1 x0 x1 m j2 = some r ∧ Ctx w' (P0 :: P1 :: Fr)) N ?_ ?_
   · exact ⟨0, rfl, hp, hc⟩
   · clear hp hc; intro m vs u w3 hJ; obtain ⟨j2, rfl, hp, hc⟩ := hJ; rcases m with _ | m1
     · cases (show none = some r from hp)
     rw [ref09_Ints.L1] at hp; refine Wseq (Wseq (Wreg ?_)); refine rM (.int .i64 j2) rfl rfl ?_; refine rM (.slice ax0 x0.length qx0) rfl rfl ?_; refine rs (ln rfl Tryz.underlying27) rfl ?_; refine rs (lt' rfl rfl) rfl ?_; refine rn (qn ?_); cases hb4 : (decide (j2 < ((x0.length : Nat) : Int)))
     · replace hp := gneg hp (of_decide_eq_false hb4); refine Wcf rfl (Wexit (qx (qx (be (qn (Wseq (Wreg ?_))))))); refine rA (.bool true) rfl rfl ?_; refine rn (qn (Wret ?_)); injection hp with hp; subst hp; refine f1 (v := .bool true) Tryz.results28 Tryz.ntmps28 rfl ?_; exact ⟨_, rfl, k _ hc⟩
     · replace hp := gpos hp (of_decide_eq_true hb4); refine Wct rfl (Wskip (qn (Wseq (Wblk (Wseq ?_))))); replace hc := hc.drew; refine Wdrw (fun _ w' => w' = World.drew w3) [0, 0, 3, 7, 0, 0, 48, 112, 255] 0 0 rfl (by kernel_rfl) (fun _ _ => rfl) ?_; generalize hw : World.drew w3 = w5 at *; clear hw; refine dM (.slice ax0 x0.length qx0) rfl rfl rfl ?_; refine dM (.int .i64 j2) rfl rfl rfl ?_; replace hp := bind_some hp; obtain ⟨y6, hy6, hp⟩ := hp; obtain ⟨b9, o10, u11, hi7, hi8⟩ := Ctx.rdAt hc (k := 0) rfl rfl hrd0 hy6; subst u11; refine dE (ixx rfl rfl Tryz.underlying27 Tryz.sizeOf3 hi7 hi8 rfl) rfl rfl ?_; replace hc := Ctx.rdCell hc (k := 0) rfl rfl hrd0 hy6; obtain ⟨cs12, hc, hcell13⟩ := hc; replace hc := Ctx.holdC hc; obtain ⟨u14, hc⟩ := hc; subst u14; refine dE (ld rfl Tryz.isAgg3 (hcell13 0 _ rfl)) rfl rfl ?_; refine dM (.slice ax1 x1.length qx1) rfl rfl rfl ?_; refine dM (.int .i64 j2) rfl rfl rfl ?_; replace hp := bind_some hp; obtain ⟨y15, hy15, hp⟩ := hp; obtain ⟨b18, o19, u20, hi16, hi17⟩ := Ctx.rdAt hc (k := 1) rfl rfl hrd1 hy15; subst u20; refine dE (ixx rfl rfl Tryz.underlying27 Tryz.sizeOf3 hi16 hi17 rfl) rfl rfl ?_; replace hc := Ctx.rdCell hc (k := 1) rfl rfl hrd1 hy15; obtain ⟨cs21, hc, hcell22⟩ := hc; replace hc := Ctx.holdC hc; obtain ⟨u23, hc⟩ := hc; subst u23; refine dE (ld rfl Tryz.isAgg3 (hcell22 0 _ rfl)) rfl rfl ?_; refine dE (ned rfl rfl) rfl rfl ?_; refine dn (qn ?_); cases hb24 : (decide (y6 ≠ y15))
       · replace hp := gneg hp (of_decide_eq_false hb24); refine Wcf rfl (Wskip (bn (qn (Wreg ?_)))); refine rM (.int .i64 j2) rfl rfl ?_; refine rs (adw rfl rfl) rfl ?_; refine rA (.int .i64 (IntKind.i64.wrap (j2 + 1))) rfl rfl ?_; refine rn (qn ?_); exact ⟨m1, Nat.lt_succ_self _, ⟨(IntKind.i64.wrap (j2 + 1)), rfl, hp, hc⟩, (kl rfl k0)⟩
       · replace hp := gpos hp (of_decide_eq_true hb24); refine Wct rfl (Wseq (Wreg ?_)); refine rA (.bool false) rfl rfl ?_; refine rn (qn (Wret (br (qr (qr (br (qr ?_))))))); injection hp with hp; subst hp; refine f1 (v := .bool false) Tryz.results28 Tryz.ntmps28 rfl ?_; exact ⟨_, rfl, k _ hc⟩
 · replace hp := gpos hp (of_decide_eq_true hb1); refine Wct rfl (Wseq (Wreg ?_)); refine rA (.bool false) rfl rfl ?_; refine rn (qn (Wret (qr ?_))); injection hp with hp; subst hp; refine f1 (v := .bool false) Tryz.results28 Tryz.ntmps28 rfl ?_; exact ⟨_, rfl, k _ hc⟩

def law09_awake (N : Nat) : Option (Bool) :=
  chk (0 ≤ (140 : Int) ∧ (140 : Int) ≤ 4294967296) <|
  (ref08_Of N (⟨1, 4, 2, 3, 5, 8⟩ : S_api_Shape) (List.replicate ((140 : Int)).toNat 0)).bind fun r11 =>
  (model_New N r11).bind fun r29 =>
  optc r29.1 (
    some false) fun y33 =>
    if r29.2 ≠ 0 then
      some false
    else
      (gen_Generate N r29.1 ([2]) 3).bind fun r50 =>
      if r50.2 = 0 then
        (ref09_Ints N r50.1 ([0, 0, 0])).bind fun r59 =>
        if r59 = true then
          (gen_Check N (⟨1, 4, 2, 3, 5, 8⟩ : S_api_Shape) ([]) 1).bind fun r62 =>
          if r62 = 90 then
            (gen_Check N (⟨1, 4, 2, 3, 5, 8⟩ : S_api_Shape) ([1, 1]) 7).bind fun r67 =>
            if r67 = 0 then
              (gen_Check N (⟨1, 4, 2, 3, 5, 8⟩ : S_api_Shape) ([1, 1]) 8).bind fun r72 =>
              some (decide (r72 = 80))
            else
              some false
          else
            some false
        else
          some false
      else
        some false

set_option maxHeartbeats 8000000 in
theorem law09_awake_any {N : Nat} {Fr : List HP} {w : World} {r : Bool} {K : Value → World → Prop}  (hc : Ctx w (Fr)) (hp : law09_awake N = some r)
    (k : ∀ w', Ctx w' (Fr) → K (.bool r) w') : Calls Tryz.prog 24 #[] w (Ret K) := by
 unfold law09_awake at hp; refine Center (args := []) (l := []) Tryz.func24 Tryz.ntmps24 rfl rfl rfl ?_; refine Wseq (Wreg ?_); refine rA (.bool false) rfl rfl ?_; refine rn (qn (Wseq (Wreg ?_))); refine rs (v := .agg #[.int .i64 1, .int .i64 4, .int .i64 2, .int .i64 3, .int .i64 5, .int .i64 8]) (bd_30_0_1_2_3_4_5 rfl rfl rfl rfl rfl rfl) rfl ?_; refine rsE (Ctx.allocOp (cs := [.int .i64 0, .int .i64 0, .int .i64 0, .int .i64 0, .int .i64 0, .int .i64 0]) hc Tryz.zeroValue30 rfl) rfl ?_; clear hc; rintro _ w3 ⟨b1, rfl, hc⟩; refine ruE (Ctx.putAgg hc (k := 0) rfl rfl (vs := [.int .i64 1, .int .i64 4, .int .i64 2, .int .i64 3, .int .i64 5, .int .i64 8]) (cs' := [.int .i64 1, .int .i64 4, .int .i64 2, .int .i64 3, .int .i64 5, .int .i64 8]) rfl rfl rfl Tryz.sizeOf30 rfl rfl rfl) rfl ?_; clear hc; rintro w4 hc; replace hc := Ctx.n0 hc; refine rn (qn (Wseq ?_)); replace hc := hc.drew; have hF : ∀ j, free [0, 0, 3, 7, 15, 31, 31, 63, 255] 0 j = true → (fun j w' => (j = 0 → ∀ j v, ([.int .i64 1, .int .i64 4, .int .i64 2, .int .i64 3, .int .i64 5, .int .i64 8] : List Value)[j]? = some v → w'.cell? ((⟨b1, 0, none⟩ : Addr).add j) = some v) ∧ True) j (World.drew w4) := fun j hj => ⟨fun _ => Ctx.cells hc (k := 0) rfl rfl 0 (vs := [.int .i64 1, .int .i64 4, .int .i64 2, .int .i64 3, .int .i64 5, .int .i64 8]) rfl, trivial⟩; refine Wdrw (fun j w' => (j = 0 → ∀ j v, ([.int .i64 1, .int .i64 4, .int .i64 2, .int .i64 3, .int .i64 5, .int .i64 8] : List Value)[j]? = some v → w'.cell? ((⟨b1, 0, none⟩ : Addr).add j) = some v) ∧ True) [0, 0, 3, 7, 15, 31, 31, 63, 255] 0 0 rfl (by kernel_rfl) (hF) ?_; generalize hw : World.drew w4 = w5 at *; clear hw; refine ds (v := .agg #[.int .i64 1, .int .i64 4, .int .i64 2, .int .i64 3, .int .i64 5, .int .i64 8]) rfl (fun w' hF => ldg rfl Tryz.isAgg30 Tryz.sizeOf30 rfl (hF.1 rfl)) rfl ?_; replace hp := chk_some hp; obtain ⟨hg6, hp⟩ := hp; have hm8 : (((140 : Int)).toNat : Int) = (140 : Int) := Int.toNat_of_nonneg hg6.1; refine deE (Ctx.make (n := ((140 : Int)).toNat) (E := (pInt .i8)) (x0 := 0) hc (by rw [hm8]; rfl) (by rw [hm8]; rfl) Tryz.underlying24 (i := Tryz.t45) rfl rfl rfl rfl rfl rfl (fun _ _ => rfl) (by omega)) rfl rfl ?_; clear hc; rintro _ w10 ⟨a7, rfl, hc⟩; refine ⟨fun j hj hb => ⟨fun _ => Ctx.cells hc (k := 1) rfl rfl 0 (vs := [.int .i64 1, .int .i64 4, .int .i64 2, .int .i64 3, .int .i64 5, .int .i64 8]) rfl, trivial⟩, ?_⟩; replace hp := bind_some hp; obtain ⟨r11, hr11, hp⟩ := hp; refine dc (cl Tryz.call33 rfl rfl) rfl rfl ?_; refine ref08_Of_any (x0 := (⟨1, 4, 2, 3, 5, 8⟩ : S_api_Shape)) hc hr11 ?_; clear hc; intro a12 n13 q14 a15 n16 q17 a18 n19 q20 a21 n22 q23 w24 hc; obtain ⟨u25, _⟩ := Ctx.rdLen hc (k := 0) rfl rfl reads_ro; subst u25; obtain ⟨u26, _⟩ := Ctx.rdLen hc (k := 1) rfl rfl reads_ro; subst u26; obtain ⟨u27, _⟩ := Ctx.rdLen hc (k := 2) rfl rfl reads_ro; subst u27; obtain ⟨u28, _⟩ := Ctx.rdLen hc (k := 3) rfl rfl reads_ro; subst u28; refine ⟨fun j hj hb => ⟨fun e => (by subst e; exact absurd hj (by decide)), trivial⟩, ?_⟩; replace hc := hc.dup (k := 0) rfl rfl; replace hc := hc.dup (k := 2) rfl rfl; replace hc := hc.dup (k := 4) rfl rfl; replace hc := hc.dup (k := 6) rfl rfl; replace hp := bind_some hp; obtain ⟨r29, hr29, hp⟩ := hp; replace hc := Ctx.p3 (Ctx.p2 (Ctx.p1 hc)); refine dc (cl Tryz.call10 rfl rfl) rfl rfl ?_; refine model_New_any hc hr29 ?_; clear hc; intro v30 w31 hc; refine ⟨fun j hj hb => ⟨fun e => (by subst e; exact absurd hj (by decide)), trivial⟩, ?_⟩; refine dM (.tuple #[v30, .int .i64 r29.2]) rfl rfl rfl ?_; refine ds rfl (fun w' hF => ext (v := v30) rfl rfl) rfl ?_; refine ds rfl (fun w' hF => ext (v := .int .i64 r29.2) rfl rfl) rfl ?_; refine dA (v30) rfl rfl rfl ?_; refine dA (.int .i64 r29.2) rfl rfl rfl ?_; refine dn (qn (Wseq (Wseq (Wreg ?_)))); refine rM (v30) rfl rfl ?_; cases hb32 : r29.1
 · replace hp := optN hp hb32; rw [hb32] at hc; replace hc := Ctx.poE hc; obtain ⟨u34, hc⟩ := hc; subst u34; refine rs (v := .bool true) (ept Tryz.underlying37 rfl rfl) rfl ?_; refine rM (.bool true) rfl rfl ?_; (iterate 2 refine r0 rfl ?_); refine rs (v := .bool true) (pkt (v := .bool true) rfl rfl) rfl ?_; refine rn (qn (Wct rfl (Wseq (Wreg ?_)))); refine rA (.bool false) rfl rfl ?_; refine rn (qn (Wret (qr ?_))); replace hc := Ctx.r0 (Ctx.r1 (Ctx.r2 (Ctx.r3 (Ctx.r4 hc)))); injection hp with hp; subst hp; refine f1 (v := .bool false) Tryz.results24 Tryz.ntmps24 rfl ?_; exact ⟨_, rfl, k _ hc⟩
 · rename_i y33; replace hp := optS hp hb32; replace hc := Ctx.poF hc hb32; obtain ⟨b35, cs36, u37, hc⟩ := hc; subst u37; replace hc := S_model_Model.op hc; obtain ⟨a39, q40, a41, q42, a43, q44, a45, q46, u38, hc⟩ := hc; subst u38; refine rs (v := .bool false) (epf Tryz.underlying37 rfl rfl) rfl ?_; refine rM (.bool false) rfl rfl ?_; refine rM (.int .i64 r29.2) rfl rfl ?_; refine rs (ned rfl rfl) rfl ?_; refine rs (v := .bool (decide (r29.2 ≠ 0))) (pkf (v := .bool (decide (r29.2 ≠ 0))) rfl rfl) rfl ?_; refine rn (qn ?_); cases hb47 : (decide (r29.2 ≠ 0))
   · replace hp := gneg hp (of_decide_eq_false hb47); refine Wcf rfl (Wskip (qn (Wseq (Wreg ?_)))); refine rM (.pointer (some ⟨b35, 0, none⟩)) rfl rfl ?_; refine rsE (Ctx.builtOp (css := [[.int .i64 2]]) (xs := ([2] : List Int)) (E := (pInt .i64)) (Ctx.holdsC (f := fun x : Int => [.int .i64 x]) (fun _ _ _ => rfl) hc ([2] : List Int)) Tryz.underlying27 Tryz.sizeOf3 Tryz.zeroValue3 rfl rfl rfl rfl rfl rfl rfl rfl) rfl ?_; clear hc; rintro _ w49 ⟨a48, rfl, hc⟩; replace hc := hc.dup (k := 6) rfl rfl; replace hp := bind_some hp; obtain ⟨r50, hr50, hp⟩ := hp; replace hc := Ctx.p1 (Ctx.p1 hc); refine rc (cl Tryz.call26 rfl rfl) rfl ?_; refine gen_Generate_any reads_own hc hr50 ?_; clear hc; intro a51 n52 q53 w54 hc; obtain ⟨u55, _⟩ := Ctx.rdLen hc (k := 0) rfl rfl reads_own; subst u55; refine rM (.tuple #[.slice a51 r50.1.length q53, .int .i64 r50.2]) rfl rfl ?_; refine rs (ext (v := .slice a51 r50.1.length q53) rfl rfl) rfl ?_; refine rs (ext (v := .int .i64 r50.2) rfl rfl) rfl ?_; refine rA (.slice a51 r50.1.length q53) rfl rfl ?_; refine rA (.int .i64 r50.2) rfl rfl ?_; refine rn (qn (Wseq (Wreg ?_))); refine rM (.int .i64 r50.2) rfl rfl ?_; refine rs (eqd rfl rfl) rfl ?_; refine rM (.bool (decide (r50.2 = 0))) rfl rfl ?_; cases hb56 : (decide (r50.2 = 0))
     · replace hp := gneg hp (of_decide_eq_false hb56); (iterate 3 refine r0 rfl ?_); refine rs (v := .bool false) (pkf (v := .bool false) rfl rfl) rfl ?_; refine rM (.bool false) rfl rfl ?_; (iterate 3 refine r0 rfl ?_); refine rs (v := .bool false) (pkf (v := .bool false) rfl rfl) rfl ?_; refine rM (.bool false) rfl rfl ?_; (iterate 4 refine r0 rfl ?_); refine rs (v := .bool false) (pkf (v := .bool false) rfl rfl) rfl ?_; refine rM (.bool false) rfl rfl ?_; (iterate 4 refine r0 rfl ?_); refine rs (v := .bool false) (pkf (v := .bool false) rfl rfl) rfl ?_; refine rA (.bool false) rfl rfl ?_; refine rn (qn (Wret ?_)); replace hc := Ctx.r1 (Ctx.r2 (Ctx.r3 (Ctx.r4 (Ctx.r5 (Ctx.r6 (Ctx.r7 (Ctx.r8 (Ctx.r9 (Ctx.r10 (Ctx.r11 (Ctx.r12 hc))))))))))); replace hc := Ctx.r0 hc; injection hp with hp; subst hp; refine f1 (v := .bool false) Tryz.results24 Tryz.ntmps24 rfl ?_; exact ⟨_, rfl, k _ hc⟩
     · replace hp := gpos hp (of_decide_eq_true hb56); refine rM (.slice a51 r50.1.length q53) rfl rfl ?_; refine rsE (Ctx.builtOp (css := [[.int .i64 0], [.int .i64 0], [.int .i64 0]]) (xs := ([0, 0, 0] : List Int)) (E := (pInt .i64)) (Ctx.holdsC (f := fun x : Int => [.int .i64 x]) (fun _ _ _ => rfl) hc ([0, 0, 0] : List Int)) Tryz.underlying27 Tryz.sizeOf3 Tryz.zeroValue3 rfl rfl rfl rfl rfl rfl rfl rfl) rfl ?_; clear hc; rintro _ w58 ⟨a57, rfl, hc⟩; replace hp := bind_some hp; obtain ⟨r59, hr59, hp⟩ := hp; replace hc := Ctx.p1 hc; refine rc (cl Tryz.call28 rfl rfl) rfl ?_; refine ref09_Ints_any reads_own reads_own hc hr59 ?_; clear hc; intro w60 hc; refine rs (v := .bool r59) (pkt (v := .bool r59) rfl rfl) rfl ?_; refine rM (.bool r59) rfl rfl ?_; cases hb61 : r59
       · replace hp := gneg hp (by rw [hb61]; exact Bool.false_ne_true); subst hb61; (iterate 3 refine r0 rfl ?_); refine rs (v := .bool false) (pkf (v := .bool false) rfl rfl) rfl ?_; refine rM (.bool false) rfl rfl ?_; (iterate 4 refine r0 rfl ?_); refine rs (v := .bool false) (pkf (v := .bool false) rfl rfl) rfl ?_; refine rM (.bool false) rfl rfl ?_; (iterate 4 refine r0 rfl ?_); refine rs (v := .bool false) (pkf (v := .bool false) rfl rfl) rfl ?_; refine rA (.bool false) rfl rfl ?_; refine rn (qn (Wret ?_)); replace hc := Ctx.r2 (Ctx.r3 (Ctx.r4 (Ctx.r5 (Ctx.r6 (Ctx.r7 (Ctx.r8 (Ctx.r9 (Ctx.r10 (Ctx.r11 (Ctx.r12 (Ctx.r13 hc))))))))))); replace hc := Ctx.r0 (Ctx.r1 hc); injection hp with hp; subst hp; refine f1 (v := .bool false) Tryz.results24 Tryz.ntmps24 rfl ?_; exact ⟨_, rfl, k _ hc⟩
       · replace hp := gpos hp hb61; subst hb61; refine rs (v := .agg #[.int .i64 1, .int .i64 4, .int .i64 2, .int .i64 3, .int .i64 5, .int .i64 8]) (ldg rfl Tryz.isAgg30 Tryz.sizeOf30 rfl (Ctx.cells hc (k := 13) rfl rfl 0 (vs := [.int .i64 1, .int .i64 4, .int .i64 2, .int .i64 3, .int .i64 5, .int .i64 8]) rfl)) rfl ?_; replace hc := hc.nilRo (pInt .i64); replace hc := hc.dup (k := 0) rfl rfl; replace hp := bind_some hp; obtain ⟨r62, hr62, hp⟩ := hp; refine rc (cl Tryz.call49 rfl rfl) rfl ?_; refine gen_Check_any (x0 := (⟨1, 4, 2, 3, 5, 8⟩ : S_api_Shape)) reads_ro hc hr62 ?_; clear hc; intro w63 hc; refine rs (eqd rfl rfl) rfl ?_; refine rs (v := .bool (decide (r62 = 90))) (pkt (v := .bool (decide (r62 = 90))) rfl rfl) rfl ?_; refine rM (.bool (decide (r62 = 90))) rfl rfl ?_; cases hb64 : (decide (r62 = 90))
         · replace hp := gneg hp (of_decide_eq_false hb64); (iterate 4 refine r0 rfl ?_); refine rs (v := .bool false) (pkf (v := .bool false) rfl rfl) rfl ?_; refine rM (.bool false) rfl rfl ?_; (iterate 4 refine r0 rfl ?_); refine rs (v := .bool false) (pkf (v := .bool false) rfl rfl) rfl ?_; refine rA (.bool false) rfl rfl ?_; refine rn (qn (Wret ?_)); replace hc := Ctx.r4 (Ctx.r5 (Ctx.r6 (Ctx.r7 (Ctx.r8 (Ctx.r9 (Ctx.r10 (Ctx.r11 (Ctx.r12 (Ctx.r13 (Ctx.r14 (Ctx.r15 hc))))))))))); replace hc := Ctx.r0 (Ctx.r1 (Ctx.r2 (Ctx.r3 hc))); injection hp with hp; subst hp; refine f1 (v := .bool false) Tryz.results24 Tryz.ntmps24 rfl ?_; exact ⟨_, rfl, k _ hc⟩
         · replace hp := gpos hp (of_decide_eq_true hb64); refine rs (v := .agg #[.int .i64 1, .int .i64 4, .int .i64 2, .int .i64 3, .int .i64 5, .int .i64 8]) (ldg rfl Tryz.isAgg30 Tryz.sizeOf30 rfl (Ctx.cells hc (k := 15) rfl rfl 0 (vs := [.int .i64 1, .int .i64 4, .int .i64 2, .int .i64 3, .int .i64 5, .int .i64 8]) rfl)) rfl ?_; refine rsE (Ctx.builtOp (css := [[.int .i64 1], [.int .i64 1]]) (xs := ([1, 1] : List Int)) (E := (pInt .i64)) (Ctx.holdsC (f := fun x : Int => [.int .i64 x]) (fun _ _ _ => rfl) hc ([1, 1] : List Int)) Tryz.underlying27 Tryz.sizeOf3 Tryz.zeroValue3 rfl rfl rfl rfl rfl rfl rfl rfl) rfl ?_; clear hc; rintro _ w66 ⟨a65, rfl, hc⟩; replace hp := bind_some hp; obtain ⟨r67, hr67, hp⟩ := hp; refine rc (cl Tryz.call49 rfl rfl) rfl ?_; refine gen_Check_any (x0 := (⟨1, 4, 2, 3, 5, 8⟩ : S_api_Shape)) reads_own hc hr67 ?_; clear hc; intro w68 hc; refine rs (eqd rfl rfl) rfl ?_; refine rs (v := .bool (decide (r67 = 0))) (pkt (v := .bool (decide (r67 = 0))) rfl rfl) rfl ?_; refine rM (.bool (decide (r67 = 0))) rfl rfl ?_; cases hb69 : (decide (r67 = 0))
           · replace hp := gneg hp (of_decide_eq_false hb69); (iterate 4 refine r0 rfl ?_); refine rs (v := .bool false) (pkf (v := .bool false) rfl rfl) rfl ?_; refine rA (.bool false) rfl rfl ?_; refine rn (qn (Wret ?_)); replace hc := Ctx.r5 (Ctx.r6 (Ctx.r7 (Ctx.r8 (Ctx.r9 (Ctx.r10 (Ctx.r11 (Ctx.r12 (Ctx.r13 (Ctx.r14 (Ctx.r15 (Ctx.r16 hc))))))))))); replace hc := Ctx.r0 (Ctx.r1 (Ctx.r2 (Ctx.r3 (Ctx.r4 hc)))); injection hp with hp; subst hp; refine f1 (v := .bool false) Tryz.results24 Tryz.ntmps24 rfl ?_; exact ⟨_, rfl, k _ hc⟩
           · replace hp := gpos hp (of_decide_eq_true hb69); refine rs (v := .agg #[.int .i64 1, .int .i64 4, .int .i64 2, .int .i64 3, .int .i64 5, .int .i64 8]) (ldg rfl Tryz.isAgg30 Tryz.sizeOf30 rfl (Ctx.cells hc (k := 16) rfl rfl 0 (vs := [.int .i64 1, .int .i64 4, .int .i64 2, .int .i64 3, .int .i64 5, .int .i64 8]) rfl)) rfl ?_; refine rsE (Ctx.builtOp (css := [[.int .i64 1], [.int .i64 1]]) (xs := ([1, 1] : List Int)) (E := (pInt .i64)) (Ctx.holdsC (f := fun x : Int => [.int .i64 x]) (fun _ _ _ => rfl) hc ([1, 1] : List Int)) Tryz.underlying27 Tryz.sizeOf3 Tryz.zeroValue3 rfl rfl rfl rfl rfl rfl rfl rfl) rfl ?_; clear hc; rintro _ w71 ⟨a70, rfl, hc⟩; replace hp := bind_some hp; obtain ⟨r72, hr72, hp⟩ := hp; refine rc (cl Tryz.call49 rfl rfl) rfl ?_; refine gen_Check_any (x0 := (⟨1, 4, 2, 3, 5, 8⟩ : S_api_Shape)) reads_own hc hr72 ?_; clear hc; intro w73 hc; refine rs (eqd rfl rfl) rfl ?_; refine rs (v := .bool (decide (r72 = 80))) (pkt (v := .bool (decide (r72 = 80))) rfl rfl) rfl ?_; refine rA (.bool (decide (r72 = 80))) rfl rfl ?_; refine rn (qn (Wret ?_)); replace hc := Ctx.r6 (Ctx.r7 (Ctx.r8 (Ctx.r9 (Ctx.r10 (Ctx.r11 (Ctx.r12 (Ctx.r13 (Ctx.r14 (Ctx.r15 (Ctx.r16 (Ctx.r17 hc))))))))))); replace hc := Ctx.r0 (Ctx.r1 (Ctx.r2 (Ctx.r3 (Ctx.r4 (Ctx.r5 hc))))); injection hp with hp; subst hp; refine f1 (v := .bool (decide (r72 = 80))) Tryz.results24 Tryz.ntmps24 rfl ?_; exact ⟨_, rfl, k _ hc⟩
   · replace hp := gpos hp (of_decide_eq_true hb47); refine Wct rfl (Wseq (Wreg ?_)); refine rA (.bool false) rfl rfl ?_; refine rn (qn (Wret (qr ?_))); replace hc := Ctx.r0 (Ctx.r1 (Ctx.r2 (Ctx.r3 (Ctx.r4 (Ctx.r5 (Ctx.r6 (Ctx.r7 (Ctx.r8 (Ctx.r9 (Ctx.r10 hc)))))))))); injection hp with hp; subst hp; refine f1 (v := .bool false) Tryz.results24 Tryz.ntmps24 rfl ?_; exact ⟨_, rfl, k _ hc⟩

def law09_made (N : Nat) (x0 : S_law09_Seeds) : Option ((Option S_model_Model) × S_api_Weights) :=
  (ref08_Made N (⟨x0.N.c0, x0.N.c1, x0.N.c2, x0.N.c3, x0.N.c4, x0.N.c5⟩ : A6_i64) x0.Seed x0.Xs).bind fun r11 =>
  (model_New N (⟨(⟨r11.Shape.Layers, r11.Shape.Width, r11.Shape.Heads, r11.Shape.Inner, r11.Shape.Vocab, r11.Shape.Places⟩ : S_api_Shape), (⟨r11.Embed.Rows, r11.Embed.Cols, r11.Embed.V⟩ : S_api_Mat), r11.Blocks, r11.Last, (⟨r11.Head.Rows, r11.Head.Cols, r11.Head.V⟩ : S_api_Mat)⟩ : S_api_Weights)).bind fun r33 =>
  if r33.2 ≠ 0 then
    some (none, (⟨(⟨r11.Shape.Layers, r11.Shape.Width, r11.Shape.Heads, r11.Shape.Inner, r11.Shape.Vocab, r11.Shape.Places⟩ : S_api_Shape), (⟨r11.Embed.Rows, r11.Embed.Cols, r11.Embed.V⟩ : S_api_Mat), r11.Blocks, r11.Last, (⟨r11.Head.Rows, r11.Head.Cols, r11.Head.V⟩ : S_api_Mat)⟩ : S_api_Weights))
  else
    some (r33.1, (⟨(⟨r11.Shape.Layers, r11.Shape.Width, r11.Shape.Heads, r11.Shape.Inner, r11.Shape.Vocab, r11.Shape.Places⟩ : S_api_Shape), (⟨r11.Embed.Rows, r11.Embed.Cols, r11.Embed.V⟩ : S_api_Mat), r11.Blocks, r11.Last, (⟨r11.Head.Rows, r11.Head.Cols, r11.Head.V⟩ : S_api_Mat)⟩ : S_api_Weights))

set_option maxHeartbeats 8000000 in
theorem law09_made_any {N : Nat} {x0 : S_law09_Seeds} {a1 : Option Addr} {n2 : Nat} {q3 : Nat} {Fr : List HP} {w : World} {r : (Option S_model_Model) × S_api_Weights} {K : Value → World → Prop}  (hc : Ctx w (Hold (pRo (pInt .i8)) [.slice a1 n2 q3] x0.Xs :: Fr)) (hp : law09_made N x0 = some r)
    (k : ∀ (v41 : Value) (a42 : Option Addr) (n43 : Nat) (q44 : Nat) (a45 : Option Addr) (n46 : Nat) (q47 : Nat) (a48 : Option Addr) (n49 : Nat) (q50 : Nat) (a51 : Option Addr) (n52 : Nat) (q53 : Nat) w', Ctx w' (Hold (pPo S_model_Model.pr) [v41] r.1 :: Hold (pRo (pInt .i8)) [.slice a42 n43 q44] r.2.Embed.V :: Hold (pRo S_api_Block.pr) [.slice a45 n46 q47] r.2.Blocks :: Hold (pRo (pInt .i8)) [.slice a48 n49 q50] r.2.Last :: Hold (pRo (pInt .i8)) [.slice a51 n52 q53] r.2.Head.V :: Fr) → K (.tuple #[v41, .agg #[.int .i64 r.2.Shape.Layers, .int .i64 r.2.Shape.Width, .int .i64 r.2.Shape.Heads, .int .i64 r.2.Shape.Inner, .int .i64 r.2.Shape.Vocab, .int .i64 r.2.Shape.Places, .int .i64 r.2.Embed.Rows, .int .i64 r.2.Embed.Cols, .slice a42 n43 q44, .slice a45 n46 q47, .slice a48 n49 q50, .int .i64 r.2.Head.Rows, .int .i64 r.2.Head.Cols, .slice a51 n52 q53]]) w') : Calls Tryz.prog 25 #[.agg #[.int .i64 x0.N.c0, .int .i64 x0.N.c1, .int .i64 x0.N.c2, .int .i64 x0.N.c3, .int .i64 x0.N.c4, .int .i64 x0.N.c5, .int .u64 x0.Seed, .slice a1 n2 q3]] w (Ret K) := by
 unfold law09_made at hp; refine Center (args := [.agg #[.int .i64 x0.N.c0, .int .i64 x0.N.c1, .int .i64 x0.N.c2, .int .i64 x0.N.c3, .int .i64 x0.N.c4, .int .i64 x0.N.c5, .int .u64 x0.Seed, .slice a1 n2 q3]]) (l := [(0, .agg #[.int .i64 x0.N.c0, .int .i64 x0.N.c1, .int .i64 x0.N.c2, .int .i64 x0.N.c3, .int .i64 x0.N.c4, .int .i64 x0.N.c5, .int .u64 x0.Seed, .slice a1 n2 q3])]) Tryz.func25 Tryz.ntmps25 rfl rfl rfl ?_; obtain ⟨u4, _⟩ := Ctx.rdLen hc (k := 0) rfl rfl reads_ro; subst u4; refine Wseq (Wreg ?_); refine rsE (Ctx.boxOp (cs := (S_law09_Seeds.cz x0 a1 q3)) (v := .agg (S_law09_Seeds.cz x0 a1 q3).toArray) hc rfl rfl) rfl ?_; clear hc; rintro _ w7 ⟨b5, rfl, hc⟩; refine rA (.pointer none) rfl rfl ?_; refine rsE (Ctx.allocOp (cs := [.int .i64 0, .int .i64 0, .int .i64 0, .int .i64 0, .int .i64 0, .int .i64 0, .int .i64 0, .int .i64 0, .slice none 0 0, .slice none 0 0, .slice none 0 0, .int .i64 0, .int .i64 0, .slice none 0 0]) hc Tryz.zeroValue35 rfl) rfl ?_; clear hc; rintro _ w10 ⟨b8, rfl, hc⟩; refine rn (qn (Wseq (Wreg ?_))); refine rs (v := .pointer (some ⟨b5, 0, none⟩)) (fax 0 rfl Tryz.underlying73 rfl Tryz.sizeOf22 rfl rfl rfl) rfl ?_; refine rs (v := .agg (A6_i64.cz x0.N).toArray) (ldg rfl Tryz.isAgg22 Tryz.sizeOf22 rfl (Ctx.cells hc (k := 1) rfl rfl 0 (vs := (A6_i64.cz x0.N)) rfl)) rfl ?_; refine rs (v := .pointer (some ⟨b5, 6, none⟩)) (fax 6 rfl Tryz.underlying73 rfl Tryz.sizeOf23 rfl rfl rfl) rfl ?_; refine rs (ld rfl Tryz.isAgg23 (Ctx.cell hc (k := 1) rfl rfl rfl)) rfl ?_; refine rs (v := .pointer (some ⟨b5, 7, none⟩)) (fax 7 rfl Tryz.underlying73 rfl Tryz.sizeOf24 rfl rfl rfl) rfl ?_; refine rs (ld rfl Tryz.isAgg24 (Ctx.cell hc (k := 1) rfl rfl rfl)) rfl ?_; replace hc := hc.dup (k := 2) rfl rfl; replace hp := bind_some hp; obtain ⟨r11, hr11, hp⟩ := hp; refine rc (cl Tryz.call9 rfl rfl) rfl ?_; refine ref08_Made_any (x0 := x0.N) reads_ro hc hr11 ?_; clear hc; intro a12 n13 q14 a15 n16 q17 a18 n19 q20 a21 n22 q23 w24 hc; obtain ⟨u25, _⟩ := Ctx.rdLen hc (k := 0) rfl rfl reads_ro; subst u25; obtain ⟨u26, _⟩ := Ctx.rdLen hc (k := 1) rfl rfl reads_ro; subst u26; obtain ⟨u27, _⟩ := Ctx.rdLen hc (k := 2) rfl rfl reads_ro; subst u27; obtain ⟨u28, _⟩ := Ctx.rdLen hc (k := 3) rfl rfl reads_ro; subst u28; refine rsE (Ctx.allocOp (cs := [.int .i64 0, .int .i64 0, .int .i64 0, .int .i64 0, .int .i64 0, .int .i64 0, .int .i64 0, .int .i64 0, .slice none 0 0, .slice none 0 0, .slice none 0 0, .int .i64 0, .int .i64 0, .slice none 0 0]) hc Tryz.zeroValue35 rfl) rfl ?_; clear hc; rintro _ w31 ⟨b29, rfl, hc⟩; refine ruE (Ctx.putAgg hc (k := 0) rfl rfl (vs := (S_api_Weights.cz r11 a12 q14 a15 q17 a18 q20 a21 q23)) (cs' := (S_api_Weights.cz r11 a12 q14 a15 q17 a18 q20 a21 q23)) rfl rfl rfl Tryz.sizeOf35 rfl rfl rfl) rfl ?_; clear hc; rintro w32 hc; replace hc := Ctx.n0 hc; refine rn (qn (Wseq (Wreg ?_))); refine rs (v := .agg (S_api_Weights.cz r11 a12 q14 a15 q17 a18 q20 a21 q23).toArray) (ldg rfl Tryz.isAgg35 Tryz.sizeOf35 rfl (Ctx.cells hc (k := 0) rfl rfl 0 (vs := (S_api_Weights.cz r11 a12 q14 a15 q17 a18 q20 a21 q23)) rfl)) rfl ?_; replace hc := hc.dup (k := 1) rfl rfl; replace hc := hc.dup (k := 3) rfl rfl; replace hc := hc.dup (k := 5) rfl rfl; replace hc := hc.dup (k := 7) rfl rfl; replace hp := bind_some hp; obtain ⟨r33, hr33, hp⟩ := hp; replace hc := Ctx.p3 (Ctx.p2 (Ctx.p1 hc)); refine rc (cl Tryz.call10 rfl rfl) rfl ?_; refine model_New_any (x0 := (⟨(⟨r11.Shape.Layers, r11.Shape.Width, r11.Shape.Heads, r11.Shape.Inner, r11.Shape.Vocab, r11.Shape.Places⟩ : S_api_Shape), r11.Embed, r11.Blocks, r11.Last, r11.Head⟩ : S_api_Weights)) hc hr33 ?_; clear hc; intro v34 w35 hc; refine rM (.tuple #[v34, .int .i64 r33.2]) rfl rfl ?_; refine rs (ext (v := v34) rfl rfl) rfl ?_; refine rs (ext (v := .int .i64 r33.2) rfl rfl) rfl ?_; refine rA (v34) rfl rfl ?_; refine rA (.int .i64 r33.2) rfl rfl ?_; refine rn (qn (Wseq (Wseq (Wreg ?_)))); refine rM (.int .i64 r33.2) rfl rfl ?_; refine rs (ned rfl rfl) rfl ?_; refine rn (qn ?_); cases hb36 : (decide (r33.2 ≠ 0))
 · replace hp := gneg hp (of_decide_eq_false hb36); refine Wcf rfl (Wskip (qn (Wseq ?_))); replace hc := hc.drew; refine Wdrw (fun j w' => True) [0, 0, 1, 7] 0 2 rfl (by kernel_rfl) (fun _ _ => trivial) ?_; generalize hw : World.drew w35 = w37 at *; clear hw; refine dM (v34) rfl rfl rfl ?_; refine dx (v := .agg (S_api_Weights.cz r11 a12 q14 a15 q17 a18 q20 a21 q23).toArray) rfl (ldg rfl Tryz.isAgg35 Tryz.sizeOf35 rfl (Ctx.cells hc (k := 1) rfl rfl 0 (vs := (S_api_Weights.cz r11 a12 q14 a15 q17 a18 q20 a21 q23)) rfl)) rfl rfl ?_; refine dA (v34) rfl rfl rfl ?_; refine duE (Ctx.putAgg hc (k := 7) rfl rfl (vs := (S_api_Weights.cz r11 a12 q14 a15 q17 a18 q20 a21 q23)) (cs' := (S_api_Weights.cz r11 a12 q14 a15 q17 a18 q20 a21 q23)) rfl rfl rfl Tryz.sizeOf35 rfl rfl rfl) rfl rfl ?_; clear hc; rintro w38 hc; replace hc := Ctx.n7 hc; refine ⟨fun j hj hb => trivial, ?_⟩; refine dn (qn (Wret ?_)); have hres := Ctx.cells hc (k := 7) rfl rfl 0 (vs := (S_api_Weights.cz r11 a12 q14 a15 q17 a18 q20 a21 q23)) rfl; replace hc := hc.dup (k := 0) rfl rfl; replace hc := hc.dup (k := 3) rfl rfl; replace hc := hc.dup (k := 5) rfl rfl; replace hc := hc.dup (k := 7) rfl rfl; replace hc := hc.dup (k := 9) rfl rfl; replace hc := Ctx.p2 (Ctx.p1 (Ctx.r5 (Ctx.r6 (Ctx.r7 (Ctx.r8 (Ctx.r9 (Ctx.r10 (Ctx.r11 (Ctx.r12 (Ctx.r13 (Ctx.r14 hc))))))))))); replace hc := Ctx.p4 (Ctx.p3 hc); injection hp with hp; subst hp; refine f2tc (cs := (S_api_Weights.cz r11 a12 q14 a15 q17 a18 q20 a21 q23)) (u := v34) Tryz.results25 Tryz.ntmps25 rfl Tryz.isAgg35 Tryz.sizeOf35 rfl hres rfl ?_; exact ⟨_, rfl, k _ _ _ _ _ _ _ _ _ _ _ _ _ _ hc⟩
 · replace hp := gpos hp (of_decide_eq_true hb36); refine Wct rfl (Wseq ?_); replace hc := hc.drew; refine Wdrw (fun j w' => True) [0, 0, 3] 0 1 rfl (by kernel_rfl) (fun _ _ => trivial) ?_; generalize hw : World.drew w35 = w39 at *; clear hw; refine dx (v := .agg (S_api_Weights.cz r11 a12 q14 a15 q17 a18 q20 a21 q23).toArray) rfl (ldg rfl Tryz.isAgg35 Tryz.sizeOf35 rfl (Ctx.cells hc (k := 1) rfl rfl 0 (vs := (S_api_Weights.cz r11 a12 q14 a15 q17 a18 q20 a21 q23)) rfl)) rfl rfl ?_; refine dA (.pointer none) rfl rfl rfl ?_; refine duE (Ctx.putAgg hc (k := 7) rfl rfl (vs := (S_api_Weights.cz r11 a12 q14 a15 q17 a18 q20 a21 q23)) (cs' := (S_api_Weights.cz r11 a12 q14 a15 q17 a18 q20 a21 q23)) rfl rfl rfl Tryz.sizeOf35 rfl rfl rfl) rfl rfl ?_; clear hc; rintro w40 hc; replace hc := Ctx.n7 hc; refine ⟨fun j hj hb => trivial, ?_⟩; refine dn (qn (Wret (qr ?_))); have hres := Ctx.cells hc (k := 7) rfl rfl 0 (vs := (S_api_Weights.cz r11 a12 q14 a15 q17 a18 q20 a21 q23)) rfl; replace hc := Ctx.poN S_model_Model.pr hc; replace hc := hc.dup (k := 3) rfl rfl; replace hc := hc.dup (k := 5) rfl rfl; replace hc := hc.dup (k := 7) rfl rfl; replace hc := hc.dup (k := 9) rfl rfl; replace hc := Ctx.p2 (Ctx.p1 (Ctx.r5 (Ctx.r6 (Ctx.r7 (Ctx.r8 (Ctx.r9 (Ctx.r10 (Ctx.r11 (Ctx.r12 (Ctx.r13 (Ctx.r14 hc))))))))))); replace hc := Ctx.p4 (Ctx.p3 hc); injection hp with hp; subst hp; refine f2tc (cs := (S_api_Weights.cz r11 a12 q14 a15 q17 a18 q20 a21 q23)) (u := (.pointer none)) Tryz.results25 Tryz.ntmps25 rfl Tryz.isAgg35 Tryz.sizeOf35 rfl hres rfl ?_; exact ⟨_, rfl, k _ _ _ _ _ _ _ _ _ _ _ _ _ _ hc⟩

def ref09_Check.L1 (x0 : S_api_Shape) (x1 : (List Int)) (x2 : Int) : Nat → Int → Option (Int)
  | 0, _ => none
  | m1 + 1, j5 =>
    if j5 < ((x1.length : Nat) : Int) then
      (idx x1 j5).bind fun y12 =>
      if y12 < 0 then
        some 2
      else
        (idx x1 j5).bind fun y22 =>
        if y22 ≥ x0.Vocab then
          some 2
        else
          (ref09_Check.L1 x0 x1 x2 m1) (IntKind.i64.wrap (j5 + 1))
    else
      if x2 < 1 then
        some 2
      else
        if ((x1.length : Nat) : Int) > x0.Places then
          some 80
        else
          if x2 > (IntKind.i64.wrap ((IntKind.i64.wrap (x0.Places - ((x1.length : Nat) : Int))) + 1)) then
            some 80
          else
            some 0

def ref09_Check (N : Nat) (x0 : S_api_Shape) (x1 : (List Int)) (x2 : Int) : Option (Int) :=
  if ((x1.length : Nat) : Int) = 0 then
    some 90
  else
    ref09_Check.L1 x0 x1 x2 N 0

set_option maxHeartbeats 8000000 in
theorem ref09_Check_any {N : Nat} {x0 : S_api_Shape} {x1 : (List Int)} {ax1 : Option Addr} {nx1 : Nat} {qx1 : Nat} {P1 : HP} {x2 : Int} {Fr : List HP} {w : World} {r : Int} {K : Value → World → Prop} (hrd1 : Reads P1 (pInt .i64) (.slice ax1 nx1 qx1) x1) (hc : Ctx w (P1 :: Fr)) (hp : ref09_Check N x0 x1 x2 = some r)
    (k : ∀ w', Ctx w' (P1 :: Fr) → K (.int .i64 r) w') : Calls Tryz.prog 27 #[.agg (S_api_Shape.cz x0).toArray, .slice ax1 nx1 qx1, .int .i64 x2] w (Ret K) := by
 unfold ref09_Check at hp; refine Center (args := [.agg (S_api_Shape.cz x0).toArray, .slice ax1 nx1 qx1, .int .i64 x2]) (l := [(0, .agg (S_api_Shape.cz x0).toArray), (1, .slice ax1 nx1 qx1), (2, .int .i64 x2)]) Tryz.func27 Tryz.ntmps27 rfl rfl rfl ?_; obtain ⟨hn1, _⟩ := Ctx.rdLen hc (k := 0) rfl rfl hrd1; subst hn1; refine Wseq (Wreg ?_); refine rsE (Ctx.boxOp (cs := (S_api_Shape.cz x0)) (v := .agg (S_api_Shape.cz x0).toArray) hc rfl rfl) rfl ?_; clear hc; rintro _ w3 ⟨b1, rfl, hc⟩; refine rA (.int .i64 0) rfl rfl ?_; refine rn (qn (Wseq (Wseq (Wreg ?_)))); refine rM (.slice ax1 x1.length qx1) rfl rfl ?_; refine rs (ln rfl Tryz.underlying27) rfl ?_; refine rs (eqd rfl rfl) rfl ?_; refine rn (qn ?_); cases hb4 : (decide (((x1.length : Nat) : Int) = 0))
 · replace hp := gneg hp (of_decide_eq_false hb4); refine Wcf rfl (Wskip (qn (Wseq (Wseq (Wreg ?_))))); refine rA (.int .i64 0) rfl rfl ?_; refine rn (qn (Wblk ?_)); refine Wloop [6, 7, 11, 12, 13, 14, 15, 16, 17, 18, 19, 20, 21, 22, 23, 24, 25, 26, 27, 28, 29, 30] [7] (fun m vs w' => ∃ j5 : Int, vs = [.int .i64 j5] ∧ ref09_Check.L1 x0 x1 x2 m j5 = some r ∧ Ctx w' (B b1 (S_api_Shape.cz x0) 30 :: P1 :: Fr)) N ?_ ?_
   · exact ⟨0, rfl, hp, hc⟩
   · clear hp hc; intro m vs u w6 hJ; obtain ⟨j5, rfl, hp, hc⟩ := hJ; rcases m with _ | m1
     · cases (show none = some r from hp)
     rw [ref09_Check.L1] at hp; refine Wseq (Wseq (Wreg ?_)); refine rM (.int .i64 j5) rfl rfl ?_; refine rM (.slice ax1 x1.length qx1) rfl rfl ?_; refine rs (ln rfl Tryz.underlying27) rfl ?_; refine rs (lt' rfl rfl) rfl ?_; refine rn (qn ?_); cases hb7 : (decide (j5 < ((x1.length : Nat) : Int)))
     · replace hp := gneg hp (of_decide_eq_false hb7); refine Wcf rfl (Wexit (qx (qx (be (qn (Wseq (Wseq (Wreg ?_)))))))); refine rM (.int .i64 x2) rfl rfl ?_; refine rs (lt' rfl rfl) rfl ?_; refine rn (qn ?_); cases hb8 : (decide (x2 < 1))
       · replace hp := gneg hp (of_decide_eq_false hb8); refine Wcf rfl (Wskip (qn (Wseq (Wseq (Wreg ?_))))); refine rM (.slice ax1 x1.length qx1) rfl rfl ?_; refine rs (ln rfl Tryz.underlying27) rfl ?_; refine rs (v := .pointer (some ⟨b1, 5, none⟩)) (fax 5 rfl Tryz.underlying30 rfl Tryz.sizeOf3 rfl rfl rfl) rfl ?_; refine rs (ld rfl Tryz.isAgg3 (Ctx.cell hc (k := 0) rfl rfl rfl)) rfl ?_; refine rs (gt' rfl rfl) rfl ?_; refine rM (.bool (decide (((x1.length : Nat) : Int) > x0.Places))) rfl rfl ?_; cases hb9 : (decide (((x1.length : Nat) : Int) > x0.Places))
         · replace hp := gneg hp (of_decide_eq_false hb9); refine rM (.int .i64 x2) rfl rfl ?_; refine rs (v := .pointer (some ⟨b1, 5, none⟩)) (fax 5 rfl Tryz.underlying30 rfl Tryz.sizeOf3 rfl rfl rfl) rfl ?_; refine rs (ld rfl Tryz.isAgg3 (Ctx.cell hc (k := 0) rfl rfl rfl)) rfl ?_; refine rM (.slice ax1 x1.length qx1) rfl rfl ?_; refine rs (ln rfl Tryz.underlying27) rfl ?_; refine rs (sbw rfl rfl) rfl ?_; refine rs (adw rfl rfl) rfl ?_; refine rs (gt' rfl rfl) rfl ?_; refine rs (v := .bool (decide (x2 > (IntKind.i64.wrap ((IntKind.i64.wrap (x0.Places - ((x1.length : Nat) : Int))) + 1))))) (pkf (v := .bool (decide (x2 > (IntKind.i64.wrap ((IntKind.i64.wrap (x0.Places - ((x1.length : Nat) : Int))) + 1))))) rfl rfl) rfl ?_; refine rn (qn ?_); cases hb10 : (decide (x2 > (IntKind.i64.wrap ((IntKind.i64.wrap (x0.Places - ((x1.length : Nat) : Int))) + 1))))
           · replace hp := gneg hp (of_decide_eq_false hb10); refine Wcf rfl (Wskip (qn (Wseq (Wreg ?_)))); refine rA (.int .i64 0) rfl rfl ?_; refine rn (qn (Wret ?_)); replace hc := Ctx.r0 hc; injection hp with hp; subst hp; refine f1 (v := .int .i64 0) Tryz.results27 Tryz.ntmps27 rfl ?_; exact ⟨_, rfl, k _ hc⟩
           · replace hp := gpos hp (of_decide_eq_true hb10); refine Wct rfl (Wseq (Wreg ?_)); refine rA (.int .i64 80) rfl rfl ?_; refine rn (qn (Wret (qr ?_))); replace hc := Ctx.r0 hc; injection hp with hp; subst hp; refine f1 (v := .int .i64 80) Tryz.results27 Tryz.ntmps27 rfl ?_; exact ⟨_, rfl, k _ hc⟩
         · replace hp := gpos hp (of_decide_eq_true hb9); (iterate 8 refine r0 rfl ?_); refine rs (v := .bool true) (pkt (v := .bool true) rfl rfl) rfl ?_; refine rn (qn (Wct rfl (Wseq (Wreg ?_)))); refine rA (.int .i64 80) rfl rfl ?_; refine rn (qn (Wret (qr ?_))); replace hc := Ctx.r0 hc; injection hp with hp; subst hp; refine f1 (v := .int .i64 80) Tryz.results27 Tryz.ntmps27 rfl ?_; exact ⟨_, rfl, k _ hc⟩
       · replace hp := gpos hp (of_decide_eq_true hb8); refine Wct rfl (Wseq (Wreg ?_)); refine rA (.int .i64 2) rfl rfl ?_; refine rn (qn (Wret (qr ?_))); replace hc := Ctx.r0 hc; injection hp with hp; subst hp; refine f1 (v := .int .i64 2) Tryz.results27 Tryz.ntmps27 rfl ?_; exact ⟨_, rfl, k _ hc⟩
     · replace hp := gpos hp (of_decide_eq_true hb7); refine Wct rfl (Wskip (qn (Wseq (Wblk (Wseq ?_))))); replace hc := hc.drew; refine Wdrw (fun _ w' => w' = World.drew w6) [0, 0, 3, 7, 15, 31, 63, 63, 255, 511, 63, 1087, 4095, 8191] 0 0 rfl (by kernel_rfl) (fun _ _ => rfl) ?_; generalize hw : World.drew w6 = w11 at *; clear hw; refine dM (.slice ax1 x1.length qx1) rfl rfl rfl ?_; refine dM (.int .i64 j5) rfl rfl rfl ?_; replace hp := bind_some hp; obtain ⟨y12, hy12, hp⟩ := hp; obtain ⟨b15, o16, u17, hi13, hi14⟩ := Ctx.rdAt hc (k := 1) rfl rfl hrd1 hy12; subst u17; refine dE (ixx rfl rfl Tryz.underlying27 Tryz.sizeOf3 hi13 hi14 rfl) rfl rfl ?_; replace hc := Ctx.rdCell hc (k := 1) rfl rfl hrd1 hy12; obtain ⟨cs18, hc, hcell19⟩ := hc; replace hc := Ctx.holdC hc; obtain ⟨u20, hc⟩ := hc; subst u20; refine dE (ld rfl Tryz.isAgg3 (hcell19 0 _ rfl)) rfl rfl ?_; refine dE (lt' rfl rfl) rfl rfl ?_; refine dM (.bool (decide (y12 < 0))) rfl rfl rfl ?_; cases hb21 : (decide (y12 < 0))
       · replace hp := gneg hp (of_decide_eq_false hb21); refine dM (.slice (some ⟨b15, o16, none⟩) x1.length qx1) rfl rfl rfl ?_; refine dM (.int .i64 j5) rfl rfl rfl ?_; replace hp := bind_some hp; obtain ⟨y22, hy22, hp⟩ := hp; obtain ⟨b25, o26, u27, hi23, hi24⟩ := Ctx.rdAt hc (k := 1) rfl rfl hrd1 hy22; clear u27; refine dE (ixx rfl rfl Tryz.underlying27 Tryz.sizeOf3 hi23 hi24 rfl) rfl rfl ?_; replace hc := Ctx.rdCell hc (k := 1) rfl rfl hrd1 hy22; obtain ⟨cs28, hc, hcell29⟩ := hc; replace hc := Ctx.holdC hc; obtain ⟨u30, hc⟩ := hc; subst u30; refine dE (ld rfl Tryz.isAgg3 (hcell29 0 _ rfl)) rfl rfl ?_; refine dE (v := .pointer (some ⟨b1, 4, none⟩)) (fax 4 rfl Tryz.underlying30 rfl Tryz.sizeOf3 rfl rfl rfl) rfl rfl ?_; refine dE (ld rfl Tryz.isAgg3 (Ctx.cell hc (k := 0) rfl rfl rfl)) rfl rfl ?_; refine dE (ge' rfl rfl) rfl rfl ?_; refine dE (v := .bool (decide (y22 ≥ x0.Vocab))) (pkf (v := .bool (decide (y22 ≥ x0.Vocab))) rfl rfl) rfl rfl ?_; refine dn (qn ?_); cases hb31 : (decide (y22 ≥ x0.Vocab))
         · replace hp := gneg hp (of_decide_eq_false hb31); refine Wcf rfl (Wskip (bn (qn (Wreg ?_)))); refine rM (.int .i64 j5) rfl rfl ?_; refine rs (adw rfl rfl) rfl ?_; refine rA (.int .i64 (IntKind.i64.wrap (j5 + 1))) rfl rfl ?_; refine rn (qn ?_); exact ⟨m1, Nat.lt_succ_self _, ⟨(IntKind.i64.wrap (j5 + 1)), rfl, hp, hc⟩, (kl rfl k0)⟩
         · replace hp := gpos hp (of_decide_eq_true hb31); refine Wct rfl (Wseq (Wreg ?_)); refine rA (.int .i64 2) rfl rfl ?_; refine rn (qn (Wret (br (qr (qr (br (qr ?_))))))); replace hc := Ctx.r0 hc; injection hp with hp; subst hp; refine f1 (v := .int .i64 2) Tryz.results27 Tryz.ntmps27 rfl ?_; exact ⟨_, rfl, k _ hc⟩
       · replace hp := gpos hp (of_decide_eq_true hb21); (iterate 7 refine d0 rfl rfl ?_); refine dE (v := .bool true) (pkt (v := .bool true) rfl rfl) rfl rfl ?_; refine dn (qn (Wct rfl (Wseq (Wreg ?_)))); refine rA (.int .i64 2) rfl rfl ?_; refine rn (qn (Wret (br (qr (qr (br (qr ?_))))))); replace hc := Ctx.r0 hc; injection hp with hp; subst hp; refine f1 (v := .int .i64 2) Tryz.results27 Tryz.ntmps27 rfl ?_; exact ⟨_, rfl, k _ hc⟩
 · replace hp := gpos hp (of_decide_eq_true hb4); refine Wct rfl (Wseq (Wreg ?_)); refine rA (.int .i64 90) rfl rfl ?_; refine rn (qn (Wret (qr ?_))); replace hc := Ctx.r0 hc; injection hp with hp; subst hp; refine f1 (v := .int .i64 90) Tryz.results27 Tryz.ntmps27 rfl ?_; exact ⟨_, rfl, k _ hc⟩

def gen_Talk_Said (x0 : S_gen_Talk) : Option ((List Int)) :=
  (slices_Clone_s_int_int x0.said).bind fun r6 =>
  some r6

set_option maxHeartbeats 8000000 in
theorem gen_Talk_Said_any {b0 : Nat} {x0 : S_gen_Talk} {Fr : List HP} {w : World} {r : (List Int)} {K : Value → World → Prop}  (hc : Ctx w (S_gen_Talk.hp b0 x0 :: Fr)) (hp : gen_Talk_Said x0 = some r)
    (k : ∀ (a12 : Option Addr) (n13 : Nat) (q14 : Nat) w', Ctx w' (Own (pInt .i64) 3 (.slice a12 n13 q14) r :: S_gen_Talk.hp b0 x0 :: Fr) → K (.slice a12 n13 q14) w') : Calls Tryz.prog 32 #[.pointer (some ⟨b0, 0, none⟩)] w (Ret K) := by
 unfold gen_Talk_Said at hp; refine Center (args := [.pointer (some ⟨b0, 0, none⟩)]) (l := [(0, .pointer (some ⟨b0, 0, none⟩))]) Tryz.func32 Tryz.ntmps32 rfl rfl rfl ?_; refine Wseq (Wreg ?_); refine rA (.slice none 0 0) rfl rfl ?_; refine rn (qn (Wseq (Wreg ?_))); refine rM (.pointer (some ⟨b0, 0, none⟩)) rfl rfl ?_; refine rs (nl rfl) rfl ?_; refine rs (v := .pointer (some ⟨b0, 2, none⟩)) (fax 2 rfl Tryz.underlying117 rfl Tryz.sizeOf27 rfl rfl rfl) rfl ?_; replace hc := S_gen_Talk.uf hc; obtain ⟨v1, a2, q3, a4, q5, hc⟩ := hc; refine rs (ld rfl Tryz.isAgg27 (Ctx.cell hc (k := 0) rfl rfl rfl)) rfl ?_; replace hp := bind_some hp; obtain ⟨r6, hr6, hp⟩ := hp; replace hc := Ctx.p3 hc; refine rc (cl Tryz.call51 rfl rfl) rfl ?_; refine slices_Clone_s_int_int_any reads_own hc hr6 ?_; clear hc; intro a7 n8 q9 w10 hc; obtain ⟨u11, _⟩ := Ctx.rdLen hc (k := 0) rfl rfl reads_own; subst u11; refine rA (.slice a7 r6.length q9) rfl rfl ?_; refine rn (qn (Wret ?_)); replace hc := Ctx.p4 (Ctx.p4 (Ctx.p4 (Ctx.p1 hc))); replace hc := S_gen_Talk.fd (x := x0) hc; replace hc := Ctx.p1 hc; injection hp with hp; subst hp; refine f1 (v := .slice a7 r6.length q9) Tryz.results32 Tryz.ntmps32 rfl ?_; exact ⟨_, rfl, k _ _ _ _ hc⟩

def law09_GenTalks.J2 (j77 : Int) (r90 : (Int × Bool × S_gen_Talk)) (k1 : S_gen_Talk → Int → Option (Bool)) (j92 : Bool) : Option (Bool) :=
  if j92 = true then
    some false
  else
    k1 r90.2.2 (IntKind.i64.wrap (j77 + 1))

def law09_GenTalks.L1 (N : Nat) (e66 : Int) (r67 : ((List Int))) (e75 : Int) : Nat → S_gen_Talk → Int → Option (Bool)
  | 0, _, _ => none
  | m1 + 1, j76, j77 =>
    if j77 < e75 then
      (gen_Talk_Next N j76).bind fun r90 =>
      if (!(r90.2.1 == (decide (j77 < e66)))) = true then
        law09_GenTalks.J2 j77 r90 (law09_GenTalks.L1 N e66 r67 e75 m1) true
      else
        if r90.2.1 = true then
          (idx r67 j77).bind fun y95 =>
          if r90.1 ≠ y95 then
            law09_GenTalks.J2 j77 r90 (law09_GenTalks.L1 N e66 r67 e75 m1) true
          else
            law09_GenTalks.J2 j77 r90 (law09_GenTalks.L1 N e66 r67 e75 m1) false
        else
          law09_GenTalks.J2 j77 r90 (law09_GenTalks.L1 N e66 r67 e75 m1) (decide (r90.1 ≠ 0))
    else
      (gen_Talk_Said j76).bind fun r80 =>
      chk (0 ≤ (min e75 e66) ∧ (min e75 e66) ≤ ((r67.length : Nat) : Int)) <|
      (ref09_Ints N r80 (r67.take ((min e75 e66)).toNat)).bind fun r88 =>
      some r88

def law09_GenTalks (N : Nat) (x0 : S_law09_Seeds) (x1 : (List Int)) (x2 : Int) : Option (Bool) :=
  (law09_awake N).bind fun r8 =>
  if r8 = true then
    if ((x1.length : Nat) : Int) > 20 then
      (law09_awake N).bind fun r109 =>
      some r109
    else
      if ((x0.Xs.length : Nat) : Int) > 2000 then
        (law09_awake N).bind fun r107 =>
        some r107
      else
        (law09_made N (⟨(⟨x0.N.c0, x0.N.c1, x0.N.c2, x0.N.c3, x0.N.c4, x0.N.c5⟩ : A6_i64), x0.Seed, x0.Xs⟩ : S_law09_Seeds)).bind fun r15 =>
        optc r15.1 (
          some false) fun y39 =>
          (gen_Begin N r15.1 x1).bind fun r53 =>
          (ref09_Check N (⟨r15.2.Shape.Layers, r15.2.Shape.Width, r15.2.Shape.Heads, r15.2.Shape.Inner, r15.2.Shape.Vocab, r15.2.Shape.Places⟩ : S_api_Shape) x1 1).bind fun r56 =>
          if r53.2 ≠ r56 then
            some false
          else
            optc r53.1 (
              if (!(true == (decide (r56 ≠ 0)))) = true then
                some false
              else
                some true) fun y60 =>
            if (!(false == (decide (r56 ≠ 0)))) = true then
              some false
            else
              (some (IntKind.i64.wrap ((IntKind.i64.wrap (r15.2.Shape.Places - ((x1.length : Nat) : Int))) + 1))).bind fun e66 =>
              (ref09_Generate N (⟨(⟨r15.2.Shape.Layers, r15.2.Shape.Width, r15.2.Shape.Heads, r15.2.Shape.Inner, r15.2.Shape.Vocab, r15.2.Shape.Places⟩ : S_api_Shape), (⟨r15.2.Embed.Rows, r15.2.Embed.Cols, r15.2.Embed.V⟩ : S_api_Mat), r15.2.Blocks, r15.2.Last, (⟨r15.2.Head.Rows, r15.2.Head.Cols, r15.2.Head.V⟩ : S_api_Mat)⟩ : S_api_Weights) x1 e66).bind fun r67 =>
              chk ((IntKind.i64.wrap (e66 + 3)) ≠ 0) <|
              chk ((IntKind.i64.wrap (e66 + 3)) ≠ 0) <|
              (some (Int.tmod (IntKind.i64.wrap ((IntKind.i64.wrap ((Int.tmod x2 (IntKind.i64.wrap (e66 + 3))) + e66)) + 3)) (IntKind.i64.wrap (e66 + 3)))).bind fun e75 =>
              law09_GenTalks.L1 N e66 r67 e75 N y60 0
  else
    (law09_awake N).bind fun r11 =>
    some r11

set_option maxHeartbeats 8000000 in
theorem law09_GenTalks_any {N : Nat} {x0 : S_law09_Seeds} {a1 : Option Addr} {n2 : Nat} {q3 : Nat} {x1 : (List Int)} {ax1 : Option Addr} {nx1 : Nat} {qx1 : Nat} {x2 : Int} {Fr : List HP} {w : World} {r : Bool} {K : Value → World → Prop}  (hc : Ctx w (Hold (pRo (pInt .i8)) [.slice a1 n2 q3] x0.Xs :: Hold (pRo (pInt .i64)) [.slice ax1 nx1 qx1] x1 :: Fr)) (hp : law09_GenTalks N x0 x1 x2 = some r)
    (k : ∀ w', Ctx w' (Fr) → K (.bool r) w') : Calls Tryz.prog 7 #[.agg #[.int .i64 x0.N.c0, .int .i64 x0.N.c1, .int .i64 x0.N.c2, .int .i64 x0.N.c3, .int .i64 x0.N.c4, .int .i64 x0.N.c5, .int .u64 x0.Seed, .slice a1 n2 q3], .slice ax1 nx1 qx1, .int .i64 x2] w (Ret K) := by
 unfold law09_GenTalks at hp; refine Center (args := [.agg #[.int .i64 x0.N.c0, .int .i64 x0.N.c1, .int .i64 x0.N.c2, .int .i64 x0.N.c3, .int .i64 x0.N.c4, .int .i64 x0.N.c5, .int .u64 x0.Seed, .slice a1 n2 q3], .slice ax1 nx1 qx1, .int .i64 x2]) (l := [(0, .agg #[.int .i64 x0.N.c0, .int .i64 x0.N.c1, .int .i64 x0.N.c2, .int .i64 x0.N.c3, .int .i64 x0.N.c4, .int .i64 x0.N.c5, .int .u64 x0.Seed, .slice a1 n2 q3]), (1, .slice ax1 nx1 qx1), (2, .int .i64 x2)]) Tryz.func7 Tryz.ntmps7 rfl rfl rfl ?_; obtain ⟨hn1, _⟩ := Ctx.rdLen hc (k := 1) rfl rfl reads_ro; subst hn1; obtain ⟨u4, _⟩ := Ctx.rdLen hc (k := 0) rfl rfl reads_ro; subst u4; refine Wseq (Wreg ?_); refine rsE (Ctx.boxOp (cs := (S_law09_Seeds.cz x0 a1 q3)) (v := .agg (S_law09_Seeds.cz x0 a1 q3).toArray) hc rfl rfl) rfl ?_; clear hc; rintro _ w7 ⟨b5, rfl, hc⟩; refine rA (.bool false) rfl rfl ?_; refine rn (qn (Wseq (Wseq (Wreg ?_)))); replace hp := bind_some hp; obtain ⟨r8, hr8, hp⟩ := hp; refine rc (cl Tryz.call24 rfl rfl) rfl ?_; refine law09_awake_any hc hr8 ?_; clear hc; intro w9 hc; cases hb10 : r8
 · replace hp := gneg hp (by rw [hb10]; exact Bool.false_ne_true); subst hb10; refine rs (ntf rfl) rfl ?_; refine rM (.bool true) rfl rfl ?_; (iterate 3 refine r0 rfl ?_); refine rs (v := .bool true) (pkt (v := .bool true) rfl rfl) rfl ?_; refine rM (.bool true) rfl rfl ?_; (iterate 4 refine r0 rfl ?_); refine rs (v := .bool true) (pkt (v := .bool true) rfl rfl) rfl ?_; refine rn (qn (Wct rfl (Wseq (Wreg ?_)))); replace hp := bind_some hp; obtain ⟨r11, hr11, hp⟩ := hp; refine rc (cl Tryz.call24 rfl rfl) rfl ?_; refine law09_awake_any hc hr11 ?_; clear hc; intro w12 hc; refine rA (.bool r11) rfl rfl ?_; refine rn (qn (Wret (qr ?_))); replace hc := Ctx.r0 (Ctx.r1 (Ctx.r2 hc)); injection hp with hp; subst hp; refine f1 (v := .bool r11) Tryz.results7 Tryz.ntmps7 rfl ?_; exact ⟨_, rfl, k _ hc⟩
 · replace hp := gpos hp hb10; subst hb10; refine rs (ntt rfl) rfl ?_; refine rM (.bool false) rfl rfl ?_; refine rM (.slice ax1 x1.length qx1) rfl rfl ?_; refine rs (ln rfl Tryz.underlying27) rfl ?_; refine rs (gt' rfl rfl) rfl ?_; refine rs (v := .bool (decide (((x1.length : Nat) : Int) > 20))) (pkf (v := .bool (decide (((x1.length : Nat) : Int) > 20))) rfl rfl) rfl ?_; refine rM (.bool (decide (((x1.length : Nat) : Int) > 20))) rfl rfl ?_; cases hb13 : (decide (((x1.length : Nat) : Int) > 20))
   · replace hp := gneg hp (of_decide_eq_false hb13); refine rs (v := .pointer (some ⟨b5, 7, none⟩)) (fax 7 rfl Tryz.underlying73 rfl Tryz.sizeOf24 rfl rfl rfl) rfl ?_; refine rs (ld rfl Tryz.isAgg24 (Ctx.cell hc (k := 0) rfl rfl rfl)) rfl ?_; refine rs (ln rfl Tryz.underlying24) rfl ?_; refine rs (gt' rfl rfl) rfl ?_; refine rs (v := .bool (decide (((x0.Xs.length : Nat) : Int) > 2000))) (pkf (v := .bool (decide (((x0.Xs.length : Nat) : Int) > 2000))) rfl rfl) rfl ?_; refine rn (qn ?_); cases hb14 : (decide (((x0.Xs.length : Nat) : Int) > 2000))
     · replace hp := gneg hp (of_decide_eq_false hb14); refine Wcf rfl (Wskip (qn (Wseq (Wreg ?_)))); refine rs (v := .agg (S_law09_Seeds.cz x0 a1 q3).toArray) (ldg rfl Tryz.isAgg73 Tryz.sizeOf73 rfl (Ctx.cells hc (k := 0) rfl rfl 0 (vs := (S_law09_Seeds.cz x0 a1 q3)) rfl)) rfl ?_; replace hc := hc.dup (k := 1) rfl rfl; replace hp := bind_some hp; obtain ⟨r15, hr15, hp⟩ := hp; refine rc (cl Tryz.call25 rfl rfl) rfl ?_; refine law09_made_any (x0 := x0) hc hr15 ?_; clear hc; intro v16 a17 n18 q19 a20 n21 q22 a23 n24 q25 a26 n27 q28 w29 hc; obtain ⟨u30, _⟩ := Ctx.rdLen hc (k := 1) rfl rfl reads_ro; subst u30; obtain ⟨u31, _⟩ := Ctx.rdLen hc (k := 2) rfl rfl reads_ro; subst u31; obtain ⟨u32, _⟩ := Ctx.rdLen hc (k := 3) rfl rfl reads_ro; subst u32; obtain ⟨u33, _⟩ := Ctx.rdLen hc (k := 4) rfl rfl reads_ro; subst u33; refine rM (.tuple #[v16, .agg (S_api_Weights.cz r15.2 a17 q19 a20 q22 a23 q25 a26 q28).toArray]) rfl rfl ?_; refine rs (ext (v := v16) rfl rfl) rfl ?_; refine rs (ext (v := .agg (S_api_Weights.cz r15.2 a17 q19 a20 q22 a23 q25 a26 q28).toArray) rfl rfl) rfl ?_; refine rsE (Ctx.allocOp (cs := [.int .i64 0, .int .i64 0, .int .i64 0, .int .i64 0, .int .i64 0, .int .i64 0, .int .i64 0, .int .i64 0, .slice none 0 0, .slice none 0 0, .slice none 0 0, .int .i64 0, .int .i64 0, .slice none 0 0]) hc Tryz.zeroValue35 rfl) rfl ?_; clear hc; rintro _ w36 ⟨b34, rfl, hc⟩; refine rA (v16) rfl rfl ?_; refine ruE (Ctx.putAgg hc (k := 0) rfl rfl (vs := (S_api_Weights.cz r15.2 a17 q19 a20 q22 a23 q25 a26 q28)) (cs' := (S_api_Weights.cz r15.2 a17 q19 a20 q22 a23 q25 a26 q28)) rfl rfl rfl Tryz.sizeOf35 rfl rfl rfl) rfl ?_; clear hc; rintro w37 hc; replace hc := Ctx.n0 hc; refine rn (qn (Wseq (Wseq (Wreg ?_)))); refine rM (v16) rfl rfl ?_; cases hb38 : r15.1
       · replace hp := optN hp hb38; replace hc := Ctx.p1 hc; rw [hb38] at hc; replace hc := Ctx.poE hc; obtain ⟨u40, hc⟩ := hc; subst u40; refine rs (v := .bool true) (ept Tryz.underlying37 rfl rfl) rfl ?_; refine rn (qn (Wct rfl (Wseq (Wreg ?_)))); refine rA (.bool false) rfl rfl ?_; refine rn (qn (Wret (qr ?_))); replace hc := Ctx.r0 (Ctx.r1 (Ctx.r2 (Ctx.r3 (Ctx.r4 (Ctx.r5 (Ctx.r6 (Ctx.r7 hc))))))); injection hp with hp; subst hp; refine f1 (v := .bool false) Tryz.results7 Tryz.ntmps7 rfl ?_; exact ⟨_, rfl, k _ hc⟩
       · rename_i y39; replace hp := optS hp hb38; replace hc := Ctx.p1 hc; replace hc := Ctx.poF hc hb38; obtain ⟨b41, cs42, u43, hc⟩ := hc; subst u43; replace hc := S_model_Model.op hc; obtain ⟨a45, q46, a47, q48, a49, q50, a51, q52, u44, hc⟩ := hc; subst u44; refine rs (v := .bool false) (epf Tryz.underlying37 rfl rfl) rfl ?_; refine rn (qn (Wcf rfl (Wskip (qn (Wseq (Wreg ?_)))))); refine rM (.pointer (some ⟨b41, 0, none⟩)) rfl rfl ?_; refine rM (.slice ax1 x1.length qx1) rfl rfl ?_; replace hc := hc.dup (k := 5) rfl rfl; replace hc := hc.dup (k := 14) rfl rfl; replace hp := bind_some hp; obtain ⟨r53, hr53, hp⟩ := hp; replace hc := Ctx.p1 hc; refine rc (cl Tryz.call30 rfl rfl) rfl ?_; refine gen_Begin_any reads_ro hc hr53 ?_; clear hc; intro v54 w55 hc; refine rM (.tuple #[v54, .int .i64 r53.2]) rfl rfl ?_; refine rs (ext (v := v54) rfl rfl) rfl ?_; refine rs (ext (v := .int .i64 r53.2) rfl rfl) rfl ?_; refine rA (v54) rfl rfl ?_; refine rA (.int .i64 r53.2) rfl rfl ?_; refine rn (qn (Wseq (Wreg ?_))); refine rs (v := .pointer (some ⟨b34, 0, none⟩)) (fax 0 rfl Tryz.underlying35 rfl Tryz.sizeOf30 rfl rfl rfl) rfl ?_; refine rs (v := .agg #[.int .i64 r15.2.Shape.Layers, .int .i64 r15.2.Shape.Width, .int .i64 r15.2.Shape.Heads, .int .i64 r15.2.Shape.Inner, .int .i64 r15.2.Shape.Vocab, .int .i64 r15.2.Shape.Places]) (ldg rfl Tryz.isAgg30 Tryz.sizeOf30 rfl (Ctx.cells hc (k := 8) rfl rfl 0 (vs := [.int .i64 r15.2.Shape.Layers, .int .i64 r15.2.Shape.Width, .int .i64 r15.2.Shape.Heads, .int .i64 r15.2.Shape.Inner, .int .i64 r15.2.Shape.Vocab, .int .i64 r15.2.Shape.Places]) rfl)) rfl ?_; refine rM (.slice ax1 x1.length qx1) rfl rfl ?_; replace hc := hc.dup (k := 15) rfl rfl; replace hp := bind_some hp; obtain ⟨r56, hr56, hp⟩ := hp; refine rc (cl Tryz.call27 rfl rfl) rfl ?_; refine ref09_Check_any (x0 := (⟨r15.2.Shape.Layers, r15.2.Shape.Width, r15.2.Shape.Heads, r15.2.Shape.Inner, r15.2.Shape.Vocab, r15.2.Shape.Places⟩ : S_api_Shape)) reads_ro hc hr56 ?_; clear hc; intro w57 hc; refine rA (.int .i64 r56) rfl rfl ?_; refine rn (qn (Wseq (Wseq (Wreg ?_)))); refine rM (.int .i64 r53.2) rfl rfl ?_; refine rM (.int .i64 r56) rfl rfl ?_; refine rs (ned rfl rfl) rfl ?_; refine rM (.bool (decide (r53.2 ≠ r56))) rfl rfl ?_; cases hb58 : (decide (r53.2 ≠ r56))
         · replace hp := gneg hp (of_decide_eq_false hb58); refine rM (v54) rfl rfl ?_; replace hc := Ctx.p1 hc; cases hb59 : r53.1
           · replace hp := optN hp hb59; rw [hb59] at hc; replace hc := Ctx.ptoN hc; obtain ⟨u61, hc⟩ := hc; subst u61; refine rs (v := .bool true) (ept Tryz.underlying82 rfl rfl) rfl ?_; refine rM (.int .i64 r56) rfl rfl ?_; refine rs (ned rfl rfl) rfl ?_; refine rs (v := .bool (!(true == (decide (r56 ≠ 0))))) (neb Tryz.underlying4 rfl rfl) rfl ?_; refine rs (v := .bool (!(true == (decide (r56 ≠ 0))))) (pkf (v := .bool (!(true == (decide (r56 ≠ 0))))) rfl rfl) rfl ?_; refine rn (qn ?_); cases hb62 : (!(true == (decide (r56 ≠ 0))))
             · replace hp := gneg hp (by rw [hb62]; exact Bool.false_ne_true); refine Wcf rfl (Wskip (qn (Wseq (Wseq (Wreg ?_))))); refine rM (.pointer none) rfl rfl ?_; refine rs (v := .bool true) (ept Tryz.underlying82 rfl rfl) rfl ?_; refine rn (qn (Wct rfl (Wseq (Wreg ?_)))); refine rA (.bool true) rfl rfl ?_; refine rn (qn (Wret (qr ?_))); replace hc := Ctx.r4 (Ctx.r5 (Ctx.r6 (Ctx.r7 (Ctx.r8 (Ctx.r9 (Ctx.r10 (Ctx.r11 (Ctx.r12 (Ctx.r13 (Ctx.r14 (Ctx.r15 hc))))))))))); replace hc := Ctx.r0 (Ctx.r1 (Ctx.r2 (Ctx.r3 hc))); injection hp with hp; subst hp; refine f1 (v := .bool true) Tryz.results7 Tryz.ntmps7 rfl ?_; exact ⟨_, rfl, k _ hc⟩
             · replace hp := gpos hp hb62; refine Wct rfl (Wseq (Wreg ?_)); refine rA (.bool false) rfl rfl ?_; refine rn (qn (Wret (qr ?_))); replace hc := Ctx.r4 (Ctx.r5 (Ctx.r6 (Ctx.r7 (Ctx.r8 (Ctx.r9 (Ctx.r10 (Ctx.r11 (Ctx.r12 (Ctx.r13 (Ctx.r14 (Ctx.r15 hc))))))))))); replace hc := Ctx.r0 (Ctx.r1 (Ctx.r2 (Ctx.r3 hc))); injection hp with hp; subst hp; refine f1 (v := .bool false) Tryz.results7 Tryz.ntmps7 rfl ?_; exact ⟨_, rfl, k _ hc⟩
           · rename_i y60; replace hp := optS hp hb59; rw [hb59] at hc; replace hc := Ctx.ptoS hc; obtain ⟨b63, u64, hc⟩ := hc; subst u64; refine rs (v := .bool false) (epf Tryz.underlying82 rfl rfl) rfl ?_; refine rM (.int .i64 r56) rfl rfl ?_; refine rs (ned rfl rfl) rfl ?_; refine rs (v := .bool (!(false == (decide (r56 ≠ 0))))) (neb Tryz.underlying4 rfl rfl) rfl ?_; refine rs (v := .bool (!(false == (decide (r56 ≠ 0))))) (pkf (v := .bool (!(false == (decide (r56 ≠ 0))))) rfl rfl) rfl ?_; refine rn (qn ?_); cases hb65 : (!(false == (decide (r56 ≠ 0))))
             · replace hp := gneg hp (by rw [hb65]; exact Bool.false_ne_true); refine Wcf rfl (Wskip (qn (Wseq (Wseq (Wreg ?_))))); refine rM (.pointer (some ⟨b63, 0, none⟩)) rfl rfl ?_; refine rs (v := .bool false) (epf Tryz.underlying82 rfl rfl) rfl ?_; refine rn (qn (Wcf rfl (Wskip (qn (Wseq (Wreg ?_)))))); refine rs (v := .pointer (some ⟨b34, 0, none⟩)) (fax 0 rfl Tryz.underlying35 rfl Tryz.sizeOf30 rfl rfl rfl) rfl ?_; refine rs (v := .pointer (some ⟨b34, 5, none⟩)) (fax 5 rfl Tryz.underlying30 rfl Tryz.sizeOf3 rfl rfl rfl) rfl ?_; refine rs (ld rfl Tryz.isAgg3 (Ctx.cell hc (k := 9) rfl rfl rfl)) rfl ?_; refine rM (.slice ax1 x1.length qx1) rfl rfl ?_; refine rs (ln rfl Tryz.underlying27) rfl ?_; refine rs (sbw rfl rfl) rfl ?_; refine rs (adw rfl rfl) rfl ?_; replace hp := bind_some hp; obtain ⟨e66, he66, hp⟩ := hp; injection he66 with he66; refine rs (v := .int .i64 e66) (av (v := .int .i64 e66) (by rw [← he66]; rfl)) rfl ?_; refine rn (qn (Wseq (Wreg ?_))); refine rs (v := .agg (S_api_Weights.cz r15.2 a17 q19 a20 q22 a23 q25 a26 q28).toArray) (ldg rfl Tryz.isAgg35 Tryz.sizeOf35 rfl (Ctx.cells hc (k := 9) rfl rfl 0 (vs := (S_api_Weights.cz r15.2 a17 q19 a20 q22 a23 q25 a26 q28)) rfl)) rfl ?_; refine rM (.slice ax1 x1.length qx1) rfl rfl ?_; refine rM (.int .i64 e66) rfl rfl ?_; replace hc := hc.dup (k := 10) rfl rfl; replace hc := hc.dup (k := 12) rfl rfl; replace hc := hc.dup (k := 14) rfl rfl; replace hc := hc.dup (k := 16) rfl rfl; replace hc := hc.dup (k := 20) rfl rfl; replace hp := bind_some hp; obtain ⟨r67, hr67, hp⟩ := hp; replace hc := Ctx.p4 (Ctx.p3 (Ctx.p2 (Ctx.p1 hc))); refine rc (cl Tryz.call29 rfl rfl) rfl ?_; refine ref09_Generate_any (x0 := (⟨(⟨r15.2.Shape.Layers, r15.2.Shape.Width, r15.2.Shape.Heads, r15.2.Shape.Inner, r15.2.Shape.Vocab, r15.2.Shape.Places⟩ : S_api_Shape), r15.2.Embed, r15.2.Blocks, r15.2.Last, r15.2.Head⟩ : S_api_Weights)) hc hr67 ?_; clear hc; intro a68 n69 q70 w71 hc; obtain ⟨u72, _⟩ := Ctx.rdLen hc (k := 0) rfl rfl reads_own; subst u72; refine rA (.slice a68 r67.length q70) rfl rfl ?_; refine rn (qn (Wseq (Wreg ?_))); refine rM (.int .i64 x2) rfl rfl ?_; refine rM (.int .i64 e66) rfl rfl ?_; refine rs (adw rfl rfl) rfl ?_; replace hp := chk_some hp; obtain ⟨hg73, hp⟩ := hp; refine rs (rm rfl rfl hg73) rfl ?_; refine rM (.int .i64 e66) rfl rfl ?_; refine rs (adw rfl rfl) rfl ?_; refine rs (adw rfl rfl) rfl ?_; refine rM (.int .i64 e66) rfl rfl ?_; refine rs (adw rfl rfl) rfl ?_; replace hp := chk_some hp; obtain ⟨hg74, hp⟩ := hp; refine rs (rm rfl rfl hg74) rfl ?_; replace hp := bind_some hp; obtain ⟨e75, he75, hp⟩ := hp; injection he75 with he75; refine rs (v := .int .i64 e75) (av (v := .int .i64 e75) (by rw [← he75]; rfl)) rfl ?_; refine rn (qn (Wseq (Wseq (Wreg ?_)))); refine rA (.int .i64 0) rfl rfl ?_; refine rn (qn (Wblk ?_)); replace hc := Ctx.r5 (Ctx.r6 (Ctx.r7 (Ctx.r8 (Ctx.r9 (Ctx.r10 (Ctx.r11 (Ctx.r12 (Ctx.r13 (Ctx.r14 (Ctx.r15 (Ctx.r16 hc))))))))))); replace hc := Ctx.r2 (Ctx.r3 (Ctx.r4 hc)); refine Wloop (6 :: 15 :: 16 :: 17 :: 83 :: 84 :: 85 :: 86 :: 87 :: 88 :: 89 :: 90 :: 91 :: 92 :: 93 :: 94 :: 95 :: 96 :: 97 :: 98 :: 99 :: 100 :: 101 :: 102 :: 103 :: 104 :: 105 :: 106 :: 107 :: 108 :: 109 :: 110 :: 111 :: 112 :: 113 :: 114 :: 115 :: 116 :: []) [15] (fun m vs w' => ∃ j76 : S_gen_Talk, ∃ j77 : Int, vs = [.int .i64 j77] ∧ law09_GenTalks.L1 N e66 r67 e75 m j76 j77 = some r ∧ Ctx w' (Own (pInt .i64) 3 (.slice a68 r67.length q70) r67 :: S_gen_Talk.hp b63 j76 :: Hold (pRo (pInt .i64)) [.slice ax1 x1.length qx1] x1 :: Fr)) N ?_ ?_
               · exact ⟨y60, 0, rfl, hp, hc⟩
               · clear hp hc; intro m vs u w78 hJ; obtain ⟨j76, j77, rfl, hp, hc⟩ := hJ; rcases m with _ | m1
                 · cases (show none = some r from hp)
                 rw [law09_GenTalks.L1] at hp; refine Wseq (Wseq (Wreg ?_)); refine rM (.int .i64 j77) rfl rfl ?_; refine rM (.int .i64 e75) rfl rfl ?_; refine rs (lt' rfl rfl) rfl ?_; refine rn (qn ?_); cases hb79 : (decide (j77 < e75))
                 · replace hp := gneg hp (of_decide_eq_false hb79); refine Wcf rfl (Wexit (qx (qx (be (qn (Wseq (Wreg ?_))))))); refine rM (.pointer (some ⟨b63, 0, none⟩)) rfl rfl ?_; replace hp := bind_some hp; obtain ⟨r80, hr80, hp⟩ := hp; replace hc := Ctx.p1 hc; refine rc (cl Tryz.call32 rfl rfl) rfl ?_; refine gen_Talk_Said_any hc hr80 ?_; clear hc; intro a81 n82 q83 w84 hc; obtain ⟨u85, _⟩ := Ctx.rdLen hc (k := 0) rfl rfl reads_own; subst u85; refine rA (.slice a81 r80.length q83) rfl rfl ?_; refine rn (qn (Wseq (Wreg ?_))); refine rM (.slice a81 r80.length q83) rfl rfl ?_; refine rM (.slice a68 r67.length q70) rfl rfl ?_; refine rM (.int .i64 e75) rfl rfl ?_; refine rM (.int .i64 e66) rfl rfl ?_; refine rs (v := .int .i64 (min e75 e66)) (bmn rfl rfl Tryz.underlying3) rfl ?_; replace hp := chk_some hp; obtain ⟨hg86, hp⟩ := hp; refine rsE (Ctx.subOp0 (hv := (min e75 e66)) hc (k := 2) rfl rfl reads_own rfl ⟨_, rfl⟩ Tryz.underlying27 Tryz.sizeOf3 hg86) rfl ?_; rintro _ _ ⟨rfl, rfl, rd87⟩; replace hp := bind_some hp; obtain ⟨r88, hr88, hp⟩ := hp; replace hc := Ctx.p1 (Ctx.p2 hc); refine rc (cl Tryz.call28 rfl rfl) rfl ?_; refine ref09_Ints_any reads_own rd87 hc hr88 ?_; clear hc; intro w89 hc; refine rA (.bool r88) rfl rfl ?_; refine rn (qn (Wret ?_)); replace hc := Ctx.r0 (Ctx.r1 (Ctx.r2 (Ctx.r3 hc))); injection hp with hp; subst hp; refine f1 (v := .bool r88) Tryz.results7 Tryz.ntmps7 rfl ?_; exact ⟨_, rfl, k _ hc⟩
                 · replace hp := gpos hp (of_decide_eq_true hb79); refine Wct rfl (Wskip (qn (Wseq (Wblk (Wseq (Wreg ?_)))))); refine rM (.pointer (some ⟨b63, 0, none⟩)) rfl rfl ?_; replace hp := bind_some hp; obtain ⟨r90, hr90, hp⟩ := hp; replace hc := Ctx.p1 hc; refine rc (cl Tryz.call31 rfl rfl) rfl ?_; refine gen_Talk_Next_any hc hr90 ?_; clear hc; intro w91 hc; refine rM (.tuple #[.int .i64 r90.1, .bool r90.2.1]) rfl rfl ?_; refine rs (ext (v := .int .i64 r90.1) rfl rfl) rfl ?_; refine rs (ext (v := .bool r90.2.1) rfl rfl) rfl ?_; refine rA (.int .i64 r90.1) rfl rfl ?_; refine rA (.bool r90.2.1) rfl rfl ?_; refine rn (qn ?_); refine Wseqm [93, 94, 95, 96, 97, 98, 99, 100, 101, 102, 103, 104, 105, 106, 107, 108, 109, 110, 111, 112, 113, 114, 115, 116] [116] (fun vs w' => ∃ j92 : Bool, vs = [.bool j92] ∧ law09_GenTalks.J2 j77 r90 (law09_GenTalks.L1 N e66 r67 e75 m1) j92 = some r ∧ Ctx w' (S_gen_Talk.hp b63 r90.2.2 :: Own (pInt .i64) 3 (.slice a68 r67.length q70) r67 :: Hold (pRo (pInt .i64)) [.slice ax1 x1.length qx1] x1 :: Fr)) ?_ ?_
                   · refine Wreg ?_; refine rM (.bool r90.2.1) rfl rfl ?_; refine rM (.int .i64 j77) rfl rfl ?_; refine rM (.int .i64 e66) rfl rfl ?_; refine rs (lt' rfl rfl) rfl ?_; refine rs (v := .bool (!(r90.2.1 == (decide (j77 < e66))))) (neb Tryz.underlying4 rfl rfl) rfl ?_; refine rM (.bool (!(r90.2.1 == (decide (j77 < e66))))) rfl rfl ?_; cases hb93 : (!(r90.2.1 == (decide (j77 < e66))))
                     · replace hp := gneg hp (by rw [hb93]; exact Bool.false_ne_true); refine rM (.bool r90.2.1) rfl rfl ?_; refine rM (.bool r90.2.1) rfl rfl ?_; cases hb94 : r90.2.1
                       · replace hp := gneg hp (by rw [hb94]; exact Bool.false_ne_true); (iterate 6 refine r0 rfl ?_); refine rs (v := .bool false) (pkf (v := .bool false) rfl rfl) rfl ?_; refine rs (v := .bool false) (pkf (v := .bool false) rfl rfl) rfl ?_; refine rM (.bool false) rfl rfl ?_; refine rM (.bool false) rfl rfl ?_; refine rs (ntf rfl) rfl ?_; refine rM (.bool true) rfl rfl ?_; refine rM (.int .i64 r90.1) rfl rfl ?_; refine rs (ned rfl rfl) rfl ?_; refine rs (v := .bool (decide (r90.1 ≠ 0))) (pkt (v := .bool (decide (r90.1 ≠ 0))) rfl rfl) rfl ?_; refine rs (v := .bool (decide (r90.1 ≠ 0))) (pkf (v := .bool (decide (r90.1 ≠ 0))) rfl rfl) rfl ?_; refine rn (qn ?_); exact ⟨⟨decide (r90.1 ≠ 0), rfl, hp, hc⟩, (kl rfl kb)⟩
                       · replace hp := gpos hp hb94; refine rM (.int .i64 r90.1) rfl rfl ?_; refine rM (.slice a68 r67.length q70) rfl rfl ?_; refine rM (.int .i64 j77) rfl rfl ?_; replace hp := bind_some hp; obtain ⟨y95, hy95, hp⟩ := hp; obtain ⟨b98, o99, u100, hi96, hi97⟩ := Ctx.rdAt hc (k := 1) rfl rfl reads_own hy95; subst u100; refine rs (ixx rfl rfl Tryz.underlying27 Tryz.sizeOf3 hi96 hi97 rfl) rfl ?_; replace hc := Ctx.rdCell hc (k := 1) rfl rfl reads_own hy95; obtain ⟨cs101, hc, hcell102⟩ := hc; replace hc := Ctx.holdC hc; obtain ⟨u103, hc⟩ := hc; subst u103; refine rs (ld rfl Tryz.isAgg3 (hcell102 0 _ rfl)) rfl ?_; refine rs (ned rfl rfl) rfl ?_; refine rs (v := .bool (decide (r90.1 ≠ y95))) (pkt (v := .bool (decide (r90.1 ≠ y95))) rfl rfl) rfl ?_; refine rs (v := .bool (decide (r90.1 ≠ y95))) (pkf (v := .bool (decide (r90.1 ≠ y95))) rfl rfl) rfl ?_; refine rM (.bool (decide (r90.1 ≠ y95))) rfl rfl ?_; cases hb104 : (decide (r90.1 ≠ y95))
                         · replace hp := gneg hp (of_decide_eq_false hb104); refine rM (.bool true) rfl rfl ?_; refine rs (ntt rfl) rfl ?_; refine rM (.bool false) rfl rfl ?_; (iterate 2 refine r0 rfl ?_); refine rs (v := .bool false) (pkf (v := .bool false) rfl rfl) rfl ?_; refine rs (v := .bool false) (pkf (v := .bool false) rfl rfl) rfl ?_; refine rn (qn ?_); exact ⟨⟨false, rfl, hp, hc⟩, (kl rfl kb)⟩
                         · replace hp := gpos hp (of_decide_eq_true hb104); (iterate 6 refine r0 rfl ?_); refine rs (v := .bool true) (pkt (v := .bool true) rfl rfl) rfl ?_; refine rn (qn ?_); exact ⟨⟨true, rfl, hp, hc⟩, (kl rfl kb)⟩
                     · replace hp := gpos hp hb93; (iterate 9 refine r0 rfl ?_); refine rs (v := .bool true) (pkt (v := .bool true) rfl rfl) rfl ?_; refine rM (.bool true) rfl rfl ?_; (iterate 6 refine r0 rfl ?_); refine rs (v := .bool true) (pkt (v := .bool true) rfl rfl) rfl ?_; refine rn (qn ?_); exact ⟨⟨true, rfl, hp, hc⟩, (kl rfl kb)⟩
                   · clear hp hc; intro vs u w105 hJ; obtain ⟨j92, rfl, hp, hc⟩ := hJ; unfold law09_GenTalks.J2 at hp; cases hb106 : j92
                     · replace hp := gneg hp (by rw [hb106]; exact Bool.false_ne_true); subst hb106; refine Wcf rfl (Wskip (bn (qn (Wreg ?_)))); refine rM (.int .i64 j77) rfl rfl ?_; refine rs (adw rfl rfl) rfl ?_; refine rA (.int .i64 (IntKind.i64.wrap (j77 + 1))) rfl rfl ?_; refine rn (qn ?_); replace hc := Ctx.p2 (Ctx.p1 (Ctx.p2 hc)); exact ⟨m1, Nat.lt_succ_self _, ⟨r90.2.2, (IntKind.i64.wrap (j77 + 1)), rfl, hp, hc⟩, (kl rfl (km rfl (kl rfl k0)))⟩
                     · replace hp := gpos hp hb106; subst hb106; refine Wct rfl (Wseq (Wreg ?_)); refine rA (.bool false) rfl rfl ?_; refine rn (qn (Wret (br (qr (qr (br (qr ?_))))))); replace hc := Ctx.r0 (Ctx.r1 (Ctx.r2 hc)); injection hp with hp; subst hp; refine f1 (v := .bool false) Tryz.results7 Tryz.ntmps7 rfl ?_; exact ⟨_, rfl, k _ hc⟩
             · replace hp := gpos hp hb65; refine Wct rfl (Wseq (Wreg ?_)); refine rA (.bool false) rfl rfl ?_; refine rn (qn (Wret (qr ?_))); replace hc := Ctx.r5 (Ctx.r6 (Ctx.r7 (Ctx.r8 (Ctx.r9 (Ctx.r10 (Ctx.r11 (Ctx.r12 (Ctx.r13 (Ctx.r14 (Ctx.r15 (Ctx.r16 hc))))))))))); replace hc := Ctx.r0 (Ctx.r1 (Ctx.r2 (Ctx.r3 (Ctx.r4 hc)))); injection hp with hp; subst hp; refine f1 (v := .bool false) Tryz.results7 Tryz.ntmps7 rfl ?_; exact ⟨_, rfl, k _ hc⟩
         · replace hp := gpos hp (of_decide_eq_true hb58); (iterate 5 refine r0 rfl ?_); refine rs (v := .bool true) (pkt (v := .bool true) rfl rfl) rfl ?_; refine rn (qn (Wct rfl (Wseq (Wreg ?_)))); refine rA (.bool false) rfl rfl ?_; refine rn (qn (Wret (qr ?_))); replace hc := Ctx.r5 (Ctx.r6 (Ctx.r7 (Ctx.r8 (Ctx.r9 (Ctx.r10 (Ctx.r11 (Ctx.r12 (Ctx.r13 (Ctx.r14 (Ctx.r15 (Ctx.r16 hc))))))))))); replace hc := Ctx.r0 (Ctx.r1 (Ctx.r2 (Ctx.r3 (Ctx.r4 hc)))); injection hp with hp; subst hp; refine f1 (v := .bool false) Tryz.results7 Tryz.ntmps7 rfl ?_; exact ⟨_, rfl, k _ hc⟩
     · replace hp := gpos hp (of_decide_eq_true hb14); refine Wct rfl (Wseq (Wreg ?_)); replace hp := bind_some hp; obtain ⟨r107, hr107, hp⟩ := hp; refine rc (cl Tryz.call24 rfl rfl) rfl ?_; refine law09_awake_any hc hr107 ?_; clear hc; intro w108 hc; refine rA (.bool r107) rfl rfl ?_; refine rn (qn (Wret (qr ?_))); replace hc := Ctx.r0 (Ctx.r1 (Ctx.r2 hc)); injection hp with hp; subst hp; refine f1 (v := .bool r107) Tryz.results7 Tryz.ntmps7 rfl ?_; exact ⟨_, rfl, k _ hc⟩
   · replace hp := gpos hp (of_decide_eq_true hb13); (iterate 4 refine r0 rfl ?_); refine rs (v := .bool true) (pkt (v := .bool true) rfl rfl) rfl ?_; refine rn (qn (Wct rfl (Wseq (Wreg ?_)))); replace hp := bind_some hp; obtain ⟨r109, hr109, hp⟩ := hp; refine rc (cl Tryz.call24 rfl rfl) rfl ?_; refine law09_awake_any hc hr109 ?_; clear hc; intro w110 hc; refine rA (.bool r109) rfl rfl ?_; refine rn (qn (Wret (qr ?_))); replace hc := Ctx.r0 (Ctx.r1 (Ctx.r2 hc)); injection hp with hp; subst hp; refine f1 (v := .bool r109) Tryz.results7 Tryz.ntmps7 rfl ?_; exact ⟨_, rfl, k _ hc⟩

end Go.Proofs.YtdipfegofpfhaaaGreat
end
section
namespace Go.Hp
open Go
theorem W_in {x : Int} (h : -9223372036854775808 ≤ x ∧ x ≤ 9223372036854775807) : IntKind.i64.wrap x = x := IntWalk.i64_in x h
theorem W_succ (k : Nat) (h : k < 4611686018427387904) : IntKind.i64.wrap ((k : Int) + 1) = ((k + 1 : Nat) : Int) := by rw [W_in (by omega)]; rfl
theorem W_range (x : Int) : -9223372036854775808 ≤ IntKind.i64.wrap x ∧ IntKind.i64.wrap x ≤ 9223372036854775807 := by
  rw [IntKind.wrap_i64]; omega
theorem W_rest (x : Int) (n : Int) (hn : 0 < n) (hb : n ≤ 1099511627776) : Int.tmod (IntKind.i64.wrap (Int.tmod x n + n)) n = x % n := by
  have a := Int.tmod_lt_of_pos x hn
  have b := Int.lt_tmod_of_pos x hn
  rw [W_in (by omega), Int.tmod_eq_emod_of_nonneg (by omega)]
  have h := Int.tmod_add_mul_tdiv x n
  rw [Int.add_emod_right]
  conv => rhs; rw [← h]
  rw [Int.add_mul_emod_self_left]
theorem W_restN (x : Int) (n : Nat) (hn : 0 < n) (hb : n ≤ 1099511627776) : ∃ k : Nat, k < n ∧ Int.tmod (IntKind.i64.wrap (Int.tmod x n + n)) n = k := by
  rw [W_rest x n (by omega) (by omega)]
  have h1 := Int.emod_nonneg x (show (n : Int) ≠ 0 by omega)
  have h2 := Int.emod_lt_of_pos x (show (0 : Int) < n by omega)
  exact ⟨(x % n).toNat, by omega, by omega⟩
theorem idx_nat {α : Type} (xs : List α) (k : Nat) : idx xs (k : Int) = xs[k]? := by simp [idx]
theorem idx_get {α : Type} (xs : List α) (k : Nat) (h : k < xs.length) : idx xs (k : Int) = some xs[k] := by rw [idx_nat, List.getElem?_eq_getElem h]
theorem app_ok {α : Type} (xs ys : List α) (h : xs.length + ys.length ≤ 4294967296) : app xs ys = some (xs ++ ys) := by unfold app; rw [if_pos h]
theorem chk_ok {α : Type} {p : Prop} [Decidable p] (x : Option α) (h : p) : chk p x = x := by unfold chk; rw [if_pos h]
end Go.Hp
namespace Go.Hp
def tabl {α : Type} (n : Nat) (f : Nat → α) : List α := (List.range n).map f
theorem tabl_len {α : Type} (n : Nat) (f : Nat → α) : (tabl n f).length = n := by simp [tabl]
theorem tabl_get {α : Type} {n : Nat} {f : Nat → α} {i : Nat} (h : i < (tabl n f).length) : (tabl n f)[i] = f i := by simp [tabl]
theorem tabl_get? {α : Type} {n : Nat} {f : Nat → α} {i : Nat} (h : i < n) : (tabl n f)[i]? = some (f i) := by simp [tabl, h]
theorem tabl_set {α : Type} (n : Nat) (f : Nat → α) (i : Nat) (v : α) : (tabl n f).set i v = tabl n (fun j => if j = i then v else f j) := by
  apply List.ext_getElem
  · simp [tabl]
  · intro j h1 h2
    simp only [List.getElem_set, tabl_get]
    by_cases e : i = j
    · subst e; simp
    · rw [if_neg e, if_neg (fun h => e h.symm)]
theorem tabl_rep {α : Type} (n : Nat) (v : α) : List.replicate n v = tabl n (fun _ => v) := by
  apply List.ext_getElem
  · simp [tabl]
  · intro j h1 h2; simp [tabl]
theorem tabl_congr {α : Type} {n : Nat} {f g : Nat → α} (h : ∀ j, j < n → f j = g j) : tabl n f = tabl n g := by
  apply List.ext_getElem
  · simp [tabl]
  · intro j h1 h2
    rw [tabl_get, tabl_get]; exact h j (by simpa [tabl] using h1)
end Go.Hp
end
section
namespace Go.Hp
open Go
set_option linter.unusedVariables false
set_option linter.unusedSimpArgs false
set_option linter.unusedSectionVars false
theorem optc_some {α β : Type} (x : α) (a : Option β) (f : α → Option β) : optc (some x) a f = f x := rfl
theorem optc_none {α β : Type} (a : Option β) (f : α → Option β) : optc none a f = a := rfl
section
variable {κ β : Type} [DecidableEq κ]
theorem mget_mset (l : List (κ × β)) (k q : κ) (x : β) : mget (mset l k x) q = if q = k then some x else mget l q := by
  induction l with
  | nil => simp only [mset, mget]; by_cases h : q = k
           · subst h; simp
           · rw [if_neg (fun e => h e.symm), if_neg h]
  | cons p l ih =>
    obtain ⟨k', x'⟩ := p
    simp only [mset]
    by_cases hk : k' = k
    · subst hk
      simp only [if_true, mget]
      by_cases h : q = k'
      · subst h; simp
      · rw [if_neg (fun e => h e.symm), if_neg h, if_neg (fun e => h e.symm)]
    · simp only [hk, if_false, mget, ih]
      by_cases h : k' = q
      · subst h; simp [hk]
      · simp [h]
end
end Go.Hp
end
section
namespace Go.Hp
open Go
set_option linter.unusedVariables false
set_option linter.unusedSimpArgs false
theorem loop_c {σ ρ : Type} (F : Nat → σ → Int → ρ) (c : Nat → σ) (n : Nat) (r : ρ) (hs : ∀ m i, i < n → F (m + 1) (c i) (i : Int) = F m (c (i + 1)) ((i + 1 : Nat) : Int)) (he : ∀ m, F (m + 1) (c n) (n : Int) = r) : ∀ m, n < m → F m (c 0) 0 = r := by
  have key : ∀ d m i, i + d = n → d < m → F m (c i) (i : Int) = r := by
    intro d
    induction d with
    | zero =>
      intro m i hi hm
      obtain ⟨m, rfl⟩ : ∃ q, m = q + 1 := ⟨m - 1, by omega⟩
      obtain rfl : i = n := by omega
      exact he m
    | succ d ih =>
      intro m i hi hm
      obtain ⟨m, rfl⟩ : ∃ q, m = q + 1 := ⟨m - 1, by omega⟩
      rw [hs m i (by omega)]
      exact ih m (i + 1) (by omega) (by omega)
  intro m hm
  exact key n m 0 (by omega) hm
theorem idx_mid {α : Type} (pre : List α) (b : α) (post : List α) : idx (pre ++ b :: post) (pre.length : Int) = some b := by
  rw [idx_nat]; simp
theorem len_snoc {α : Type} (pre : List α) (b : α) : ((pre ++ [b]).length : Int) = ((pre.length + 1 : Nat) : Int) := by simp
end Go.Hp
end
section
namespace Go.Hp
open Go
set_option linter.unusedVariables false
theorem loop_to {σ ρ : Type} (F : Nat → σ → Int → ρ) (ι : Nat → Int) (n : Nat) (Inv : Nat → σ → Prop) (hs : ∀ m i s, i < n → Inv i s → ∃ s', Inv (i + 1) s' ∧ F (m + 1) s (ι i) = F m s' (ι (i + 1))) : ∀ m s, n < m → Inv 0 s → ∃ m' s', Inv n s' ∧ F m s (ι 0) = F (m' + 1) s' (ι n) := by
  have key : ∀ d m i s, i + d = n → d < m → Inv i s → ∃ m' s', Inv n s' ∧ F m s (ι i) = F (m' + 1) s' (ι n) := by
    intro d
    induction d with
    | zero =>
      intro m i s hi hm h
      obtain ⟨m, rfl⟩ : ∃ q, m = q + 1 := ⟨m - 1, by omega⟩
      obtain rfl : i = n := by omega
      exact ⟨m, s, h, rfl⟩
    | succ d ih =>
      intro m i s hi hm h
      obtain ⟨m, rfl⟩ : ∃ q, m = q + 1 := ⟨m - 1, by omega⟩
      obtain ⟨s', h', e⟩ := hs m i s (by omega) h
      rw [e]
      exact ih m (i + 1) s' (by omega) (by omega) h'
  intro m s hm h
  exact key n m 0 s (by omega) hm h
theorem idx_t {α : Type} {n : Nat} (f : Nat → α) {k : Nat} (h : k < n) : idx (tabl n f) (k : Int) = some (f k) := by rw [idx_nat, tabl_get? h]
theorem idx_d {α : Type} (l : List α) (d : α) {k : Nat} (h : k < l.length) : idx l (k : Int) = some (l.getD k d) := by
  rw [idx_get l k h, List.getD_eq_getElem?_getD, List.getElem?_eq_getElem h]; rfl
theorem tabl_succ {α : Type} (n : Nat) (f : Nat → α) : tabl (n + 1) f = tabl n f ++ [f n] := by simp [tabl, List.range_succ]
theorem tab_of {α : Type} (l : List α) (d : α) : l = tabl l.length (fun i => l.getD i d) := by
  apply List.ext_getElem
  · rw [tabl_len]
  · intro i h1 h2
    rw [tabl_get, List.getD_eq_getElem?_getD, List.getElem?_eq_getElem h1]; rfl
theorem len_app1 {α : Type} (l : List α) (x : α) : (l ++ [x]).length = l.length + 1 := by simp
end Go.Hp
end
