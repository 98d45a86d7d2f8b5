/- Functions of the program as plain functions, and the proofs that walks compute them. Printed by a program of this session. -/
import Derived.Test.YtmpdkjcobpghaaaT1
namespace Go.Proofs.Ytmpdkjcobpghaaa
open Go Go.RowKit Go.Hp
set_option linter.unusedVariables false
set_option linter.unusedSimpArgs false
set_option maxRecDepth 100000

-- FN peloton/pelotonref05.Join
def ref05_Join.L1 (N : Nat) (x0 : (List Int)) (x1 : (List Int)) (x2 : Int) (x3 : Int) : Nat → (List Int) → Int → Option ((List Int))
  | 0, _, _ => none
  | m1 + 1, j1, j5 =>
    if j5 < ((x0.length : Nat) : Int) then
      (idx x0 j5).bind fun y10 =>
      (idx x1 j5).bind fun y19 =>
      (ref01_Scale N y19 x2 x3 (-2147483648) 2147483647).bind fun r28 =>
      (ref01_Wrap N ([(IntKind.i64.wrap y10), r28])).bind fun r32 =>
      (app j1 ([r32])).bind fun z36 =>
      (ref05_Join.L1 N x0 x1 x2 x3 m1) z36 (IntKind.i64.wrap (j5 + 1))
    else
      some j1

def ref05_Join (N : Nat) (x0 : (List Int)) (x1 : (List Int)) (x2 : Int) (x3 : Int) : Option ((List Int)) :=
  ref05_Join.L1 N x0 x1 x2 x3 N ([]) 0

set_option maxHeartbeats 8000000 in
theorem ref05_Join_any {N : Nat} {x0 : (List Int)} {ax0 : Option Addr} {nx0 : Nat} {qx0 : Nat} {P0 : HP} {x1 : (List Int)} {ax1 : Option Addr} {nx1 : Nat} {qx1 : Nat} {P1 : HP} {x2 : Int} {x3 : Int} {Fr : List HP} {w : World} {r : (List Int)} {K : Value → World → Prop} (hrd0 : Reads P0 (pInt .i32) (.slice ax0 nx0 qx0) x0) (hrd1 : Reads P1 (pInt .i32) (.slice ax1 nx1 qx1) x1) (hc : Ctx w (P0 :: P1 :: Fr)) (hp : ref05_Join N x0 x1 x2 x3 = some r)
    (k : ∀ (a42 : Option Addr) (n43 : Nat) (q44 : Nat) w', Ctx w' (Own (pInt .i32) 21 (.slice a42 n43 q44) r :: P0 :: P1 :: Fr) → K (.slice a42 n43 q44) w') : Calls Try.prog 21 #[.slice ax0 nx0 qx0, .slice ax1 nx1 qx1, .int .i32 x2, .int .i64 x3] w (Ret K) := by
 unfold ref05_Join at hp
 refine Center (args := [.slice ax0 nx0 qx0, .slice ax1 nx1 qx1, .int .i32 x2, .int .i64 x3]) (l := [(0, .slice ax0 nx0 qx0), (1, .slice ax1 nx1 qx1), (2, .int .i32 x2), (3, .int .i64 x3)]) Try.func21 Try.ntmps21 rfl rfl rfl ?_
 obtain ⟨hn0, _⟩ := Ctx.rdLen hc (k := 0) rfl rfl hrd0; subst hn0
 obtain ⟨hn1, _⟩ := Ctx.rdLen hc (k := 1) rfl rfl hrd1; subst hn1
 refine Wseq ?_
 refine Wreg ?_
 refine rs (v := .slice none 0 0) (av (v := .slice none 0 0) rfl) rfl ?_
 refine rn ?_
 refine qn ?_
 refine Wseq ?_
 refine Wreg ?_
 refine rs (v := .slice none 0 0) (av (v := .slice none 0 0) rfl) rfl ?_
 refine rn ?_
 refine qn ?_
 refine Wseq ?_
 refine Wseq ?_
 refine Wreg ?_
 refine rs (v := .int .i64 0) (av (v := .int .i64 0) rfl) rfl ?_
 refine rn ?_
 refine qn ?_
 refine Wblk ?_
 replace hc := hc.nilOwn (pInt .i32) 21
 replace hc := hc.pull 2 rfl rfl
 replace hc := hc.pull 2 rfl rfl
 refine Wloop [9, 10, 11, 12, 13, 14, 15, 16, 17, 18, 19, 20, 21, 22, 23, 24, 25, 26, 27, 28, 29, 30, 31, 32, 33] [9, 10] (fun m vs w' => ∃ j1 : (List Int), ∃ j5 : Int, ∃ a2 : Option Addr, ∃ n3 : Nat, ∃ q4 : Nat, vs = [.slice a2 n3 q4, .int .i64 j5] ∧ ref05_Join.L1 N x0 x1 x2 x3 m j1 j5 = some r ∧ Ctx w' (P0 :: P1 :: Own (pInt .i32) 21 (.slice a2 n3 q4) j1 :: Fr)) N ?_ ?_
 · exact ⟨[], 0, none, 0, 0, rfl, hp, hc⟩
 · clear hp hc; intro m vs u w6 hJ
   obtain ⟨j1, j5, a2, n3, q4, rfl, hp, hc⟩ := hJ
   obtain ⟨u7, _⟩ := Ctx.rdLen hc (k := 2) rfl rfl reads_own; subst u7
   rcases m with _ | m1
   · cases (show none = some r from hp)
   rw [ref05_Join.L1] at hp
   refine Wseq ?_
   refine Wseq ?_
   refine Wreg ?_
   refine rs (v := .int .i64 j5) (mv (v := .int .i64 j5) rfl) rfl ?_
   refine rs (v := .slice ax0 x0.length qx0) (mv (v := .slice ax0 x0.length qx0) rfl) rfl ?_
   refine rs (v := .int .i64 ((x0.length : Nat) : Int)) (ln rfl Try.underlying23) rfl ?_
   refine rs (v := .bool (decide (j5 < ((x0.length : Nat) : Int)))) (lt' rfl rfl) rfl ?_
   refine rn ?_
   refine qn ?_
   cases hb8 : (decide (j5 < ((x0.length : Nat) : Int)))
   · replace hp := gneg hp (of_decide_eq_false hb8)
     refine Wcf rfl ?_
     refine Wexit ?_
     refine qx ?_
     refine qx ?_
     refine be ?_
     refine qn ?_
     refine Wseq ?_
     refine Wreg ?_
     refine rs (v := .slice a2 j1.length q4) (mv (v := .slice a2 j1.length q4) rfl) rfl ?_
     refine rs (v := .slice a2 j1.length q4) (av (v := .slice a2 j1.length q4) rfl) rfl ?_
     refine rn ?_
     refine qn ?_
     refine Wret ?_
     replace hc := hc.pull 1 rfl rfl
     replace hc := hc.pull 1 rfl rfl
     replace hc := hc.pull 2 rfl rfl
     injection hp with hp; subst hp
     refine f1 (v := .slice a2 j1.length q4) Try.results21 Try.ntmps21 rfl ?_
     exact ⟨_, rfl, k _ _ _ _ hc⟩
   · replace hp := gpos hp (of_decide_eq_true hb8)
     refine Wct rfl ?_
     refine Wskip ?_
     refine qn ?_
     refine Wseq ?_
     refine Wblk ?_
     replace hc := hc.drew
     have hF : ∀ j, free [0, 0, 0, 6, 14, 30, 0, 0, 192, 448, 0, 0, 4032, 8190, 16382, 32766, 65535, 131071] 0 j = true → (fun j w' => (j = 4 → PinRow (pInt .i32) ax0 x0 w') ∧ True) j (World.drew w6) := fun j hj => ⟨fun _ => PinRow.of hc (k := 0) rfl rfl hrd0 (fun _ _ _ _ _ _ _ h1 h2 => h1.trans h2.symm), trivial⟩
     refine Wdrw (fun j w' => (j = 4 → PinRow (pInt .i32) ax0 x0 w') ∧ True) [0, 0, 0, 6, 14, 30, 0, 0, 192, 448, 0, 0, 4032, 8190, 16382, 32766, 65535, 131071] 0 512 rfl (by kernel_rfl) (hF) ?_
     generalize hw : World.drew w6 = w9 at *
     clear hw
     refine ds (v := .slice a2 j1.length q4) rfl (fun w' hF => mv (v := .slice a2 j1.length q4) rfl) rfl ?_
     refine ds (v := .slice ax0 x0.length qx0) rfl (fun w' hF => mv (v := .slice ax0 x0.length qx0) rfl) rfl ?_
     refine ds (v := .int .i64 j5) rfl (fun w' hF => mv (v := .int .i64 j5) rfl) rfl ?_
     replace hp := bind_some hp; obtain ⟨y10, hy10, hp⟩ := hp
     obtain ⟨b13, o14, u15, hi11, hi12⟩ := Ctx.rdAt hc (k := 0) rfl rfl hrd0 hy10
     subst u15
     refine ds (v := .pointer (some ⟨b13, o14 + (j5).toNat * 1, none⟩)) rfl (fun w' hF => ixx rfl rfl Try.underlying23 Try.sizeOf21 hi11 hi12 rfl) rfl ?_
     replace hc := Ctx.rdCell hc (k := 0) rfl rfl hrd0 hy10; obtain ⟨cs16, hc, hcell17⟩ := hc
     replace hc := Ctx.holdC hc; obtain ⟨u18, hc⟩ := hc; subst u18
     refine ds (v := .int .i32 y10) rfl (fun w' hF => ld rfl Try.isAgg21 ((hF.1 rfl) _ _ _ _ hy10 rfl w' (fun _ => True) _ rfl 0 _ rfl)) rfl ?_
     refine ds (v := .int .i64 (IntKind.i64.wrap y10)) rfl (fun w' hF => cvi rfl Try.underlying21 Try.underlying2) rfl ?_
     refine ds (v := .slice ax1 x1.length qx1) rfl (fun w' hF => mv (v := .slice ax1 x1.length qx1) rfl) rfl ?_
     refine ds (v := .int .i64 j5) rfl (fun w' hF => mv (v := .int .i64 j5) rfl) rfl ?_
     replace hp := bind_some hp; obtain ⟨y19, hy19, hp⟩ := hp
     obtain ⟨b22, o23, u24, hi20, hi21⟩ := Ctx.rdAt hc (k := 1) rfl rfl hrd1 hy19
     subst u24
     refine ds (v := .pointer (some ⟨b22, o23 + (j5).toNat * 1, none⟩)) rfl (fun w' hF => ixx rfl rfl Try.underlying23 Try.sizeOf21 hi20 hi21 rfl) rfl ?_
     replace hc := Ctx.rdCell hc (k := 1) rfl rfl hrd1 hy19; obtain ⟨cs25, hc, hcell26⟩ := hc
     replace hc := Ctx.holdC hc; obtain ⟨u27, hc⟩ := hc; subst u27
     refine dx (v := .int .i32 y19) rfl (ld rfl Try.isAgg21 (hcell26 0 _ rfl)) rfl rfl ?_
     refine ds (v := .int .i32 x2) rfl (fun w' hF => mv (v := .int .i32 x2) rfl) rfl ?_
     refine ds (v := .int .i64 x3) rfl (fun w' hF => mv (v := .int .i64 x3) rfl) rfl ?_
     replace hp := bind_some hp; obtain ⟨r28, hr28, hp⟩ := hp
     refine dc (cl Try.call39 rfl rfl) rfl rfl ?_
     refine ref01_Scale_any hc hr28 ?_
     clear hc; intro w29 hc
     refine ⟨fun j hj hb => ⟨fun _ => PinRow.of hc (k := 0) rfl rfl hrd0 (fun _ _ _ _ _ _ _ h1 h2 => h1.trans h2.symm), trivial⟩, ?_⟩
     replace hc : Ctx w29 (Hold (pInt .i64) [.int .i64 r28] r28 :: P0 :: P1 :: Own (pInt .i32) 21 (.slice a2 j1.length q4) j1 :: Fr) := hc.add _ fun _ _ _ => ⟨rfl, rfl⟩
     replace hc : Ctx w29 (Hold (pInt .i64) [.int .i64 (IntKind.i64.wrap y10)] (IntKind.i64.wrap y10) :: Hold (pInt .i64) [.int .i64 r28] r28 :: P0 :: P1 :: Own (pInt .i32) 21 (.slice a2 j1.length q4) j1 :: Fr) := hc.add _ fun _ _ _ => ⟨rfl, rfl⟩
     refine deE (Ctx.builtOp (css := [[.int .i64 (IntKind.i64.wrap y10)], [.int .i64 r28]]) (xs := ([(IntKind.i64.wrap y10), r28] : List Int)) (E := (pInt .i64)) hc Try.underlying64 Try.sizeOf2 Try.zeroValue2 rfl rfl rfl rfl rfl rfl rfl rfl) rfl rfl ?_
     clear hc; rintro _ w31 ⟨a30, rfl, hc⟩
     refine ⟨fun j hj hb => ⟨fun e => (by subst e; exact absurd hj (by decide)), trivial⟩, ?_⟩
     replace hp := bind_some hp; obtain ⟨r32, hr32, hp⟩ := hp
     refine dc (cl Try.call38 rfl rfl) rfl rfl ?_
     refine ref01_Wrap_any reads_own hc hr32 ?_
     clear hc; intro w33 hc
     refine ⟨fun j hj hb => ⟨fun e => (by subst e; exact absurd hj (by decide)), trivial⟩, ?_⟩
     replace hc : Ctx w33 (Hold (pInt .i32) [.int .i32 r32] r32 :: Own (pInt .i64) 2 (.slice a30 2 2) ([(IntKind.i64.wrap y10), r28]) :: P0 :: P1 :: Own (pInt .i32) 21 (.slice a2 j1.length q4) j1 :: Fr) := hc.add _ fun _ _ _ => ⟨rfl, rfl⟩
     refine deE (Ctx.builtOp (css := [[.int .i32 r32]]) (xs := ([r32] : List Int)) (E := (pInt .i32)) hc Try.underlying23 Try.sizeOf21 Try.zeroValue21 rfl rfl rfl rfl rfl rfl rfl rfl) rfl rfl ?_
     clear hc; rintro _ w35 ⟨a34, rfl, hc⟩
     refine ⟨fun j hj hb => ⟨fun e => (by subst e; exact absurd hj (by decide)), trivial⟩, ?_⟩
     replace hp := bind_some hp; obtain ⟨z36, hz36, hp⟩ := hp
     obtain ⟨hg37, e38⟩ := app_some hz36
     refine deE (Ctx.append hc (k := 4) rfl rfl (k2 := 0) rfl rfl reads_own Try.underlying23 (i := Try.t21) rfl rfl rfl rfl rfl rfl rfl rfl hg37) rfl rfl ?_
     clear hc; rintro _ w41 ⟨a39, q40, rfl, hc⟩
     rw [← e38] at hc ⊢
     refine ⟨fun j hj hb => ⟨fun e => (by subst e; exact absurd hj (by decide)), trivial⟩, ?_⟩
     refine ds (v := .slice a39 z36.length q40) rfl (fun w' hF => av (v := .slice a39 z36.length q40) rfl) rfl ?_
     refine dn ?_
     refine bn ?_
     refine qn ?_
     refine Wreg ?_
     refine rs (v := .int .i64 j5) (mv (v := .int .i64 j5) rfl) rfl ?_
     refine rs (v := .int .i64 (IntKind.i64.wrap (j5 + 1))) (adw rfl rfl) rfl ?_
     refine rs (v := .int .i64 (IntKind.i64.wrap (j5 + 1))) (av (v := .int .i64 (IntKind.i64.wrap (j5 + 1))) rfl) rfl ?_
     refine rn ?_
     refine qn ?_
     replace hc := hc.rem 1 rfl rfl
     replace hc := hc.rem 0 rfl rfl
     exact ⟨m1, Nat.lt_succ_self _, ⟨z36, (IntKind.i64.wrap (j5 + 1)), a39, z36.length, q40, rfl, hp, hc⟩, (kl rfl k0)⟩

-- FN peloton/pelotonlaw05.awake
def law05_awake (N : Nat) : Option (Bool) :=
  (norm_Norm N ([16, 16]) ([300, (-300)])).bind fun r5 =>
  (norm_Mix N ([65536]) ([[1, (-2), 3]])).bind fun r17 =>
  if r5.2 = 0 then
    (ref04_Bytes N r5.1 ([32, (-32)])).bind fun r26 =>
    if r26 = true then
      (norm_Softmax N 65536 0 ([5, 5])).bind fun r31 =>
      (ref04_Ints N r31 ([32768, 32768])).bind fun r39 =>
      if r39 = true then
        if r17.2 = 0 then
          (ref04_Bytes N r17.1 ([1, (-2), 3])).bind fun r45 =>
          if r45 = true then
            (norm_Gate N ([(-1), 0, 7])).bind fun r50 =>
            (ref04_Bytes N r50 ([0, 0, 7])).bind fun r58 =>
            some r58
          else
            some false
        else
          some false
      else
        some false
    else
      some false
  else
    some false

set_option maxHeartbeats 8000000 in
theorem law05_awake_any {N : Nat} {Fr : List HP} {w : World} {r : Bool} {K : Value → World → Prop}  (hc : Ctx w (Fr)) (hp : law05_awake N = some r)
    (k : ∀ w', Ctx w' (Fr) → K (.bool r) w') : Calls Try.prog 10 #[] w (Ret K) := by
 unfold law05_awake at hp
 refine Center (args := []) (l := []) Try.func10 Try.ntmps10 rfl rfl rfl ?_
 refine Wseq ?_
 refine Wreg ?_
 refine rs (v := .bool false) (av (v := .bool false) rfl) rfl ?_
 refine rn ?_
 refine qn ?_
 refine Wseq ?_
 refine Wreg ?_
 replace hc : Ctx w (Hold (pInt .i8) [.int .i8 16] 16 :: Fr) := hc.add _ fun _ _ _ => ⟨rfl, rfl⟩
 replace hc : Ctx w (Hold (pInt .i8) [.int .i8 16] 16 :: Hold (pInt .i8) [.int .i8 16] 16 :: Fr) := hc.add _ fun _ _ _ => ⟨rfl, rfl⟩
 refine rsE (Ctx.builtOp (css := [[.int .i8 16], [.int .i8 16]]) (xs := ([16, 16] : List Int)) (E := (pInt .i8)) hc Try.underlying22 Try.sizeOf38 Try.zeroValue38 rfl rfl rfl rfl rfl rfl rfl rfl) rfl ?_
 clear hc; rintro _ w2 ⟨a1, rfl, hc⟩
 replace hc : Ctx w2 (Hold (pInt .i32) [.int .i32 (-300)] (-300) :: Own (pInt .i8) 38 (.slice a1 2 2) ([16, 16]) :: Fr) := hc.add _ fun _ _ _ => ⟨rfl, rfl⟩
 replace hc : Ctx w2 (Hold (pInt .i32) [.int .i32 300] 300 :: Hold (pInt .i32) [.int .i32 (-300)] (-300) :: Own (pInt .i8) 38 (.slice a1 2 2) ([16, 16]) :: Fr) := hc.add _ fun _ _ _ => ⟨rfl, rfl⟩
 refine rsE (Ctx.builtOp (css := [[.int .i32 300], [.int .i32 (-300)]]) (xs := ([300, (-300)] : List Int)) (E := (pInt .i32)) hc Try.underlying23 Try.sizeOf21 Try.zeroValue21 rfl rfl rfl rfl rfl rfl rfl rfl) rfl ?_
 clear hc; rintro _ w4 ⟨a3, rfl, hc⟩
 replace hp := bind_some hp; obtain ⟨r5, hr5, hp⟩ := hp
 replace hc := hc.pull 1 rfl rfl
 refine rc (cl Try.call11 rfl rfl) rfl ?_
 refine norm_Norm_any reads_own reads_own hc hr5 ?_
 clear hc; intro a6 n7 q8 w9 hc
 obtain ⟨u10, _⟩ := Ctx.rdLen hc (k := 0) rfl rfl reads_own; subst u10
 refine rs (v := .tuple #[.slice a6 r5.1.length q8, .int .i64 r5.2]) (mv (v := .tuple #[.slice a6 r5.1.length q8, .int .i64 r5.2]) rfl) rfl ?_
 refine rs (v := .slice a6 r5.1.length q8) (ext (v := .slice a6 r5.1.length q8) rfl rfl) rfl ?_
 refine rs (v := .int .i64 r5.2) (ext (v := .int .i64 r5.2) rfl rfl) rfl ?_
 refine rs (v := .slice a6 r5.1.length q8) (av (v := .slice a6 r5.1.length q8) rfl) rfl ?_
 refine rs (v := .int .i64 r5.2) (av (v := .int .i64 r5.2) rfl) rfl ?_
 refine rn ?_
 refine qn ?_
 refine Wseq ?_
 refine Wreg ?_
 replace hc : Ctx w9 (Hold (pInt .i32) [.int .i32 65536] 65536 :: Own (pInt .i8) 38 (.slice a6 r5.1.length q8) r5.1 :: Own (pInt .i8) 38 (.slice a1 2 2) ([16, 16]) :: Own (pInt .i32) 21 (.slice a3 2 2) ([300, (-300)]) :: Fr) := hc.add _ fun _ _ _ => ⟨rfl, rfl⟩
 refine rsE (Ctx.builtOp (css := [[.int .i32 65536]]) (xs := ([65536] : List Int)) (E := (pInt .i32)) hc Try.underlying23 Try.sizeOf21 Try.zeroValue21 rfl rfl rfl rfl rfl rfl rfl rfl) rfl ?_
 clear hc; rintro _ w12 ⟨a11, rfl, hc⟩
 replace hc : Ctx w12 (Hold (pInt .i8) [.int .i8 3] 3 :: Own (pInt .i32) 21 (.slice a11 1 1) ([65536]) :: Own (pInt .i8) 38 (.slice a6 r5.1.length q8) r5.1 :: Own (pInt .i8) 38 (.slice a1 2 2) ([16, 16]) :: Own (pInt .i32) 21 (.slice a3 2 2) ([300, (-300)]) :: Fr) := hc.add _ fun _ _ _ => ⟨rfl, rfl⟩
 replace hc : Ctx w12 (Hold (pInt .i8) [.int .i8 (-2)] (-2) :: Hold (pInt .i8) [.int .i8 3] 3 :: Own (pInt .i32) 21 (.slice a11 1 1) ([65536]) :: Own (pInt .i8) 38 (.slice a6 r5.1.length q8) r5.1 :: Own (pInt .i8) 38 (.slice a1 2 2) ([16, 16]) :: Own (pInt .i32) 21 (.slice a3 2 2) ([300, (-300)]) :: Fr) := hc.add _ fun _ _ _ => ⟨rfl, rfl⟩
 replace hc : Ctx w12 (Hold (pInt .i8) [.int .i8 1] 1 :: Hold (pInt .i8) [.int .i8 (-2)] (-2) :: Hold (pInt .i8) [.int .i8 3] 3 :: Own (pInt .i32) 21 (.slice a11 1 1) ([65536]) :: Own (pInt .i8) 38 (.slice a6 r5.1.length q8) r5.1 :: Own (pInt .i8) 38 (.slice a1 2 2) ([16, 16]) :: Own (pInt .i32) 21 (.slice a3 2 2) ([300, (-300)]) :: Fr) := hc.add _ fun _ _ _ => ⟨rfl, rfl⟩
 refine rsE (Ctx.builtOp (css := [[.int .i8 1], [.int .i8 (-2)], [.int .i8 3]]) (xs := ([1, (-2), 3] : List Int)) (E := (pInt .i8)) hc Try.underlying22 Try.sizeOf38 Try.zeroValue38 rfl rfl rfl rfl rfl rfl rfl rfl) rfl ?_
 clear hc; rintro _ w14 ⟨a13, rfl, hc⟩
 replace hc := hc.freeze (k := 0) rfl rfl rfl
 replace hc := hc.dup (k := 0) rfl rfl
 refine rsE (Ctx.builtOp (css := [[.slice a13 3 3]]) (xs := ([[1, (-2), 3]] : List (List Int))) (E := (pRo (pInt .i8))) hc Try.underlying40 Try.sizeOf22 Try.zeroValue22 rfl rfl rfl rfl rfl rfl rfl rfl) rfl ?_
 clear hc; rintro _ w16 ⟨a15, rfl, hc⟩
 replace hp := bind_some hp; obtain ⟨r17, hr17, hp⟩ := hp
 replace hc := hc.pull 2 rfl rfl
 refine rc (cl Try.call18 rfl rfl) rfl ?_
 refine norm_Mix_any reads_own reads_own hc hr17 ?_
 clear hc; intro a18 n19 q20 w21 hc
 obtain ⟨u22, _⟩ := Ctx.rdLen hc (k := 0) rfl rfl reads_own; subst u22
 refine rs (v := .tuple #[.slice a18 r17.1.length q20, .int .i64 r17.2]) (mv (v := .tuple #[.slice a18 r17.1.length q20, .int .i64 r17.2]) rfl) rfl ?_
 refine rs (v := .slice a18 r17.1.length q20) (ext (v := .slice a18 r17.1.length q20) rfl rfl) rfl ?_
 refine rs (v := .int .i64 r17.2) (ext (v := .int .i64 r17.2) rfl rfl) rfl ?_
 refine rs (v := .slice a18 r17.1.length q20) (av (v := .slice a18 r17.1.length q20) rfl) rfl ?_
 refine rs (v := .int .i64 r17.2) (av (v := .int .i64 r17.2) rfl) rfl ?_
 refine rn ?_
 refine qn ?_
 refine Wseq ?_
 refine Wreg ?_
 refine rs (v := .int .i64 r5.2) (mv (v := .int .i64 r5.2) rfl) rfl ?_
 refine rs (v := .bool (decide (r5.2 = 0))) (eqd rfl rfl) rfl ?_
 refine rs (v := .bool (decide (r5.2 = 0))) (mv (v := .bool (decide (r5.2 = 0))) rfl) rfl ?_
 cases hb23 : (decide (r5.2 = 0))
 · replace hp := gneg hp (of_decide_eq_false hb23)
   refine r0 rfl ?_
   refine r0 rfl ?_
   refine r0 rfl ?_
   refine rs (v := .bool false) (pkf (v := .bool false) rfl rfl) rfl ?_
   refine rs (v := .bool false) (mv (v := .bool false) rfl) rfl ?_
   refine r0 rfl ?_
   refine r0 rfl ?_
   refine r0 rfl ?_
   refine r0 rfl ?_
   refine rs (v := .bool false) (pkf (v := .bool false) rfl rfl) rfl ?_
   refine rs (v := .bool false) (mv (v := .bool false) rfl) rfl ?_
   refine r0 rfl ?_
   refine r0 rfl ?_
   refine rs (v := .bool false) (pkf (v := .bool false) rfl rfl) rfl ?_
   refine rs (v := .bool false) (mv (v := .bool false) rfl) rfl ?_
   refine r0 rfl ?_
   refine r0 rfl ?_
   refine r0 rfl ?_
   refine rs (v := .bool false) (pkf (v := .bool false) rfl rfl) rfl ?_
   refine rs (v := .bool false) (mv (v := .bool false) rfl) rfl ?_
   refine r0 rfl ?_
   refine r0 rfl ?_
   refine r0 rfl ?_
   refine r0 rfl ?_
   refine rs (v := .bool false) (pkf (v := .bool false) rfl rfl) rfl ?_
   refine rs (v := .bool false) (av (v := .bool false) rfl) rfl ?_
   refine rn ?_
   refine qn ?_
   refine Wret ?_
   replace hc := hc.rem 6 rfl rfl
   replace hc := hc.rem 5 rfl rfl
   replace hc := hc.rem 4 rfl rfl
   replace hc := hc.rem 3 rfl rfl
   replace hc := hc.rem 2 rfl rfl
   replace hc := hc.rem 1 rfl rfl
   replace hc := hc.rem 0 rfl rfl
   injection hp with hp; subst hp
   refine f1 (v := .bool false) Try.results10 Try.ntmps10 rfl ?_
   exact ⟨_, rfl, k _ hc⟩
 · replace hp := gpos hp (of_decide_eq_true hb23)
   refine rs (v := .slice a6 r5.1.length q8) (mv (v := .slice a6 r5.1.length q8) rfl) rfl ?_
   replace hc : Ctx w21 (Hold (pInt .i8) [.int .i8 (-32)] (-32) :: Own (pInt .i8) 38 (.slice a18 r17.1.length q20) r17.1 :: Own (pInt .i32) 21 (.slice a11 1 1) ([65536]) :: Own (pRo (pInt .i8)) 22 (.slice a15 1 1) ([[1, (-2), 3]]) :: Hold (pRo (pInt .i8)) [.slice a13 3 3] ([1, (-2), 3]) :: Own (pInt .i8) 38 (.slice a6 r5.1.length q8) r5.1 :: Own (pInt .i8) 38 (.slice a1 2 2) ([16, 16]) :: Own (pInt .i32) 21 (.slice a3 2 2) ([300, (-300)]) :: Fr) := hc.add _ fun _ _ _ => ⟨rfl, rfl⟩
   replace hc : Ctx w21 (Hold (pInt .i8) [.int .i8 32] 32 :: Hold (pInt .i8) [.int .i8 (-32)] (-32) :: Own (pInt .i8) 38 (.slice a18 r17.1.length q20) r17.1 :: Own (pInt .i32) 21 (.slice a11 1 1) ([65536]) :: Own (pRo (pInt .i8)) 22 (.slice a15 1 1) ([[1, (-2), 3]]) :: Hold (pRo (pInt .i8)) [.slice a13 3 3] ([1, (-2), 3]) :: Own (pInt .i8) 38 (.slice a6 r5.1.length q8) r5.1 :: Own (pInt .i8) 38 (.slice a1 2 2) ([16, 16]) :: Own (pInt .i32) 21 (.slice a3 2 2) ([300, (-300)]) :: Fr) := hc.add _ fun _ _ _ => ⟨rfl, rfl⟩
   refine rsE (Ctx.builtOp (css := [[.int .i8 32], [.int .i8 (-32)]]) (xs := ([32, (-32)] : List Int)) (E := (pInt .i8)) hc Try.underlying22 Try.sizeOf38 Try.zeroValue38 rfl rfl rfl rfl rfl rfl rfl rfl) rfl ?_
   clear hc; rintro _ w25 ⟨a24, rfl, hc⟩
   replace hp := bind_some hp; obtain ⟨r26, hr26, hp⟩ := hp
   replace hc := hc.pull 5 rfl rfl
   refine rc (cl Try.call13 rfl rfl) rfl ?_
   refine ref04_Bytes_any reads_own reads_own hc hr26 ?_
   clear hc; intro w27 hc
   refine rs (v := .bool r26) (pkt (v := .bool r26) rfl rfl) rfl ?_
   refine rs (v := .bool r26) (mv (v := .bool r26) rfl) rfl ?_
   cases hb28 : r26
   · replace hp := gneg hp (by rw [hb28]; exact Bool.false_ne_true)
     subst hb28
     refine r0 rfl ?_
     refine r0 rfl ?_
     refine r0 rfl ?_
     refine r0 rfl ?_
     refine rs (v := .bool false) (pkf (v := .bool false) rfl rfl) rfl ?_
     refine rs (v := .bool false) (mv (v := .bool false) rfl) rfl ?_
     refine r0 rfl ?_
     refine r0 rfl ?_
     refine rs (v := .bool false) (pkf (v := .bool false) rfl rfl) rfl ?_
     refine rs (v := .bool false) (mv (v := .bool false) rfl) rfl ?_
     refine r0 rfl ?_
     refine r0 rfl ?_
     refine r0 rfl ?_
     refine rs (v := .bool false) (pkf (v := .bool false) rfl rfl) rfl ?_
     refine rs (v := .bool false) (mv (v := .bool false) rfl) rfl ?_
     refine r0 rfl ?_
     refine r0 rfl ?_
     refine r0 rfl ?_
     refine r0 rfl ?_
     refine rs (v := .bool false) (pkf (v := .bool false) rfl rfl) rfl ?_
     refine rs (v := .bool false) (av (v := .bool false) rfl) rfl ?_
     refine rn ?_
     refine qn ?_
     refine Wret ?_
     replace hc := hc.rem 7 rfl rfl
     replace hc := hc.rem 6 rfl rfl
     replace hc := hc.rem 5 rfl rfl
     replace hc := hc.rem 4 rfl rfl
     replace hc := hc.rem 3 rfl rfl
     replace hc := hc.rem 2 rfl rfl
     replace hc := hc.rem 1 rfl rfl
     replace hc := hc.rem 0 rfl rfl
     injection hp with hp; subst hp
     refine f1 (v := .bool false) Try.results10 Try.ntmps10 rfl ?_
     exact ⟨_, rfl, k _ hc⟩
   · replace hp := gpos hp hb28
     subst hb28
     replace hc : Ctx w27 (Hold (pInt .i32) [.int .i32 5] 5 :: Own (pInt .i8) 38 (.slice a6 r5.1.length q8) r5.1 :: Own (pInt .i8) 38 (.slice a24 2 2) ([32, (-32)]) :: Own (pInt .i8) 38 (.slice a18 r17.1.length q20) r17.1 :: Own (pInt .i32) 21 (.slice a11 1 1) ([65536]) :: Own (pRo (pInt .i8)) 22 (.slice a15 1 1) ([[1, (-2), 3]]) :: Hold (pRo (pInt .i8)) [.slice a13 3 3] ([1, (-2), 3]) :: Own (pInt .i8) 38 (.slice a1 2 2) ([16, 16]) :: Own (pInt .i32) 21 (.slice a3 2 2) ([300, (-300)]) :: Fr) := hc.add _ fun _ _ _ => ⟨rfl, rfl⟩
     replace hc : Ctx w27 (Hold (pInt .i32) [.int .i32 5] 5 :: Hold (pInt .i32) [.int .i32 5] 5 :: Own (pInt .i8) 38 (.slice a6 r5.1.length q8) r5.1 :: Own (pInt .i8) 38 (.slice a24 2 2) ([32, (-32)]) :: Own (pInt .i8) 38 (.slice a18 r17.1.length q20) r17.1 :: Own (pInt .i32) 21 (.slice a11 1 1) ([65536]) :: Own (pRo (pInt .i8)) 22 (.slice a15 1 1) ([[1, (-2), 3]]) :: Hold (pRo (pInt .i8)) [.slice a13 3 3] ([1, (-2), 3]) :: Own (pInt .i8) 38 (.slice a1 2 2) ([16, 16]) :: Own (pInt .i32) 21 (.slice a3 2 2) ([300, (-300)]) :: Fr) := hc.add _ fun _ _ _ => ⟨rfl, rfl⟩
     refine rsE (Ctx.builtOp (css := [[.int .i32 5], [.int .i32 5]]) (xs := ([5, 5] : List Int)) (E := (pInt .i32)) hc Try.underlying23 Try.sizeOf21 Try.zeroValue21 rfl rfl rfl rfl rfl rfl rfl rfl) rfl ?_
     clear hc; rintro _ w30 ⟨a29, rfl, hc⟩
     replace hp := bind_some hp; obtain ⟨r31, hr31, hp⟩ := hp
     refine rc (cl Try.call15 rfl rfl) rfl ?_
     refine norm_Softmax_any reads_own hc hr31 ?_
     clear hc; intro a32 n33 q34 w35 hc
     obtain ⟨u36, _⟩ := Ctx.rdLen hc (k := 0) rfl rfl reads_own; subst u36
     replace hc : Ctx w35 (Hold (pInt .i32) [.int .i32 32768] 32768 :: Own (pInt .i32) 21 (.slice a32 r31.length q34) r31 :: Own (pInt .i32) 21 (.slice a29 2 2) ([5, 5]) :: Own (pInt .i8) 38 (.slice a6 r5.1.length q8) r5.1 :: Own (pInt .i8) 38 (.slice a24 2 2) ([32, (-32)]) :: Own (pInt .i8) 38 (.slice a18 r17.1.length q20) r17.1 :: Own (pInt .i32) 21 (.slice a11 1 1) ([65536]) :: Own (pRo (pInt .i8)) 22 (.slice a15 1 1) ([[1, (-2), 3]]) :: Hold (pRo (pInt .i8)) [.slice a13 3 3] ([1, (-2), 3]) :: Own (pInt .i8) 38 (.slice a1 2 2) ([16, 16]) :: Own (pInt .i32) 21 (.slice a3 2 2) ([300, (-300)]) :: Fr) := hc.add _ fun _ _ _ => ⟨rfl, rfl⟩
     replace hc : Ctx w35 (Hold (pInt .i32) [.int .i32 32768] 32768 :: Hold (pInt .i32) [.int .i32 32768] 32768 :: Own (pInt .i32) 21 (.slice a32 r31.length q34) r31 :: Own (pInt .i32) 21 (.slice a29 2 2) ([5, 5]) :: Own (pInt .i8) 38 (.slice a6 r5.1.length q8) r5.1 :: Own (pInt .i8) 38 (.slice a24 2 2) ([32, (-32)]) :: Own (pInt .i8) 38 (.slice a18 r17.1.length q20) r17.1 :: Own (pInt .i32) 21 (.slice a11 1 1) ([65536]) :: Own (pRo (pInt .i8)) 22 (.slice a15 1 1) ([[1, (-2), 3]]) :: Hold (pRo (pInt .i8)) [.slice a13 3 3] ([1, (-2), 3]) :: Own (pInt .i8) 38 (.slice a1 2 2) ([16, 16]) :: Own (pInt .i32) 21 (.slice a3 2 2) ([300, (-300)]) :: Fr) := hc.add _ fun _ _ _ => ⟨rfl, rfl⟩
     refine rsE (Ctx.builtOp (css := [[.int .i32 32768], [.int .i32 32768]]) (xs := ([32768, 32768] : List Int)) (E := (pInt .i32)) hc Try.underlying23 Try.sizeOf21 Try.zeroValue21 rfl rfl rfl rfl rfl rfl rfl rfl) rfl ?_
     clear hc; rintro _ w38 ⟨a37, rfl, hc⟩
     replace hp := bind_some hp; obtain ⟨r39, hr39, hp⟩ := hp
     replace hc := hc.pull 1 rfl rfl
     refine rc (cl Try.call12 rfl rfl) rfl ?_
     refine ref04_Ints_any reads_own reads_own hc hr39 ?_
     clear hc; intro w40 hc
     refine rs (v := .bool r39) (pkt (v := .bool r39) rfl rfl) rfl ?_
     refine rs (v := .bool r39) (mv (v := .bool r39) rfl) rfl ?_
     cases hb41 : r39
     · replace hp := gneg hp (by rw [hb41]; exact Bool.false_ne_true)
       subst hb41
       refine r0 rfl ?_
       refine r0 rfl ?_
       refine rs (v := .bool false) (pkf (v := .bool false) rfl rfl) rfl ?_
       refine rs (v := .bool false) (mv (v := .bool false) rfl) rfl ?_
       refine r0 rfl ?_
       refine r0 rfl ?_
       refine r0 rfl ?_
       refine rs (v := .bool false) (pkf (v := .bool false) rfl rfl) rfl ?_
       refine rs (v := .bool false) (mv (v := .bool false) rfl) rfl ?_
       refine r0 rfl ?_
       refine r0 rfl ?_
       refine r0 rfl ?_
       refine r0 rfl ?_
       refine rs (v := .bool false) (pkf (v := .bool false) rfl rfl) rfl ?_
       refine rs (v := .bool false) (av (v := .bool false) rfl) rfl ?_
       refine rn ?_
       refine qn ?_
       refine Wret ?_
       replace hc := hc.rem 10 rfl rfl
       replace hc := hc.rem 9 rfl rfl
       replace hc := hc.rem 8 rfl rfl
       replace hc := hc.rem 7 rfl rfl
       replace hc := hc.rem 6 rfl rfl
       replace hc := hc.rem 5 rfl rfl
       replace hc := hc.rem 4 rfl rfl
       replace hc := hc.rem 3 rfl rfl
       replace hc := hc.rem 2 rfl rfl
       replace hc := hc.rem 1 rfl rfl
       replace hc := hc.rem 0 rfl rfl
       injection hp with hp; subst hp
       refine f1 (v := .bool false) Try.results10 Try.ntmps10 rfl ?_
       exact ⟨_, rfl, k _ hc⟩
     · replace hp := gpos hp hb41
       subst hb41
       refine rs (v := .int .i64 r17.2) (mv (v := .int .i64 r17.2) rfl) rfl ?_
       refine rs (v := .bool (decide (r17.2 = 0))) (eqd rfl rfl) rfl ?_
       refine rs (v := .bool (decide (r17.2 = 0))) (pkt (v := .bool (decide (r17.2 = 0))) rfl rfl) rfl ?_
       refine rs (v := .bool (decide (r17.2 = 0))) (mv (v := .bool (decide (r17.2 = 0))) rfl) rfl ?_
       cases hb42 : (decide (r17.2 = 0))
       · replace hp := gneg hp (of_decide_eq_false hb42)
         refine r0 rfl ?_
         refine r0 rfl ?_
         refine r0 rfl ?_
         refine rs (v := .bool false) (pkf (v := .bool false) rfl rfl) rfl ?_
         refine rs (v := .bool false) (mv (v := .bool false) rfl) rfl ?_
         refine r0 rfl ?_
         refine r0 rfl ?_
         refine r0 rfl ?_
         refine r0 rfl ?_
         refine rs (v := .bool false) (pkf (v := .bool false) rfl rfl) rfl ?_
         refine rs (v := .bool false) (av (v := .bool false) rfl) rfl ?_
         refine rn ?_
         refine qn ?_
         refine Wret ?_
         replace hc := hc.rem 10 rfl rfl
         replace hc := hc.rem 9 rfl rfl
         replace hc := hc.rem 8 rfl rfl
         replace hc := hc.rem 7 rfl rfl
         replace hc := hc.rem 6 rfl rfl
         replace hc := hc.rem 5 rfl rfl
         replace hc := hc.rem 4 rfl rfl
         replace hc := hc.rem 3 rfl rfl
         replace hc := hc.rem 2 rfl rfl
         replace hc := hc.rem 1 rfl rfl
         replace hc := hc.rem 0 rfl rfl
         injection hp with hp; subst hp
         refine f1 (v := .bool false) Try.results10 Try.ntmps10 rfl ?_
         exact ⟨_, rfl, k _ hc⟩
       · replace hp := gpos hp (of_decide_eq_true hb42)
         refine rs (v := .slice a18 r17.1.length q20) (mv (v := .slice a18 r17.1.length q20) rfl) rfl ?_
         replace hc : Ctx w40 (Hold (pInt .i8) [.int .i8 3] 3 :: Own (pInt .i32) 21 (.slice a32 r31.length q34) r31 :: Own (pInt .i32) 21 (.slice a37 2 2) ([32768, 32768]) :: Own (pInt .i32) 21 (.slice a29 2 2) ([5, 5]) :: Own (pInt .i8) 38 (.slice a6 r5.1.length q8) r5.1 :: Own (pInt .i8) 38 (.slice a24 2 2) ([32, (-32)]) :: Own (pInt .i8) 38 (.slice a18 r17.1.length q20) r17.1 :: Own (pInt .i32) 21 (.slice a11 1 1) ([65536]) :: Own (pRo (pInt .i8)) 22 (.slice a15 1 1) ([[1, (-2), 3]]) :: Hold (pRo (pInt .i8)) [.slice a13 3 3] ([1, (-2), 3]) :: Own (pInt .i8) 38 (.slice a1 2 2) ([16, 16]) :: Own (pInt .i32) 21 (.slice a3 2 2) ([300, (-300)]) :: Fr) := hc.add _ fun _ _ _ => ⟨rfl, rfl⟩
         replace hc : Ctx w40 (Hold (pInt .i8) [.int .i8 (-2)] (-2) :: Hold (pInt .i8) [.int .i8 3] 3 :: Own (pInt .i32) 21 (.slice a32 r31.length q34) r31 :: Own (pInt .i32) 21 (.slice a37 2 2) ([32768, 32768]) :: Own (pInt .i32) 21 (.slice a29 2 2) ([5, 5]) :: Own (pInt .i8) 38 (.slice a6 r5.1.length q8) r5.1 :: Own (pInt .i8) 38 (.slice a24 2 2) ([32, (-32)]) :: Own (pInt .i8) 38 (.slice a18 r17.1.length q20) r17.1 :: Own (pInt .i32) 21 (.slice a11 1 1) ([65536]) :: Own (pRo (pInt .i8)) 22 (.slice a15 1 1) ([[1, (-2), 3]]) :: Hold (pRo (pInt .i8)) [.slice a13 3 3] ([1, (-2), 3]) :: Own (pInt .i8) 38 (.slice a1 2 2) ([16, 16]) :: Own (pInt .i32) 21 (.slice a3 2 2) ([300, (-300)]) :: Fr) := hc.add _ fun _ _ _ => ⟨rfl, rfl⟩
         replace hc : Ctx w40 (Hold (pInt .i8) [.int .i8 1] 1 :: Hold (pInt .i8) [.int .i8 (-2)] (-2) :: Hold (pInt .i8) [.int .i8 3] 3 :: Own (pInt .i32) 21 (.slice a32 r31.length q34) r31 :: Own (pInt .i32) 21 (.slice a37 2 2) ([32768, 32768]) :: Own (pInt .i32) 21 (.slice a29 2 2) ([5, 5]) :: Own (pInt .i8) 38 (.slice a6 r5.1.length q8) r5.1 :: Own (pInt .i8) 38 (.slice a24 2 2) ([32, (-32)]) :: Own (pInt .i8) 38 (.slice a18 r17.1.length q20) r17.1 :: Own (pInt .i32) 21 (.slice a11 1 1) ([65536]) :: Own (pRo (pInt .i8)) 22 (.slice a15 1 1) ([[1, (-2), 3]]) :: Hold (pRo (pInt .i8)) [.slice a13 3 3] ([1, (-2), 3]) :: Own (pInt .i8) 38 (.slice a1 2 2) ([16, 16]) :: Own (pInt .i32) 21 (.slice a3 2 2) ([300, (-300)]) :: Fr) := hc.add _ fun _ _ _ => ⟨rfl, rfl⟩
         refine rsE (Ctx.builtOp (css := [[.int .i8 1], [.int .i8 (-2)], [.int .i8 3]]) (xs := ([1, (-2), 3] : List Int)) (E := (pInt .i8)) hc Try.underlying22 Try.sizeOf38 Try.zeroValue38 rfl rfl rfl rfl rfl rfl rfl rfl) rfl ?_
         clear hc; rintro _ w44 ⟨a43, rfl, hc⟩
         replace hp := bind_some hp; obtain ⟨r45, hr45, hp⟩ := hp
         replace hc := hc.pull 6 rfl rfl
         refine rc (cl Try.call13 rfl rfl) rfl ?_
         refine ref04_Bytes_any reads_own reads_own hc hr45 ?_
         clear hc; intro w46 hc
         refine rs (v := .bool r45) (pkt (v := .bool r45) rfl rfl) rfl ?_
         refine rs (v := .bool r45) (mv (v := .bool r45) rfl) rfl ?_
         cases hb47 : r45
         · replace hp := gneg hp (by rw [hb47]; exact Bool.false_ne_true)
           subst hb47
           refine r0 rfl ?_
           refine r0 rfl ?_
           refine r0 rfl ?_
           refine r0 rfl ?_
           refine rs (v := .bool false) (pkf (v := .bool false) rfl rfl) rfl ?_
           refine rs (v := .bool false) (av (v := .bool false) rfl) rfl ?_
           refine rn ?_
           refine qn ?_
           refine Wret ?_
           replace hc := hc.rem 11 rfl rfl
           replace hc := hc.rem 10 rfl rfl
           replace hc := hc.rem 9 rfl rfl
           replace hc := hc.rem 8 rfl rfl
           replace hc := hc.rem 7 rfl rfl
           replace hc := hc.rem 6 rfl rfl
           replace hc := hc.rem 5 rfl rfl
           replace hc := hc.rem 4 rfl rfl
           replace hc := hc.rem 3 rfl rfl
           replace hc := hc.rem 2 rfl rfl
           replace hc := hc.rem 1 rfl rfl
           replace hc := hc.rem 0 rfl rfl
           injection hp with hp; subst hp
           refine f1 (v := .bool false) Try.results10 Try.ntmps10 rfl ?_
           exact ⟨_, rfl, k _ hc⟩
         · replace hp := gpos hp hb47
           subst hb47
           replace hc : Ctx w46 (Hold (pInt .i8) [.int .i8 7] 7 :: Own (pInt .i8) 38 (.slice a18 r17.1.length q20) r17.1 :: Own (pInt .i8) 38 (.slice a43 3 3) ([1, (-2), 3]) :: Own (pInt .i32) 21 (.slice a32 r31.length q34) r31 :: Own (pInt .i32) 21 (.slice a37 2 2) ([32768, 32768]) :: Own (pInt .i32) 21 (.slice a29 2 2) ([5, 5]) :: Own (pInt .i8) 38 (.slice a6 r5.1.length q8) r5.1 :: Own (pInt .i8) 38 (.slice a24 2 2) ([32, (-32)]) :: Own (pInt .i32) 21 (.slice a11 1 1) ([65536]) :: Own (pRo (pInt .i8)) 22 (.slice a15 1 1) ([[1, (-2), 3]]) :: Hold (pRo (pInt .i8)) [.slice a13 3 3] ([1, (-2), 3]) :: Own (pInt .i8) 38 (.slice a1 2 2) ([16, 16]) :: Own (pInt .i32) 21 (.slice a3 2 2) ([300, (-300)]) :: Fr) := hc.add _ fun _ _ _ => ⟨rfl, rfl⟩
           replace hc : Ctx w46 (Hold (pInt .i8) [.int .i8 0] 0 :: Hold (pInt .i8) [.int .i8 7] 7 :: Own (pInt .i8) 38 (.slice a18 r17.1.length q20) r17.1 :: Own (pInt .i8) 38 (.slice a43 3 3) ([1, (-2), 3]) :: Own (pInt .i32) 21 (.slice a32 r31.length q34) r31 :: Own (pInt .i32) 21 (.slice a37 2 2) ([32768, 32768]) :: Own (pInt .i32) 21 (.slice a29 2 2) ([5, 5]) :: Own (pInt .i8) 38 (.slice a6 r5.1.length q8) r5.1 :: Own (pInt .i8) 38 (.slice a24 2 2) ([32, (-32)]) :: Own (pInt .i32) 21 (.slice a11 1 1) ([65536]) :: Own (pRo (pInt .i8)) 22 (.slice a15 1 1) ([[1, (-2), 3]]) :: Hold (pRo (pInt .i8)) [.slice a13 3 3] ([1, (-2), 3]) :: Own (pInt .i8) 38 (.slice a1 2 2) ([16, 16]) :: Own (pInt .i32) 21 (.slice a3 2 2) ([300, (-300)]) :: Fr) := hc.add _ fun _ _ _ => ⟨rfl, rfl⟩
           replace hc : Ctx w46 (Hold (pInt .i8) [.int .i8 (-1)] (-1) :: Hold (pInt .i8) [.int .i8 0] 0 :: Hold (pInt .i8) [.int .i8 7] 7 :: Own (pInt .i8) 38 (.slice a18 r17.1.length q20) r17.1 :: Own (pInt .i8) 38 (.slice a43 3 3) ([1, (-2), 3]) :: Own (pInt .i32) 21 (.slice a32 r31.length q34) r31 :: Own (pInt .i32) 21 (.slice a37 2 2) ([32768, 32768]) :: Own (pInt .i32) 21 (.slice a29 2 2) ([5, 5]) :: Own (pInt .i8) 38 (.slice a6 r5.1.length q8) r5.1 :: Own (pInt .i8) 38 (.slice a24 2 2) ([32, (-32)]) :: Own (pInt .i32) 21 (.slice a11 1 1) ([65536]) :: Own (pRo (pInt .i8)) 22 (.slice a15 1 1) ([[1, (-2), 3]]) :: Hold (pRo (pInt .i8)) [.slice a13 3 3] ([1, (-2), 3]) :: Own (pInt .i8) 38 (.slice a1 2 2) ([16, 16]) :: Own (pInt .i32) 21 (.slice a3 2 2) ([300, (-300)]) :: Fr) := hc.add _ fun _ _ _ => ⟨rfl, rfl⟩
           refine rsE (Ctx.builtOp (css := [[.int .i8 (-1)], [.int .i8 0], [.int .i8 7]]) (xs := ([(-1), 0, 7] : List Int)) (E := (pInt .i8)) hc Try.underlying22 Try.sizeOf38 Try.zeroValue38 rfl rfl rfl rfl rfl rfl rfl rfl) rfl ?_
           clear hc; rintro _ w49 ⟨a48, rfl, hc⟩
           replace hp := bind_some hp; obtain ⟨r50, hr50, hp⟩ := hp
           refine rc (cl Try.call17 rfl rfl) rfl ?_
           refine norm_Gate_any reads_own hc hr50 ?_
           clear hc; intro a51 n52 q53 w54 hc
           obtain ⟨u55, _⟩ := Ctx.rdLen hc (k := 0) rfl rfl reads_own; subst u55
           replace hc : Ctx w54 (Hold (pInt .i8) [.int .i8 7] 7 :: Own (pInt .i8) 38 (.slice a51 r50.length q53) r50 :: Own (pInt .i8) 38 (.slice a48 3 3) ([(-1), 0, 7]) :: Own (pInt .i8) 38 (.slice a18 r17.1.length q20) r17.1 :: Own (pInt .i8) 38 (.slice a43 3 3) ([1, (-2), 3]) :: Own (pInt .i32) 21 (.slice a32 r31.length q34) r31 :: Own (pInt .i32) 21 (.slice a37 2 2) ([32768, 32768]) :: Own (pInt .i32) 21 (.slice a29 2 2) ([5, 5]) :: Own (pInt .i8) 38 (.slice a6 r5.1.length q8) r5.1 :: Own (pInt .i8) 38 (.slice a24 2 2) ([32, (-32)]) :: Own (pInt .i32) 21 (.slice a11 1 1) ([65536]) :: Own (pRo (pInt .i8)) 22 (.slice a15 1 1) ([[1, (-2), 3]]) :: Hold (pRo (pInt .i8)) [.slice a13 3 3] ([1, (-2), 3]) :: Own (pInt .i8) 38 (.slice a1 2 2) ([16, 16]) :: Own (pInt .i32) 21 (.slice a3 2 2) ([300, (-300)]) :: Fr) := hc.add _ fun _ _ _ => ⟨rfl, rfl⟩
           replace hc : Ctx w54 (Hold (pInt .i8) [.int .i8 0] 0 :: Hold (pInt .i8) [.int .i8 7] 7 :: Own (pInt .i8) 38 (.slice a51 r50.length q53) r50 :: Own (pInt .i8) 38 (.slice a48 3 3) ([(-1), 0, 7]) :: Own (pInt .i8) 38 (.slice a18 r17.1.length q20) r17.1 :: Own (pInt .i8) 38 (.slice a43 3 3) ([1, (-2), 3]) :: Own (pInt .i32) 21 (.slice a32 r31.length q34) r31 :: Own (pInt .i32) 21 (.slice a37 2 2) ([32768, 32768]) :: Own (pInt .i32) 21 (.slice a29 2 2) ([5, 5]) :: Own (pInt .i8) 38 (.slice a6 r5.1.length q8) r5.1 :: Own (pInt .i8) 38 (.slice a24 2 2) ([32, (-32)]) :: Own (pInt .i32) 21 (.slice a11 1 1) ([65536]) :: Own (pRo (pInt .i8)) 22 (.slice a15 1 1) ([[1, (-2), 3]]) :: Hold (pRo (pInt .i8)) [.slice a13 3 3] ([1, (-2), 3]) :: Own (pInt .i8) 38 (.slice a1 2 2) ([16, 16]) :: Own (pInt .i32) 21 (.slice a3 2 2) ([300, (-300)]) :: Fr) := hc.add _ fun _ _ _ => ⟨rfl, rfl⟩
           replace hc : Ctx w54 (Hold (pInt .i8) [.int .i8 0] 0 :: Hold (pInt .i8) [.int .i8 0] 0 :: Hold (pInt .i8) [.int .i8 7] 7 :: Own (pInt .i8) 38 (.slice a51 r50.length q53) r50 :: Own (pInt .i8) 38 (.slice a48 3 3) ([(-1), 0, 7]) :: Own (pInt .i8) 38 (.slice a18 r17.1.length q20) r17.1 :: Own (pInt .i8) 38 (.slice a43 3 3) ([1, (-2), 3]) :: Own (pInt .i32) 21 (.slice a32 r31.length q34) r31 :: Own (pInt .i32) 21 (.slice a37 2 2) ([32768, 32768]) :: Own (pInt .i32) 21 (.slice a29 2 2) ([5, 5]) :: Own (pInt .i8) 38 (.slice a6 r5.1.length q8) r5.1 :: Own (pInt .i8) 38 (.slice a24 2 2) ([32, (-32)]) :: Own (pInt .i32) 21 (.slice a11 1 1) ([65536]) :: Own (pRo (pInt .i8)) 22 (.slice a15 1 1) ([[1, (-2), 3]]) :: Hold (pRo (pInt .i8)) [.slice a13 3 3] ([1, (-2), 3]) :: Own (pInt .i8) 38 (.slice a1 2 2) ([16, 16]) :: Own (pInt .i32) 21 (.slice a3 2 2) ([300, (-300)]) :: Fr) := hc.add _ fun _ _ _ => ⟨rfl, rfl⟩
           refine rsE (Ctx.builtOp (css := [[.int .i8 0], [.int .i8 0], [.int .i8 7]]) (xs := ([0, 0, 7] : List Int)) (E := (pInt .i8)) hc Try.underlying22 Try.sizeOf38 Try.zeroValue38 rfl rfl rfl rfl rfl rfl rfl rfl) rfl ?_
           clear hc; rintro _ w57 ⟨a56, rfl, hc⟩
           replace hp := bind_some hp; obtain ⟨r58, hr58, hp⟩ := hp
           replace hc := hc.pull 1 rfl rfl
           refine rc (cl Try.call13 rfl rfl) rfl ?_
           refine ref04_Bytes_any reads_own reads_own hc hr58 ?_
           clear hc; intro w59 hc
           refine rs (v := .bool r58) (pkt (v := .bool r58) rfl rfl) rfl ?_
           refine rs (v := .bool r58) (av (v := .bool r58) rfl) rfl ?_
           refine rn ?_
           refine qn ?_
           refine Wret ?_
           replace hc := hc.rem 14 rfl rfl
           replace hc := hc.rem 13 rfl rfl
           replace hc := hc.rem 12 rfl rfl
           replace hc := hc.rem 11 rfl rfl
           replace hc := hc.rem 10 rfl rfl
           replace hc := hc.rem 9 rfl rfl
           replace hc := hc.rem 8 rfl rfl
           replace hc := hc.rem 7 rfl rfl
           replace hc := hc.rem 6 rfl rfl
           replace hc := hc.rem 5 rfl rfl
           replace hc := hc.rem 4 rfl rfl
           replace hc := hc.rem 3 rfl rfl
           replace hc := hc.rem 2 rfl rfl
           replace hc := hc.rem 1 rfl rfl
           replace hc := hc.rem 0 rfl rfl
           injection hp with hp; subst hp
           refine f1 (v := .bool r58) Try.results10 Try.ntmps10 rfl ?_
           exact ⟨_, rfl, k _ hc⟩

-- FN peloton/pelotonlaw05.NormMixes
def law05_NormMixes.J2 (N : Nat) (x2 : S_law05_Joined) (j36 : Bool) : Option (Bool) :=
  if j36 = true then
    some false
  else
    (norm_Join N x2.X x2.Y x2.By x2.N).bind fun r46 =>
    if ((x2.X.length : Nat) : Int) ≠ ((x2.Y.length : Nat) : Int) then
      if r46.2 = 30 then
        some (decide (((r46.1.length : Nat) : Int) = 0))
      else
        some false
    else
      if r46.2 = 0 then
        (ref05_Join N x2.X x2.Y x2.By x2.N).bind fun r54 =>
        (ref04_Ints N r46.1 r54).bind fun r60 =>
        some r60
      else
        some false

def law05_NormMixes.L3 (x1 : (List (List Int))) (j21 : Int) (r88 : ((List Int))) (k1 : Int → Option (Bool)) : Nat → Int → Option (Bool)
  | 0, _ => none
  | m3 + 1, j107 =>
    if j107 < ((r88.length : Nat) : Int) then
      (idx r88 j107).bind fun y111 =>
      (idx x1 j21).bind fun y120 =>
      (idx y120 j107).bind fun y132 =>
      if y111 ≠ (max y132 0) then
        some false
      else
        (law05_NormMixes.L3 x1 j21 r88 k1 m3) (IntKind.i64.wrap (j107 + 1))
    else
      k1 (IntKind.i64.wrap (j21 + 1))

def law05_NormMixes.L1 (N : Nat) (x0 : (List Int)) (x1 : (List (List Int))) (x2 : S_law05_Joined) : Nat → Int → Option (Bool)
  | 0, _ => none
  | m1 + 1, j21 =>
    if j21 < ((x1.length : Nat) : Int) then
      (idx x1 j21).bind fun y63 =>
      if ((y63.length : Nat) : Int) > 200 then
        some true
      else
        (idx x1 j21).bind fun y76 =>
        (norm_Gate N y76).bind fun r88 =>
        (idx x1 j21).bind fun y94 =>
        if ((r88.length : Nat) : Int) ≠ ((y94.length : Nat) : Int) then
          some false
        else
          law05_NormMixes.L3 x1 j21 r88 (law05_NormMixes.L1 N x0 x1 x2 m1) N 0
    else
      (norm_Mix N x0 x1).bind fun r24 =>
      (ref05_Mix N x0 x1).bind fun r30 =>
      if (!(r30.2 == (decide (r24.2 = 0)))) = true then
        law05_NormMixes.J2 N x2 true
      else
        if r30.2 = true then
          (ref04_Bytes N r24.1 r30.1).bind fun r41 =>
          if r41 = true then
            law05_NormMixes.J2 N x2 false
          else
            law05_NormMixes.J2 N x2 true
        else
          if r24.2 ≠ 30 then
            law05_NormMixes.J2 N x2 true
          else
            if ((r24.1.length : Nat) : Int) ≠ 0 then
              law05_NormMixes.J2 N x2 true
            else
              law05_NormMixes.J2 N x2 false

def law05_NormMixes (N : Nat) (x0 : (List Int)) (x1 : (List (List Int))) (x2 : S_law05_Joined) : Option (Bool) :=
  (law05_awake N).bind fun r12 =>
  if r12 = true then
    if ((x0.length : Nat) : Int) > 60 then
      (law05_awake N).bind fun r148 =>
      some r148
    else
      if ((x1.length : Nat) : Int) > 60 then
        (law05_awake N).bind fun r146 =>
        some r146
      else
        if ((x2.X.length : Nat) : Int) > 200 then
          (law05_awake N).bind fun r144 =>
          some r144
        else
          if ((x2.Y.length : Nat) : Int) > 200 then
            (law05_awake N).bind fun r142 =>
            some r142
          else
            law05_NormMixes.L1 N x0 x1 x2 N 0
  else
    (law05_awake N).bind fun r15 =>
    some r15

set_option maxHeartbeats 8000000 in
theorem law05_NormMixes_any {N : Nat} {x0 : (List Int)} {ax0 : Option Addr} {nx0 : Nat} {qx0 : Nat} {P0 : HP} {x1 : (List (List Int))} {ax1 : Option Addr} {nx1 : Nat} {qx1 : Nat} {P1 : HP} {x2 : S_law05_Joined} {a1 : Option Addr} {n2 : Nat} {q3 : Nat} {a4 : Option Addr} {n5 : Nat} {q6 : Nat} {Fr : List HP} {w : World} {r : Bool} {K : Value → World → Prop} (hrd0 : Reads P0 (pInt .i32) (.slice ax0 nx0 qx0) x0) (hrd1 : Reads P1 (pRo (pInt .i8)) (.slice ax1 nx1 qx1) x1) (hc : Ctx w (P0 :: P1 :: Hold (pRo (pInt .i32)) [.slice a1 n2 q3] x2.X :: Hold (pRo (pInt .i32)) [.slice a4 n5 q6] x2.Y :: Fr)) (hp : law05_NormMixes N x0 x1 x2 = some r)
    (k : ∀ w', Ctx w' (P0 :: P1 :: Fr) → K (.bool r) w') : Calls Try.prog 8 #[.slice ax0 nx0 qx0, .slice ax1 nx1 qx1, .agg #[.slice a1 n2 q3, .slice a4 n5 q6, .int .i32 x2.By, .int .i64 x2.N]] w (Ret K) := by
 unfold law05_NormMixes at hp
 refine Center (args := [.slice ax0 nx0 qx0, .slice ax1 nx1 qx1, .agg #[.slice a1 n2 q3, .slice a4 n5 q6, .int .i32 x2.By, .int .i64 x2.N]]) (l := [(0, .slice ax0 nx0 qx0), (1, .slice ax1 nx1 qx1), (2, .agg #[.slice a1 n2 q3, .slice a4 n5 q6, .int .i32 x2.By, .int .i64 x2.N])]) Try.func8 Try.ntmps8 rfl rfl rfl ?_
 obtain ⟨hn0, _⟩ := Ctx.rdLen hc (k := 0) rfl rfl hrd0; subst hn0
 obtain ⟨hn1, _⟩ := Ctx.rdLen hc (k := 1) rfl rfl hrd1; subst hn1
 obtain ⟨u7, _⟩ := Ctx.rdLen hc (k := 2) rfl rfl reads_ro; subst u7
 obtain ⟨u8, _⟩ := Ctx.rdLen hc (k := 3) rfl rfl reads_ro; subst u8
 refine Wseq ?_
 refine Wreg ?_
 refine rsE (Ctx.boxOp (cs := [.slice a1 x2.X.length q3, .slice a4 x2.Y.length q6, .int .i32 x2.By, .int .i64 x2.N]) (v := .agg #[.slice a1 x2.X.length q3, .slice a4 x2.Y.length q6, .int .i32 x2.By, .int .i64 x2.N]) hc rfl rfl) rfl ?_
 clear hc; rintro _ w11 ⟨b9, rfl, hc⟩
 refine rs (v := .bool false) (av (v := .bool false) rfl) rfl ?_
 refine rn ?_
 refine qn ?_
 refine Wseq ?_
 refine Wseq ?_
 refine Wreg ?_
 replace hp := bind_some hp; obtain ⟨r12, hr12, hp⟩ := hp
 refine rc (cl Try.call10 rfl rfl) rfl ?_
 refine law05_awake_any hc hr12 ?_
 clear hc; intro w13 hc
 cases hb14 : r12
 · replace hp := gneg hp (by rw [hb14]; exact Bool.false_ne_true)
   subst hb14
   refine rs (v := .bool true) (ntf rfl) rfl ?_
   refine rs (v := .bool true) (mv (v := .bool true) rfl) rfl ?_
   refine r0 rfl ?_
   refine r0 rfl ?_
   refine r0 rfl ?_
   refine rs (v := .bool true) (pkt (v := .bool true) rfl rfl) rfl ?_
   refine rs (v := .bool true) (mv (v := .bool true) rfl) rfl ?_
   refine r0 rfl ?_
   refine r0 rfl ?_
   refine r0 rfl ?_
   refine rs (v := .bool true) (pkt (v := .bool true) rfl rfl) rfl ?_
   refine rs (v := .bool true) (mv (v := .bool true) rfl) rfl ?_
   refine r0 rfl ?_
   refine r0 rfl ?_
   refine r0 rfl ?_
   refine r0 rfl ?_
   refine rs (v := .bool true) (pkt (v := .bool true) rfl rfl) rfl ?_
   refine rs (v := .bool true) (mv (v := .bool true) rfl) rfl ?_
   refine r0 rfl ?_
   refine r0 rfl ?_
   refine r0 rfl ?_
   refine r0 rfl ?_
   refine rs (v := .bool true) (pkt (v := .bool true) rfl rfl) rfl ?_
   refine rn ?_
   refine qn ?_
   refine Wct rfl ?_
   refine Wseq ?_
   refine Wreg ?_
   replace hp := bind_some hp; obtain ⟨r15, hr15, hp⟩ := hp
   refine rc (cl Try.call10 rfl rfl) rfl ?_
   refine law05_awake_any hc hr15 ?_
   clear hc; intro w16 hc
   refine rs (v := .bool r15) (av (v := .bool r15) rfl) rfl ?_
   refine rn ?_
   refine qn ?_
   refine Wret ?_
   refine qr ?_
   replace hc := hc.rem 4 rfl rfl
   replace hc := hc.rem 3 rfl rfl
   replace hc := hc.rem 0 rfl rfl
   injection hp with hp; subst hp
   refine f1 (v := .bool r15) Try.results8 Try.ntmps8 rfl ?_
   exact ⟨_, rfl, k _ hc⟩
 · replace hp := gpos hp hb14
   subst hb14
   refine rs (v := .bool false) (ntt rfl) rfl ?_
   refine rs (v := .bool false) (mv (v := .bool false) rfl) rfl ?_
   refine rs (v := .slice ax0 x0.length qx0) (mv (v := .slice ax0 x0.length qx0) rfl) rfl ?_
   refine rs (v := .int .i64 ((x0.length : Nat) : Int)) (ln rfl Try.underlying23) rfl ?_
   refine rs (v := .bool (decide (((x0.length : Nat) : Int) > 60))) (gt' rfl rfl) rfl ?_
   refine rs (v := .bool (decide (((x0.length : Nat) : Int) > 60))) (pkf (v := .bool (decide (((x0.length : Nat) : Int) > 60))) rfl rfl) rfl ?_
   refine rs (v := .bool (decide (((x0.length : Nat) : Int) > 60))) (mv (v := .bool (decide (((x0.length : Nat) : Int) > 60))) rfl) rfl ?_
   cases hb17 : (decide (((x0.length : Nat) : Int) > 60))
   · replace hp := gneg hp (of_decide_eq_false hb17)
     refine rs (v := .slice ax1 x1.length qx1) (mv (v := .slice ax1 x1.length qx1) rfl) rfl ?_
     refine rs (v := .int .i64 ((x1.length : Nat) : Int)) (ln rfl Try.underlying40) rfl ?_
     refine rs (v := .bool (decide (((x1.length : Nat) : Int) > 60))) (gt' rfl rfl) rfl ?_
     refine rs (v := .bool (decide (((x1.length : Nat) : Int) > 60))) (pkf (v := .bool (decide (((x1.length : Nat) : Int) > 60))) rfl rfl) rfl ?_
     refine rs (v := .bool (decide (((x1.length : Nat) : Int) > 60))) (mv (v := .bool (decide (((x1.length : Nat) : Int) > 60))) rfl) rfl ?_
     cases hb18 : (decide (((x1.length : Nat) : Int) > 60))
     · replace hp := gneg hp (of_decide_eq_false hb18)
       refine rs (v := .pointer (some ⟨b9, 0, none⟩)) (fax 0 rfl Try.underlying42 rfl Try.sizeOf23 rfl rfl rfl) rfl ?_
       refine rs (v := .slice a1 x2.X.length q3) (ld rfl Try.isAgg23 (Ctx.cell hc (k := 0) rfl rfl rfl)) rfl ?_
       refine rs (v := .int .i64 ((x2.X.length : Nat) : Int)) (ln rfl Try.underlying23) rfl ?_
       refine rs (v := .bool (decide (((x2.X.length : Nat) : Int) > 200))) (gt' rfl rfl) rfl ?_
       refine rs (v := .bool (decide (((x2.X.length : Nat) : Int) > 200))) (pkf (v := .bool (decide (((x2.X.length : Nat) : Int) > 200))) rfl rfl) rfl ?_
       refine rs (v := .bool (decide (((x2.X.length : Nat) : Int) > 200))) (mv (v := .bool (decide (((x2.X.length : Nat) : Int) > 200))) rfl) rfl ?_
       cases hb19 : (decide (((x2.X.length : Nat) : Int) > 200))
       · replace hp := gneg hp (of_decide_eq_false hb19)
         refine rs (v := .pointer (some ⟨b9, 1, none⟩)) (fax 1 rfl Try.underlying42 rfl Try.sizeOf23 rfl rfl rfl) rfl ?_
         refine rs (v := .slice a4 x2.Y.length q6) (ld rfl Try.isAgg23 (Ctx.cell hc (k := 0) rfl rfl rfl)) rfl ?_
         refine rs (v := .int .i64 ((x2.Y.length : Nat) : Int)) (ln rfl Try.underlying23) rfl ?_
         refine rs (v := .bool (decide (((x2.Y.length : Nat) : Int) > 200))) (gt' rfl rfl) rfl ?_
         refine rs (v := .bool (decide (((x2.Y.length : Nat) : Int) > 200))) (pkf (v := .bool (decide (((x2.Y.length : Nat) : Int) > 200))) rfl rfl) rfl ?_
         refine rn ?_
         refine qn ?_
         cases hb20 : (decide (((x2.Y.length : Nat) : Int) > 200))
         · replace hp := gneg hp (of_decide_eq_false hb20)
           refine Wcf rfl ?_
           refine Wskip ?_
           refine qn ?_
           refine Wseq ?_
           refine Wseq ?_
           refine Wreg ?_
           refine rs (v := .int .i64 0) (av (v := .int .i64 0) rfl) rfl ?_
           refine rn ?_
           refine qn ?_
           refine Wblk ?_
           refine Wloop [6, 7, 8, 9, 41, 42, 43, 44, 45, 46, 47, 48, 49, 50, 51, 52, 53, 54, 55, 56, 57, 58, 59, 60, 61, 62, 63, 64, 65, 66, 67, 68, 69, 70, 71, 72, 73, 74, 75, 76, 77, 78, 79, 80, 81, 82, 83, 84] [7] (fun m vs w' => ∃ j21 : Int, vs = [.int .i64 j21] ∧ law05_NormMixes.L1 N x0 x1 x2 m j21 = some r ∧ Ctx w' (B b9 [.slice a1 x2.X.length q3, .slice a4 x2.Y.length q6, .int .i32 x2.By, .int .i64 x2.N] 42 :: P0 :: P1 :: Hold (pRo (pInt .i32)) [.slice a1 x2.X.length q3] x2.X :: Hold (pRo (pInt .i32)) [.slice a4 x2.Y.length q6] x2.Y :: Fr)) N ?_ ?_
           · exact ⟨0, rfl, hp, hc⟩
           · clear hp hc; intro m vs u w22 hJ
             obtain ⟨j21, rfl, hp, hc⟩ := hJ
             rcases m with _ | m1
             · cases (show none = some r from hp)
             rw [law05_NormMixes.L1] at hp
             refine Wseq ?_
             refine Wseq ?_
             refine Wreg ?_
             refine rs (v := .int .i64 j21) (mv (v := .int .i64 j21) rfl) rfl ?_
             refine rs (v := .slice ax1 x1.length qx1) (mv (v := .slice ax1 x1.length qx1) rfl) rfl ?_
             refine rs (v := .int .i64 ((x1.length : Nat) : Int)) (ln rfl Try.underlying40) rfl ?_
             refine rs (v := .bool (decide (j21 < ((x1.length : Nat) : Int)))) (lt' rfl rfl) rfl ?_
             refine rn ?_
             refine qn ?_
             cases hb23 : (decide (j21 < ((x1.length : Nat) : Int)))
             · replace hp := gneg hp (of_decide_eq_false hb23)
               refine Wcf rfl ?_
               refine Wexit ?_
               refine qx ?_
               refine qx ?_
               refine be ?_
               refine qn ?_
               refine Wseq ?_
               refine Wreg ?_
               refine rs (v := .slice ax0 x0.length qx0) (mv (v := .slice ax0 x0.length qx0) rfl) rfl ?_
               refine rs (v := .slice ax1 x1.length qx1) (mv (v := .slice ax1 x1.length qx1) rfl) rfl ?_
               replace hp := bind_some hp; obtain ⟨r24, hr24, hp⟩ := hp
               replace hc := hc.pull 2 rfl rfl
               replace hc := hc.pull 2 rfl rfl
               refine rc (cl Try.call18 rfl rfl) rfl ?_
               refine norm_Mix_any hrd0 hrd1 hc hr24 ?_
               clear hc; intro a25 n26 q27 w28 hc
               obtain ⟨u29, _⟩ := Ctx.rdLen hc (k := 0) rfl rfl reads_own; subst u29
               refine rs (v := .tuple #[.slice a25 r24.1.length q27, .int .i64 r24.2]) (mv (v := .tuple #[.slice a25 r24.1.length q27, .int .i64 r24.2]) rfl) rfl ?_
               refine rs (v := .slice a25 r24.1.length q27) (ext (v := .slice a25 r24.1.length q27) rfl rfl) rfl ?_
               refine rs (v := .int .i64 r24.2) (ext (v := .int .i64 r24.2) rfl rfl) rfl ?_
               refine rs (v := .slice a25 r24.1.length q27) (av (v := .slice a25 r24.1.length q27) rfl) rfl ?_
               refine rs (v := .int .i64 r24.2) (av (v := .int .i64 r24.2) rfl) rfl ?_
               refine rn ?_
               refine qn ?_
               refine Wseq ?_
               refine Wreg ?_
               refine rs (v := .slice ax0 x0.length qx0) (mv (v := .slice ax0 x0.length qx0) rfl) rfl ?_
               refine rs (v := .slice ax1 x1.length qx1) (mv (v := .slice ax1 x1.length qx1) rfl) rfl ?_
               replace hp := bind_some hp; obtain ⟨r30, hr30, hp⟩ := hp
               replace hc := hc.pull 2 rfl rfl
               replace hc := hc.pull 2 rfl rfl
               refine rc (cl Try.call19 rfl rfl) rfl ?_
               refine ref05_Mix_any hrd0 hrd1 hc hr30 ?_
               clear hc; intro a31 n32 q33 w34 hc
               obtain ⟨u35, _⟩ := Ctx.rdLen hc (k := 0) rfl rfl reads_own; subst u35
               refine rs (v := .tuple #[.slice a31 r30.1.length q33, .bool r30.2]) (mv (v := .tuple #[.slice a31 r30.1.length q33, .bool r30.2]) rfl) rfl ?_
               refine rs (v := .slice a31 r30.1.length q33) (ext (v := .slice a31 r30.1.length q33) rfl rfl) rfl ?_
               refine rs (v := .bool r30.2) (ext (v := .bool r30.2) rfl rfl) rfl ?_
               refine rs (v := .slice a31 r30.1.length q33) (av (v := .slice a31 r30.1.length q33) rfl) rfl ?_
               refine rs (v := .bool r30.2) (av (v := .bool r30.2) rfl) rfl ?_
               refine rn ?_
               refine qn ?_
               refine Wseq ?_
               refine Wseqm [97, 98, 99, 100, 101, 102, 103, 104, 105, 106, 107, 108, 109, 110, 111, 112, 113, 114, 115, 116, 117, 118, 119, 120, 121, 122] [122] (fun vs w' => ∃ j36 : Bool, vs = [.bool j36] ∧ law05_NormMixes.J2 N x2 j36 = some r ∧ Ctx w' (P0 :: P1 :: B b9 [.slice a1 x2.X.length q3, .slice a4 x2.Y.length q6, .int .i32 x2.By, .int .i64 x2.N] 42 :: Hold (pRo (pInt .i32)) [.slice a1 x2.X.length q3] x2.X :: Hold (pRo (pInt .i32)) [.slice a4 x2.Y.length q6] x2.Y :: Fr)) ?_ ?_
               · refine Wreg ?_
                 refine rs (v := .bool r30.2) (mv (v := .bool r30.2) rfl) rfl ?_
                 refine rs (v := .int .i64 r24.2) (mv (v := .int .i64 r24.2) rfl) rfl ?_
                 refine rs (v := .bool (decide (r24.2 = 0))) (eqd rfl rfl) rfl ?_
                 refine rs (v := .bool (!(r30.2 == (decide (r24.2 = 0))))) (neb Try.underlying4 rfl rfl) rfl ?_
                 refine rs (v := .bool (!(r30.2 == (decide (r24.2 = 0))))) (mv (v := .bool (!(r30.2 == (decide (r24.2 = 0))))) rfl) rfl ?_
                 cases hb37 : (!(r30.2 == (decide (r24.2 = 0))))
                 · replace hp := gneg hp (by rw [hb37]; exact Bool.false_ne_true)
                   refine rs (v := .bool r30.2) (mv (v := .bool r30.2) rfl) rfl ?_
                   cases hb38 : r30.2
                   · replace hp := gneg hp (by rw [hb38]; exact Bool.false_ne_true)
                     refine rs (v := .bool true) (ntf rfl) rfl ?_
                     refine rs (v := .bool true) (mv (v := .bool true) rfl) rfl ?_
                     refine rs (v := .int .i64 r24.2) (mv (v := .int .i64 r24.2) rfl) rfl ?_
                     refine rs (v := .bool (decide (r24.2 ≠ 30))) (ned rfl rfl) rfl ?_
                     refine rs (v := .bool (decide (r24.2 ≠ 30))) (mv (v := .bool (decide (r24.2 ≠ 30))) rfl) rfl ?_
                     cases hb39 : (decide (r24.2 ≠ 30))
                     · replace hp := gneg hp (of_decide_eq_false hb39)
                       refine rs (v := .slice a25 r24.1.length q27) (mv (v := .slice a25 r24.1.length q27) rfl) rfl ?_
                       refine rs (v := .int .i64 ((r24.1.length : Nat) : Int)) (ln rfl Try.underlying22) rfl ?_
                       refine rs (v := .bool (decide (((r24.1.length : Nat) : Int) ≠ 0))) (ned rfl rfl) rfl ?_
                       refine rs (v := .bool (decide (((r24.1.length : Nat) : Int) ≠ 0))) (pkf (v := .bool (decide (((r24.1.length : Nat) : Int) ≠ 0))) rfl rfl) rfl ?_
                       refine rs (v := .bool (decide (((r24.1.length : Nat) : Int) ≠ 0))) (pkt (v := .bool (decide (((r24.1.length : Nat) : Int) ≠ 0))) rfl rfl) rfl ?_
                       refine rs (v := .bool (decide (((r24.1.length : Nat) : Int) ≠ 0))) (pkf (v := .bool (decide (((r24.1.length : Nat) : Int) ≠ 0))) rfl rfl) rfl ?_
                       refine rs (v := .bool (decide (((r24.1.length : Nat) : Int) ≠ 0))) (mv (v := .bool (decide (((r24.1.length : Nat) : Int) ≠ 0))) rfl) rfl ?_
                       cases hb40 : (decide (((r24.1.length : Nat) : Int) ≠ 0))
                       · replace hp := gneg hp (of_decide_eq_false hb40)
                         refine rs (v := .bool false) (mv (v := .bool false) rfl) rfl ?_
                         refine rs (v := .bool false) (mv (v := .bool false) rfl) rfl ?_
                         refine r0 rfl ?_
                         refine r0 rfl ?_
                         refine r0 rfl ?_
                         refine r0 rfl ?_
                         refine rs (v := .bool false) (pkf (v := .bool false) rfl rfl) rfl ?_
                         refine rs (v := .bool false) (pkf (v := .bool false) rfl rfl) rfl ?_
                         refine rn ?_
                         refine qn ?_
                         replace hc := hc.rem 3 rfl rfl
                         replace hc := hc.rem 0 rfl rfl
                         exact ⟨⟨false, rfl, hp, hc⟩, (kl rfl kb)⟩
                       · replace hp := gpos hp (of_decide_eq_true hb40)
                         refine r0 rfl ?_
                         refine r0 rfl ?_
                         refine r0 rfl ?_
                         refine r0 rfl ?_
                         refine r0 rfl ?_
                         refine r0 rfl ?_
                         refine r0 rfl ?_
                         refine rs (v := .bool true) (pkt (v := .bool true) rfl rfl) rfl ?_
                         refine rn ?_
                         refine qn ?_
                         replace hc := hc.rem 3 rfl rfl
                         replace hc := hc.rem 0 rfl rfl
                         exact ⟨⟨true, rfl, hp, hc⟩, (kl rfl kb)⟩
                     · replace hp := gpos hp (of_decide_eq_true hb39)
                       refine r0 rfl ?_
                       refine r0 rfl ?_
                       refine r0 rfl ?_
                       refine rs (v := .bool true) (pkt (v := .bool true) rfl rfl) rfl ?_
                       refine rs (v := .bool true) (pkt (v := .bool true) rfl rfl) rfl ?_
                       refine rs (v := .bool true) (pkf (v := .bool true) rfl rfl) rfl ?_
                       refine rs (v := .bool true) (mv (v := .bool true) rfl) rfl ?_
                       refine r0 rfl ?_
                       refine r0 rfl ?_
                       refine r0 rfl ?_
                       refine r0 rfl ?_
                       refine r0 rfl ?_
                       refine r0 rfl ?_
                       refine r0 rfl ?_
                       refine rs (v := .bool true) (pkt (v := .bool true) rfl rfl) rfl ?_
                       refine rn ?_
                       refine qn ?_
                       replace hc := hc.rem 3 rfl rfl
                       replace hc := hc.rem 0 rfl rfl
                       exact ⟨⟨true, rfl, hp, hc⟩, (kl rfl kb)⟩
                   · replace hp := gpos hp hb38
                     refine rs (v := .bool false) (ntt rfl) rfl ?_
                     refine rs (v := .bool false) (mv (v := .bool false) rfl) rfl ?_
                     refine r0 rfl ?_
                     refine r0 rfl ?_
                     refine r0 rfl ?_
                     refine r0 rfl ?_
                     refine r0 rfl ?_
                     refine r0 rfl ?_
                     refine r0 rfl ?_
                     refine rs (v := .bool false) (pkf (v := .bool false) rfl rfl) rfl ?_
                     refine rs (v := .bool false) (pkf (v := .bool false) rfl rfl) rfl ?_
                     refine rs (v := .bool false) (mv (v := .bool false) rfl) rfl ?_
                     refine rs (v := .bool true) (mv (v := .bool true) rfl) rfl ?_
                     refine rs (v := .bool true) (mv (v := .bool true) rfl) rfl ?_
                     refine rs (v := .slice a25 r24.1.length q27) (mv (v := .slice a25 r24.1.length q27) rfl) rfl ?_
                     refine rs (v := .slice a31 r30.1.length q33) (mv (v := .slice a31 r30.1.length q33) rfl) rfl ?_
                     replace hp := bind_some hp; obtain ⟨r41, hr41, hp⟩ := hp
                     replace hc := hc.pull 3 rfl rfl
                     refine rc (cl Try.call13 rfl rfl) rfl ?_
                     refine ref04_Bytes_any reads_own reads_own hc hr41 ?_
                     clear hc; intro w42 hc
                     cases hb43 : r41
                     · replace hp := gneg hp (by rw [hb43]; exact Bool.false_ne_true)
                       subst hb43
                       refine rs (v := .bool true) (ntf rfl) rfl ?_
                       refine rs (v := .bool true) (pkt (v := .bool true) rfl rfl) rfl ?_
                       refine rs (v := .bool true) (pkf (v := .bool true) rfl rfl) rfl ?_
                       refine rn ?_
                       refine qn ?_
                       replace hc := hc.rem 1 rfl rfl
                       replace hc := hc.rem 0 rfl rfl
                       exact ⟨⟨true, rfl, hp, hc⟩, (kl rfl kb)⟩
                     · replace hp := gpos hp hb43
                       subst hb43
                       refine rs (v := .bool false) (ntt rfl) rfl ?_
                       refine rs (v := .bool false) (pkt (v := .bool false) rfl rfl) rfl ?_
                       refine rs (v := .bool false) (pkf (v := .bool false) rfl rfl) rfl ?_
                       refine rn ?_
                       refine qn ?_
                       replace hc := hc.rem 1 rfl rfl
                       replace hc := hc.rem 0 rfl rfl
                       exact ⟨⟨false, rfl, hp, hc⟩, (kl rfl kb)⟩
                 · replace hp := gpos hp hb37
                   refine r0 rfl ?_
                   refine r0 rfl ?_
                   refine r0 rfl ?_
                   refine r0 rfl ?_
                   refine r0 rfl ?_
                   refine r0 rfl ?_
                   refine r0 rfl ?_
                   refine r0 rfl ?_
                   refine r0 rfl ?_
                   refine r0 rfl ?_
                   refine r0 rfl ?_
                   refine rs (v := .bool true) (pkt (v := .bool true) rfl rfl) rfl ?_
                   refine rs (v := .bool true) (mv (v := .bool true) rfl) rfl ?_
                   refine r0 rfl ?_
                   refine r0 rfl ?_
                   refine r0 rfl ?_
                   refine r0 rfl ?_
                   refine r0 rfl ?_
                   refine r0 rfl ?_
                   refine r0 rfl ?_
                   refine rs (v := .bool true) (pkt (v := .bool true) rfl rfl) rfl ?_
                   refine rn ?_
                   refine qn ?_
                   replace hc := hc.rem 3 rfl rfl
                   replace hc := hc.rem 0 rfl rfl
                   exact ⟨⟨true, rfl, hp, hc⟩, (kl rfl kb)⟩
               · clear hp hc; intro vs u w44 hJ
                 obtain ⟨j36, rfl, hp, hc⟩ := hJ
                 unfold law05_NormMixes.J2 at hp
                 cases hb45 : j36
                 · replace hp := gneg hp (by rw [hb45]; exact Bool.false_ne_true)
                   subst hb45
                   refine Wcf rfl ?_
                   refine Wskip ?_
                   refine qn ?_
                   refine Wseq ?_
                   refine Wreg ?_
                   refine rs (v := .pointer (some ⟨b9, 0, none⟩)) (fax 0 rfl Try.underlying42 rfl Try.sizeOf23 rfl rfl rfl) rfl ?_
                   refine rs (v := .slice a1 x2.X.length q3) (ld rfl Try.isAgg23 (Ctx.cell hc (k := 2) rfl rfl rfl)) rfl ?_
                   refine rs (v := .pointer (some ⟨b9, 1, none⟩)) (fax 1 rfl Try.underlying42 rfl Try.sizeOf23 rfl rfl rfl) rfl ?_
                   refine rs (v := .slice a4 x2.Y.length q6) (ld rfl Try.isAgg23 (Ctx.cell hc (k := 2) rfl rfl rfl)) rfl ?_
                   refine rs (v := .pointer (some ⟨b9, 2, none⟩)) (fax 2 rfl Try.underlying42 rfl Try.sizeOf21 rfl rfl rfl) rfl ?_
                   refine rs (v := .int .i32 x2.By) (ld rfl Try.isAgg21 (Ctx.cell hc (k := 2) rfl rfl rfl)) rfl ?_
                   refine rs (v := .pointer (some ⟨b9, 3, none⟩)) (fax 3 rfl Try.underlying42 rfl Try.sizeOf3 rfl rfl rfl) rfl ?_
                   refine rs (v := .int .i64 x2.N) (ld rfl Try.isAgg3 (Ctx.cell hc (k := 2) rfl rfl rfl)) rfl ?_
                   replace hc := hc.dup (k := 3) rfl rfl
                   replace hc := hc.dup (k := 5) rfl rfl
                   replace hp := bind_some hp; obtain ⟨r46, hr46, hp⟩ := hp
                   replace hc := hc.pull 1 rfl rfl
                   refine rc (cl Try.call20 rfl rfl) rfl ?_
                   refine norm_Join_any reads_ro reads_ro hc hr46 ?_
                   clear hc; intro a47 n48 q49 w50 hc
                   obtain ⟨u51, _⟩ := Ctx.rdLen hc (k := 0) rfl rfl reads_own; subst u51
                   refine rs (v := .tuple #[.slice a47 r46.1.length q49, .int .i64 r46.2]) (mv (v := .tuple #[.slice a47 r46.1.length q49, .int .i64 r46.2]) rfl) rfl ?_
                   refine rs (v := .slice a47 r46.1.length q49) (ext (v := .slice a47 r46.1.length q49) rfl rfl) rfl ?_
                   refine rs (v := .int .i64 r46.2) (ext (v := .int .i64 r46.2) rfl rfl) rfl ?_
                   refine rs (v := .slice a47 r46.1.length q49) (av (v := .slice a47 r46.1.length q49) rfl) rfl ?_
                   refine rs (v := .int .i64 r46.2) (av (v := .int .i64 r46.2) rfl) rfl ?_
                   refine rn ?_
                   refine qn ?_
                   refine Wseq ?_
                   refine Wseq ?_
                   refine Wreg ?_
                   refine rs (v := .pointer (some ⟨b9, 0, none⟩)) (fax 0 rfl Try.underlying42 rfl Try.sizeOf23 rfl rfl rfl) rfl ?_
                   refine rs (v := .slice a1 x2.X.length q3) (ld rfl Try.isAgg23 (Ctx.cell hc (k := 5) rfl rfl rfl)) rfl ?_
                   refine rs (v := .int .i64 ((x2.X.length : Nat) : Int)) (ln rfl Try.underlying23) rfl ?_
                   refine rs (v := .pointer (some ⟨b9, 1, none⟩)) (fax 1 rfl Try.underlying42 rfl Try.sizeOf23 rfl rfl rfl) rfl ?_
                   refine rs (v := .slice a4 x2.Y.length q6) (ld rfl Try.isAgg23 (Ctx.cell hc (k := 5) rfl rfl rfl)) rfl ?_
                   refine rs (v := .int .i64 ((x2.Y.length : Nat) : Int)) (ln rfl Try.underlying23) rfl ?_
                   refine rs (v := .bool (decide (((x2.X.length : Nat) : Int) ≠ ((x2.Y.length : Nat) : Int)))) (ned rfl rfl) rfl ?_
                   refine rn ?_
                   refine qn ?_
                   cases hb52 : (decide (((x2.X.length : Nat) : Int) ≠ ((x2.Y.length : Nat) : Int)))
                   · replace hp := gneg hp (of_decide_eq_false hb52)
                     refine Wcf rfl ?_
                     refine Wskip ?_
                     refine qn ?_
                     refine Wseq ?_
                     refine Wreg ?_
                     refine rs (v := .int .i64 r46.2) (mv (v := .int .i64 r46.2) rfl) rfl ?_
                     refine rs (v := .bool (decide (r46.2 = 0))) (eqd rfl rfl) rfl ?_
                     refine rs (v := .bool (decide (r46.2 = 0))) (mv (v := .bool (decide (r46.2 = 0))) rfl) rfl ?_
                     cases hb53 : (decide (r46.2 = 0))
                     · replace hp := gneg hp (of_decide_eq_false hb53)
                       refine r0 rfl ?_
                       refine r0 rfl ?_
                       refine r0 rfl ?_
                       refine r0 rfl ?_
                       refine r0 rfl ?_
                       refine r0 rfl ?_
                       refine r0 rfl ?_
                       refine r0 rfl ?_
                       refine r0 rfl ?_
                       refine r0 rfl ?_
                       refine r0 rfl ?_
                       refine rs (v := .bool false) (pkf (v := .bool false) rfl rfl) rfl ?_
                       refine rs (v := .bool false) (av (v := .bool false) rfl) rfl ?_
                       refine rn ?_
                       refine qn ?_
                       refine Wret ?_
                       replace hc := hc.rem 7 rfl rfl
                       replace hc := hc.rem 6 rfl rfl
                       replace hc := hc.rem 5 rfl rfl
                       replace hc := hc.rem 2 rfl rfl
                       replace hc := hc.rem 1 rfl rfl
                       replace hc := hc.rem 0 rfl rfl
                       injection hp with hp; subst hp
                       refine f1 (v := .bool false) Try.results8 Try.ntmps8 rfl ?_
                       exact ⟨_, rfl, k _ hc⟩
                     · replace hp := gpos hp (of_decide_eq_true hb53)
                       refine rs (v := .slice a47 r46.1.length q49) (mv (v := .slice a47 r46.1.length q49) rfl) rfl ?_
                       refine rs (v := .pointer (some ⟨b9, 0, none⟩)) (fax 0 rfl Try.underlying42 rfl Try.sizeOf23 rfl rfl rfl) rfl ?_
                       refine rs (v := .slice a1 x2.X.length q3) (ld rfl Try.isAgg23 (Ctx.cell hc (k := 5) rfl rfl rfl)) rfl ?_
                       refine rs (v := .pointer (some ⟨b9, 1, none⟩)) (fax 1 rfl Try.underlying42 rfl Try.sizeOf23 rfl rfl rfl) rfl ?_
                       refine rs (v := .slice a4 x2.Y.length q6) (ld rfl Try.isAgg23 (Ctx.cell hc (k := 5) rfl rfl rfl)) rfl ?_
                       refine rs (v := .pointer (some ⟨b9, 2, none⟩)) (fax 2 rfl Try.underlying42 rfl Try.sizeOf21 rfl rfl rfl) rfl ?_
                       refine rs (v := .int .i32 x2.By) (ld rfl Try.isAgg21 (Ctx.cell hc (k := 5) rfl rfl rfl)) rfl ?_
                       refine rs (v := .pointer (some ⟨b9, 3, none⟩)) (fax 3 rfl Try.underlying42 rfl Try.sizeOf3 rfl rfl rfl) rfl ?_
                       refine rs (v := .int .i64 x2.N) (ld rfl Try.isAgg3 (Ctx.cell hc (k := 5) rfl rfl rfl)) rfl ?_
                       replace hc := hc.dup (k := 6) rfl rfl
                       replace hc := hc.dup (k := 8) rfl rfl
                       replace hp := bind_some hp; obtain ⟨r54, hr54, hp⟩ := hp
                       replace hc := hc.pull 1 rfl rfl
                       refine rc (cl Try.call21 rfl rfl) rfl ?_
                       refine ref05_Join_any reads_ro reads_ro hc hr54 ?_
                       clear hc; intro a55 n56 q57 w58 hc
                       obtain ⟨u59, _⟩ := Ctx.rdLen hc (k := 0) rfl rfl reads_own; subst u59
                       replace hp := bind_some hp; obtain ⟨r60, hr60, hp⟩ := hp
                       replace hc := hc.pull 3 rfl rfl
                       refine rc (cl Try.call12 rfl rfl) rfl ?_
                       refine ref04_Ints_any reads_own reads_own hc hr60 ?_
                       clear hc; intro w61 hc
                       refine rs (v := .bool r60) (pkt (v := .bool r60) rfl rfl) rfl ?_
                       refine rs (v := .bool r60) (av (v := .bool r60) rfl) rfl ?_
                       refine rn ?_
                       refine qn ?_
                       refine Wret ?_
                       replace hc := hc.rem 10 rfl rfl
                       replace hc := hc.rem 9 rfl rfl
                       replace hc := hc.rem 8 rfl rfl
                       replace hc := hc.rem 5 rfl rfl
                       replace hc := hc.rem 4 rfl rfl
                       replace hc := hc.rem 3 rfl rfl
                       replace hc := hc.rem 2 rfl rfl
                       replace hc := hc.rem 1 rfl rfl
                       replace hc := hc.rem 0 rfl rfl
                       injection hp with hp; subst hp
                       refine f1 (v := .bool r60) Try.results8 Try.ntmps8 rfl ?_
                       exact ⟨_, rfl, k _ hc⟩
                   · replace hp := gpos hp (of_decide_eq_true hb52)
                     refine Wct rfl ?_
                     refine Wseq ?_
                     refine Wreg ?_
                     refine rs (v := .int .i64 r46.2) (mv (v := .int .i64 r46.2) rfl) rfl ?_
                     refine rs (v := .bool (decide (r46.2 = 30))) (eqd rfl rfl) rfl ?_
                     refine rs (v := .bool (decide (r46.2 = 30))) (mv (v := .bool (decide (r46.2 = 30))) rfl) rfl ?_
                     cases hb62 : (decide (r46.2 = 30))
                     · replace hp := gneg hp (of_decide_eq_false hb62)
                       refine r0 rfl ?_
                       refine r0 rfl ?_
                       refine r0 rfl ?_
                       refine rs (v := .bool false) (pkf (v := .bool false) rfl rfl) rfl ?_
                       refine rs (v := .bool false) (av (v := .bool false) rfl) rfl ?_
                       refine rn ?_
                       refine qn ?_
                       refine Wret ?_
                       refine qr ?_
                       replace hc := hc.rem 7 rfl rfl
                       replace hc := hc.rem 6 rfl rfl
                       replace hc := hc.rem 5 rfl rfl
                       replace hc := hc.rem 2 rfl rfl
                       replace hc := hc.rem 1 rfl rfl
                       replace hc := hc.rem 0 rfl rfl
                       injection hp with hp; subst hp
                       refine f1 (v := .bool false) Try.results8 Try.ntmps8 rfl ?_
                       exact ⟨_, rfl, k _ hc⟩
                     · replace hp := gpos hp (of_decide_eq_true hb62)
                       refine rs (v := .slice a47 r46.1.length q49) (mv (v := .slice a47 r46.1.length q49) rfl) rfl ?_
                       refine rs (v := .int .i64 ((r46.1.length : Nat) : Int)) (ln rfl Try.underlying23) rfl ?_
                       refine rs (v := .bool (decide (((r46.1.length : Nat) : Int) = 0))) (eqd rfl rfl) rfl ?_
                       refine rs (v := .bool (decide (((r46.1.length : Nat) : Int) = 0))) (pkt (v := .bool (decide (((r46.1.length : Nat) : Int) = 0))) rfl rfl) rfl ?_
                       refine rs (v := .bool (decide (((r46.1.length : Nat) : Int) = 0))) (av (v := .bool (decide (((r46.1.length : Nat) : Int) = 0))) rfl) rfl ?_
                       refine rn ?_
                       refine qn ?_
                       refine Wret ?_
                       refine qr ?_
                       replace hc := hc.rem 7 rfl rfl
                       replace hc := hc.rem 6 rfl rfl
                       replace hc := hc.rem 5 rfl rfl
                       replace hc := hc.rem 2 rfl rfl
                       replace hc := hc.rem 1 rfl rfl
                       replace hc := hc.rem 0 rfl rfl
                       injection hp with hp; subst hp
                       refine f1 (v := .bool (decide (((r46.1.length : Nat) : Int) = 0))) Try.results8 Try.ntmps8 rfl ?_
                       exact ⟨_, rfl, k _ hc⟩
                 · replace hp := gpos hp hb45
                   subst hb45
                   refine Wct rfl ?_
                   refine Wseq ?_
                   refine Wreg ?_
                   refine rs (v := .bool false) (av (v := .bool false) rfl) rfl ?_
                   refine rn ?_
                   refine qn ?_
                   refine Wret ?_
                   refine qr ?_
                   replace hc := hc.rem 4 rfl rfl
                   replace hc := hc.rem 3 rfl rfl
                   replace hc := hc.rem 2 rfl rfl
                   injection hp with hp; subst hp
                   refine f1 (v := .bool false) Try.results8 Try.ntmps8 rfl ?_
                   exact ⟨_, rfl, k _ hc⟩
             · replace hp := gpos hp (of_decide_eq_true hb23)
               refine Wct rfl ?_
               refine Wskip ?_
               refine qn ?_
               refine Wseq ?_
               refine Wblk ?_
               refine Wseq ?_
               refine Wseq ?_
               refine Wreg ?_
               refine rs (v := .slice ax1 x1.length qx1) (mv (v := .slice ax1 x1.length qx1) rfl) rfl ?_
               refine rs (v := .int .i64 j21) (mv (v := .int .i64 j21) rfl) rfl ?_
               replace hp := bind_some hp; obtain ⟨y63, hy63, hp⟩ := hp
               obtain ⟨b66, o67, u68, hi64, hi65⟩ := Ctx.rdAt hc (k := 2) rfl rfl hrd1 hy63
               subst u68
               refine rs (v := .pointer (some ⟨b66, o67 + (j21).toNat * 1, none⟩)) (ixx rfl rfl Try.underlying40 Try.sizeOf22 hi64 hi65 rfl) rfl ?_
               replace hc := Ctx.rdCell hc (k := 2) rfl rfl hrd1 hy63; obtain ⟨cs69, hc, hcell70⟩ := hc
               replace hc := Ctx.holdRo hc; obtain ⟨v74, u71, hc⟩ := hc; subst u71
               obtain ⟨a72, q73, u71⟩ := hc.rd (k := 0) rfl rfl reads_ro; subst u71
               refine rs (v := .slice a72 y63.length q73) (ld rfl Try.isAgg22 (hcell70 0 _ rfl)) rfl ?_
               refine rs (v := .int .i64 ((y63.length : Nat) : Int)) (ln rfl Try.underlying22) rfl ?_
               refine rs (v := .bool (decide (((y63.length : Nat) : Int) > 200))) (gt' rfl rfl) rfl ?_
               refine rn ?_
               refine qn ?_
               cases hb75 : (decide (((y63.length : Nat) : Int) > 200))
               · replace hp := gneg hp (of_decide_eq_false hb75)
                 refine Wcf rfl ?_
                 refine Wskip ?_
                 refine qn ?_
                 refine Wseq ?_
                 refine Wreg ?_
                 refine rs (v := .slice (some ⟨b66, o67, none⟩) x1.length qx1) (mv (v := .slice (some ⟨b66, o67, none⟩) x1.length qx1) rfl) rfl ?_
                 refine rs (v := .int .i64 j21) (mv (v := .int .i64 j21) rfl) rfl ?_
                 replace hp := bind_some hp; obtain ⟨y76, hy76, hp⟩ := hp
                 obtain ⟨b79, o80, u81, hi77, hi78⟩ := Ctx.rdAt hc (k := 3) rfl rfl hrd1 hy76
                 clear u81
                 refine rs (v := .pointer (some ⟨b66, o67 + (j21).toNat * 1, none⟩)) (ixx rfl rfl Try.underlying40 Try.sizeOf22 hi77 hi78 rfl) rfl ?_
                 replace hc := Ctx.rdCell hc (k := 3) rfl rfl hrd1 hy76; obtain ⟨cs82, hc, hcell83⟩ := hc
                 replace hc := Ctx.holdRo hc; obtain ⟨v87, u84, hc⟩ := hc; subst u84
                 obtain ⟨a85, q86, u84⟩ := hc.rd (k := 0) rfl rfl reads_ro; subst u84
                 refine rs (v := .slice a85 y76.length q86) (ld rfl Try.isAgg22 (hcell83 0 _ rfl)) rfl ?_
                 replace hc := hc.dup (k := 0) rfl rfl
                 replace hp := bind_some hp; obtain ⟨r88, hr88, hp⟩ := hp
                 refine rc (cl Try.call17 rfl rfl) rfl ?_
                 refine norm_Gate_any reads_ro hc hr88 ?_
                 clear hc; intro a89 n90 q91 w92 hc
                 obtain ⟨u93, _⟩ := Ctx.rdLen hc (k := 0) rfl rfl reads_own; subst u93
                 refine rs (v := .slice a89 r88.length q91) (av (v := .slice a89 r88.length q91) rfl) rfl ?_
                 refine rn ?_
                 refine qn ?_
                 refine Wseq ?_
                 refine Wseq ?_
                 refine Wreg ?_
                 refine rs (v := .slice a89 r88.length q91) (mv (v := .slice a89 r88.length q91) rfl) rfl ?_
                 refine rs (v := .int .i64 ((r88.length : Nat) : Int)) (ln rfl Try.underlying22) rfl ?_
                 refine rs (v := .slice (some ⟨b66, o67, none⟩) x1.length qx1) (mv (v := .slice (some ⟨b66, o67, none⟩) x1.length qx1) rfl) rfl ?_
                 refine rs (v := .int .i64 j21) (mv (v := .int .i64 j21) rfl) rfl ?_
                 replace hp := bind_some hp; obtain ⟨y94, hy94, hp⟩ := hp
                 obtain ⟨b97, o98, u99, hi95, hi96⟩ := Ctx.rdAt hc (k := 6) rfl rfl hrd1 hy94
                 clear u99
                 refine rs (v := .pointer (some ⟨b66, o67 + (j21).toNat * 1, none⟩)) (ixx rfl rfl Try.underlying40 Try.sizeOf22 hi95 hi96 rfl) rfl ?_
                 replace hc := Ctx.rdCell hc (k := 6) rfl rfl hrd1 hy94; obtain ⟨cs100, hc, hcell101⟩ := hc
                 replace hc := Ctx.holdRo hc; obtain ⟨v105, u102, hc⟩ := hc; subst u102
                 obtain ⟨a103, q104, u102⟩ := hc.rd (k := 0) rfl rfl reads_ro; subst u102
                 refine rs (v := .slice a103 y94.length q104) (ld rfl Try.isAgg22 (hcell101 0 _ rfl)) rfl ?_
                 refine rs (v := .int .i64 ((y94.length : Nat) : Int)) (ln rfl Try.underlying22) rfl ?_
                 refine rs (v := .bool (decide (((r88.length : Nat) : Int) ≠ ((y94.length : Nat) : Int)))) (ned rfl rfl) rfl ?_
                 refine rn ?_
                 refine qn ?_
                 cases hb106 : (decide (((r88.length : Nat) : Int) ≠ ((y94.length : Nat) : Int)))
                 · replace hp := gneg hp (of_decide_eq_false hb106)
                   refine Wcf rfl ?_
                   refine Wskip ?_
                   refine qn ?_
                   refine Wseq ?_
                   refine Wreg ?_
                   refine rs (v := .int .i64 0) (av (v := .int .i64 0) rfl) rfl ?_
                   refine rn ?_
                   refine qn ?_
                   refine Wblk ?_
                   replace hc := hc.rem 4 rfl rfl
                   replace hc := hc.rem 3 rfl rfl
                   replace hc := hc.rem 2 rfl rfl
                   replace hc := hc.rem 0 rfl rfl
                   refine Wloop [6, 9, 66, 67, 68, 69, 70, 71, 72, 73, 74, 75, 76, 77, 78, 79, 80, 81, 82, 83, 84] [9] (fun m vs w' => ∃ j107 : Int, vs = [.int .i64 j107] ∧ law05_NormMixes.L3 x1 j21 r88 (law05_NormMixes.L1 N x0 x1 x2 m1) m j107 = some r ∧ Ctx w' (Own (pInt .i8) 38 (.slice a89 r88.length q91) r88 :: B b9 [.slice a1 x2.X.length q3, .slice a4 x2.Y.length q6, .int .i32 x2.By, .int .i64 x2.N] 42 :: P0 :: P1 :: Hold (pRo (pInt .i32)) [.slice a1 x2.X.length q3] x2.X :: Hold (pRo (pInt .i32)) [.slice a4 x2.Y.length q6] x2.Y :: Fr)) N ?_ ?_
                   · exact ⟨0, rfl, hp, hc⟩
                   · clear hp hc; intro m vs u w108 hJ
                     obtain ⟨j107, rfl, hp, hc⟩ := hJ
                     rcases m with _ | m3
                     · cases (show none = some r from hp)
                     rw [law05_NormMixes.L3] at hp
                     refine Wseq ?_
                     refine Wseq ?_
                     refine Wreg ?_
                     refine rs (v := .int .i64 j107) (mv (v := .int .i64 j107) rfl) rfl ?_
                     refine rs (v := .slice a89 r88.length q91) (mv (v := .slice a89 r88.length q91) rfl) rfl ?_
                     refine rs (v := .int .i64 ((r88.length : Nat) : Int)) (ln rfl Try.underlying22) rfl ?_
                     refine rs (v := .bool (decide (j107 < ((r88.length : Nat) : Int)))) (lt' rfl rfl) rfl ?_
                     refine rn ?_
                     refine qn ?_
                     cases hb109 : (decide (j107 < ((r88.length : Nat) : Int)))
                     · replace hp := gneg hp (of_decide_eq_false hb109)
                       refine Wcf rfl ?_
                       refine Wexit ?_
                       refine qx ?_
                       refine qx ?_
                       refine be ?_
                       refine bn ?_
                       refine qn ?_
                       refine Wreg ?_
                       refine rs (v := .int .i64 j21) (mv (v := .int .i64 j21) rfl) rfl ?_
                       refine rs (v := .int .i64 (IntKind.i64.wrap (j21 + 1))) (adw rfl rfl) rfl ?_
                       refine rs (v := .int .i64 (IntKind.i64.wrap (j21 + 1))) (av (v := .int .i64 (IntKind.i64.wrap (j21 + 1))) rfl) rfl ?_
                       refine rn ?_
                       refine qn ?_
                       replace hc := hc.rem 0 rfl rfl
                       exact ⟨m1, Nat.lt_succ_self _, ⟨(IntKind.i64.wrap (j21 + 1)), rfl, hp, hc⟩, (kl rfl (km rfl (kl rfl k0)))⟩
                     · replace hp := gpos hp (of_decide_eq_true hb109)
                       refine Wct rfl ?_
                       refine Wskip ?_
                       refine qn ?_
                       refine Wseq ?_
                       refine Wblk ?_
                       refine Wseq ?_
                       replace hc := hc.drew
                       refine Wdrw (fun _ w' => w' = World.drew w108) [0, 0, 3, 7, 0, 0, 48, 112, 0, 496, 1008, 2032, 4095] 0 0 rfl (by kernel_rfl) (fun _ _ => rfl) ?_
                       generalize hw : World.drew w108 = w110 at *
                       clear hw
                       refine ds (v := .slice a89 r88.length q91) rfl (fun w' hF => by subst hF; exact mv (v := .slice a89 r88.length q91) rfl) rfl ?_
                       refine ds (v := .int .i64 j107) rfl (fun w' hF => by subst hF; exact mv (v := .int .i64 j107) rfl) rfl ?_
                       replace hp := bind_some hp; obtain ⟨y111, hy111, hp⟩ := hp
                       obtain ⟨b114, o115, u116, hi112, hi113⟩ := Ctx.rdAt hc (k := 0) rfl rfl reads_own hy111
                       subst u116
                       refine ds (v := .pointer (some ⟨b114, o115 + (j107).toNat * 1, none⟩)) rfl (fun w' hF => by subst hF; exact ixx rfl rfl Try.underlying22 Try.sizeOf38 hi112 hi113 rfl) rfl ?_
                       replace hc := Ctx.rdCell hc (k := 0) rfl rfl reads_own hy111; obtain ⟨cs117, hc, hcell118⟩ := hc
                       replace hc := Ctx.holdC hc; obtain ⟨u119, hc⟩ := hc; subst u119
                       refine ds (v := .int .i8 y111) rfl (fun w' hF => by subst hF; exact ld rfl Try.isAgg38 (hcell118 0 _ rfl)) rfl ?_
                       refine ds (v := .slice (some ⟨b66, o67, none⟩) x1.length qx1) rfl (fun w' hF => by subst hF; exact mv (v := .slice (some ⟨b66, o67, none⟩) x1.length qx1) rfl) rfl ?_
                       refine ds (v := .int .i64 j21) rfl (fun w' hF => by subst hF; exact mv (v := .int .i64 j21) rfl) rfl ?_
                       replace hp := bind_some hp; obtain ⟨y120, hy120, hp⟩ := hp
                       obtain ⟨b123, o124, u125, hi121, hi122⟩ := Ctx.rdAt hc (k := 3) rfl rfl hrd1 hy120
                       clear u125
                       refine ds (v := .pointer (some ⟨b66, o67 + (j21).toNat * 1, none⟩)) rfl (fun w' hF => by subst hF; exact ixx rfl rfl Try.underlying40 Try.sizeOf22 hi121 hi122 rfl) rfl ?_
                       replace hc := Ctx.rdCell hc (k := 3) rfl rfl hrd1 hy120; obtain ⟨cs126, hc, hcell127⟩ := hc
                       replace hc := Ctx.holdRo hc; obtain ⟨v131, u128, hc⟩ := hc; subst u128
                       obtain ⟨a129, q130, u128⟩ := hc.rd (k := 0) rfl rfl reads_ro; subst u128
                       refine ds (v := .slice a129 y120.length q130) rfl (fun w' hF => by subst hF; exact ld rfl Try.isAgg22 (hcell127 0 _ rfl)) rfl ?_
                       refine ds (v := .int .i64 j107) rfl (fun w' hF => by subst hF; exact mv (v := .int .i64 j107) rfl) rfl ?_
                       replace hp := bind_some hp; obtain ⟨y132, hy132, hp⟩ := hp
                       obtain ⟨b135, o136, u137, hi133, hi134⟩ := Ctx.rdAt hc (k := 0) rfl rfl reads_ro hy132
                       subst u137
                       refine ds (v := .pointer (some ⟨b135, o136 + (j107).toNat * 1, none⟩)) rfl (fun w' hF => by subst hF; exact ixx rfl rfl Try.underlying22 Try.sizeOf38 hi133 hi134 rfl) rfl ?_
                       replace hc := Ctx.rdCell hc (k := 0) rfl rfl reads_ro hy132; obtain ⟨cs138, hc, hcell139⟩ := hc
                       replace hc := Ctx.holdC hc; obtain ⟨u140, hc⟩ := hc; subst u140
                       refine ds (v := .int .i8 y132) rfl (fun w' hF => by subst hF; exact ld rfl Try.isAgg38 (hcell139 0 _ rfl)) rfl ?_
                       refine ds (v := .int .i8 (max y132 0)) rfl (fun w' hF => by subst hF; exact bmx rfl rfl Try.underlying38) rfl ?_
                       refine ds (v := .bool (decide (y111 ≠ (max y132 0)))) rfl (fun w' hF => by subst hF; exact ned rfl rfl) rfl ?_
                       refine dn ?_
                       refine qn ?_
                       cases hb141 : (decide (y111 ≠ (max y132 0)))
                       · replace hp := gneg hp (of_decide_eq_false hb141)
                         refine Wcf rfl ?_
                         refine Wskip ?_
                         refine bn ?_
                         refine qn ?_
                         refine Wreg ?_
                         refine rs (v := .int .i64 j107) (mv (v := .int .i64 j107) rfl) rfl ?_
                         refine rs (v := .int .i64 (IntKind.i64.wrap (j107 + 1))) (adw rfl rfl) rfl ?_
                         refine rs (v := .int .i64 (IntKind.i64.wrap (j107 + 1))) (av (v := .int .i64 (IntKind.i64.wrap (j107 + 1))) rfl) rfl ?_
                         refine rn ?_
                         refine qn ?_
                         replace hc := hc.rem 0 rfl rfl
                         exact ⟨m3, Nat.lt_succ_self _, ⟨(IntKind.i64.wrap (j107 + 1)), rfl, hp, hc⟩, (kl rfl k0)⟩
                       · replace hp := gpos hp (of_decide_eq_true hb141)
                         refine Wct rfl ?_
                         refine Wseq ?_
                         refine Wreg ?_
                         refine rs (v := .bool false) (av (v := .bool false) rfl) rfl ?_
                         refine rn ?_
                         refine qn ?_
                         refine Wret ?_
                         refine br ?_
                         refine qr ?_
                         refine qr ?_
                         refine br ?_
                         refine br ?_
                         refine qr ?_
                         refine qr ?_
                         refine br ?_
                         refine qr ?_
                         replace hc := hc.rem 6 rfl rfl
                         replace hc := hc.rem 5 rfl rfl
                         replace hc := hc.rem 2 rfl rfl
                         replace hc := hc.rem 1 rfl rfl
                         replace hc := hc.rem 0 rfl rfl
                         injection hp with hp; subst hp
                         refine f1 (v := .bool false) Try.results8 Try.ntmps8 rfl ?_
                         exact ⟨_, rfl, k _ hc⟩
                 · replace hp := gpos hp (of_decide_eq_true hb106)
                   refine Wct rfl ?_
                   refine Wseq ?_
                   refine Wreg ?_
                   refine rs (v := .bool false) (av (v := .bool false) rfl) rfl ?_
                   refine rn ?_
                   refine qn ?_
                   refine Wret ?_
                   refine qr ?_
                   refine br ?_
                   refine qr ?_
                   refine qr ?_
                   refine br ?_
                   refine qr ?_
                   replace hc := hc.rem 9 rfl rfl
                   replace hc := hc.rem 8 rfl rfl
                   replace hc := hc.rem 5 rfl rfl
                   replace hc := hc.rem 4 rfl rfl
                   replace hc := hc.rem 3 rfl rfl
                   replace hc := hc.rem 2 rfl rfl
                   replace hc := hc.rem 1 rfl rfl
                   replace hc := hc.rem 0 rfl rfl
                   injection hp with hp; subst hp
                   refine f1 (v := .bool false) Try.results8 Try.ntmps8 rfl ?_
                   exact ⟨_, rfl, k _ hc⟩
               · replace hp := gpos hp (of_decide_eq_true hb75)
                 refine Wct rfl ?_
                 refine Wseq ?_
                 refine Wreg ?_
                 refine rs (v := .bool true) (av (v := .bool true) rfl) rfl ?_
                 refine rn ?_
                 refine qn ?_
                 refine Wret ?_
                 refine qr ?_
                 refine br ?_
                 refine qr ?_
                 refine qr ?_
                 refine br ?_
                 refine qr ?_
                 replace hc := hc.rem 5 rfl rfl
                 replace hc := hc.rem 4 rfl rfl
                 replace hc := hc.rem 1 rfl rfl
                 replace hc := hc.rem 0 rfl rfl
                 injection hp with hp; subst hp
                 refine f1 (v := .bool true) Try.results8 Try.ntmps8 rfl ?_
                 exact ⟨_, rfl, k _ hc⟩
         · replace hp := gpos hp (of_decide_eq_true hb20)
           refine Wct rfl ?_
           refine Wseq ?_
           refine Wreg ?_
           replace hp := bind_some hp; obtain ⟨r142, hr142, hp⟩ := hp
           refine rc (cl Try.call10 rfl rfl) rfl ?_
           refine law05_awake_any hc hr142 ?_
           clear hc; intro w143 hc
           refine rs (v := .bool r142) (av (v := .bool r142) rfl) rfl ?_
           refine rn ?_
           refine qn ?_
           refine Wret ?_
           refine qr ?_
           replace hc := hc.rem 4 rfl rfl
           replace hc := hc.rem 3 rfl rfl
           replace hc := hc.rem 0 rfl rfl
           injection hp with hp; subst hp
           refine f1 (v := .bool r142) Try.results8 Try.ntmps8 rfl ?_
           exact ⟨_, rfl, k _ hc⟩
       · replace hp := gpos hp (of_decide_eq_true hb19)
         refine r0 rfl ?_
         refine r0 rfl ?_
         refine r0 rfl ?_
         refine r0 rfl ?_
         refine rs (v := .bool true) (pkt (v := .bool true) rfl rfl) rfl ?_
         refine rn ?_
         refine qn ?_
         refine Wct rfl ?_
         refine Wseq ?_
         refine Wreg ?_
         replace hp := bind_some hp; obtain ⟨r144, hr144, hp⟩ := hp
         refine rc (cl Try.call10 rfl rfl) rfl ?_
         refine law05_awake_any hc hr144 ?_
         clear hc; intro w145 hc
         refine rs (v := .bool r144) (av (v := .bool r144) rfl) rfl ?_
         refine rn ?_
         refine qn ?_
         refine Wret ?_
         refine qr ?_
         replace hc := hc.rem 4 rfl rfl
         replace hc := hc.rem 3 rfl rfl
         replace hc := hc.rem 0 rfl rfl
         injection hp with hp; subst hp
         refine f1 (v := .bool r144) Try.results8 Try.ntmps8 rfl ?_
         exact ⟨_, rfl, k _ hc⟩
     · replace hp := gpos hp (of_decide_eq_true hb18)
       refine r0 rfl ?_
       refine r0 rfl ?_
       refine r0 rfl ?_
       refine r0 rfl ?_
       refine rs (v := .bool true) (pkt (v := .bool true) rfl rfl) rfl ?_
       refine rs (v := .bool true) (mv (v := .bool true) rfl) rfl ?_
       refine r0 rfl ?_
       refine r0 rfl ?_
       refine r0 rfl ?_
       refine r0 rfl ?_
       refine rs (v := .bool true) (pkt (v := .bool true) rfl rfl) rfl ?_
       refine rn ?_
       refine qn ?_
       refine Wct rfl ?_
       refine Wseq ?_
       refine Wreg ?_
       replace hp := bind_some hp; obtain ⟨r146, hr146, hp⟩ := hp
       refine rc (cl Try.call10 rfl rfl) rfl ?_
       refine law05_awake_any hc hr146 ?_
       clear hc; intro w147 hc
       refine rs (v := .bool r146) (av (v := .bool r146) rfl) rfl ?_
       refine rn ?_
       refine qn ?_
       refine Wret ?_
       refine qr ?_
       replace hc := hc.rem 4 rfl rfl
       replace hc := hc.rem 3 rfl rfl
       replace hc := hc.rem 0 rfl rfl
       injection hp with hp; subst hp
       refine f1 (v := .bool r146) Try.results8 Try.ntmps8 rfl ?_
       exact ⟨_, rfl, k _ hc⟩
   · replace hp := gpos hp (of_decide_eq_true hb17)
     refine r0 rfl ?_
     refine r0 rfl ?_
     refine r0 rfl ?_
     refine rs (v := .bool true) (pkt (v := .bool true) rfl rfl) rfl ?_
     refine rs (v := .bool true) (mv (v := .bool true) rfl) rfl ?_
     refine r0 rfl ?_
     refine r0 rfl ?_
     refine r0 rfl ?_
     refine r0 rfl ?_
     refine rs (v := .bool true) (pkt (v := .bool true) rfl rfl) rfl ?_
     refine rs (v := .bool true) (mv (v := .bool true) rfl) rfl ?_
     refine r0 rfl ?_
     refine r0 rfl ?_
     refine r0 rfl ?_
     refine r0 rfl ?_
     refine rs (v := .bool true) (pkt (v := .bool true) rfl rfl) rfl ?_
     refine rn ?_
     refine qn ?_
     refine Wct rfl ?_
     refine Wseq ?_
     refine Wreg ?_
     replace hp := bind_some hp; obtain ⟨r148, hr148, hp⟩ := hp
     refine rc (cl Try.call10 rfl rfl) rfl ?_
     refine law05_awake_any hc hr148 ?_
     clear hc; intro w149 hc
     refine rs (v := .bool r148) (av (v := .bool r148) rfl) rfl ?_
     refine rn ?_
     refine qn ?_
     refine Wret ?_
     refine qr ?_
     replace hc := hc.rem 4 rfl rfl
     replace hc := hc.rem 3 rfl rfl
     replace hc := hc.rem 0 rfl rfl
     injection hp with hp; subst hp
     refine f1 (v := .bool r148) Try.results8 Try.ntmps8 rfl ?_
     exact ⟨_, rfl, k _ hc⟩

-- FN peloton/pelotonlaw05.NormSame
def law05_NormSame.J2 (j21 : Int) (k1 : (List Int) → (List (List Int)) → Int → Option (Bool)) (j65 : (List Int)) (j69 : (List (List Int))) : Option (Bool) :=
  k1 j65 j69 (IntKind.i64.wrap (j21 + 1))

def law05_NormSame.L1 (N : Nat) (x0 : (List Int)) (x1 : (List (List Int))) (x2 : (List Int)) : Nat → (List Int) → (List (List Int)) → Int → Option (Bool)
  | 0, _, _, _ => none
  | m1 + 1, j13, j17, j21 =>
    if j21 < ((x1.length : Nat) : Int) then
      (idx x1 j21).bind fun y73 =>
      if ((y73.length : Nat) : Int) = ((x0.length : Nat) : Int) then
        (app j13 ([0])).bind fun z88 =>
        (idx x1 j21).bind fun y94 =>
        (app j17 ([y94])).bind fun z108 =>
        law05_NormSame.J2 j21 (law05_NormSame.L1 N x0 x1 x2 m1) z88 z108
      else
        law05_NormSame.J2 j21 (law05_NormSame.L1 N x0 x1 x2 m1) j13 j17
    else
      (norm_Mix N j13 j17).bind fun r26 =>
      (norm_Gate N x0).bind fun r32 =>
      chk (0 ≤ ((x2.length : Nat) : Int) ∧ ((x2.length : Nat) : Int) ≤ 4294967296) <|
      (norm_Join N x2 (List.replicate (((x2.length : Nat) : Int)).toNat 0) 12345 7).bind fun r43 =>
      if r26.2 = 0 then
        (ref04_Bytes N r26.1 x0).bind fun r50 =>
        if r50 = true then
          (norm_Gate N r32).bind fun r53 =>
          (ref04_Bytes N r53 r32).bind fun r59 =>
          if r59 = true then
            if r43.2 = 0 then
              (ref04_Ints N r43.1 x2).bind fun r63 =>
              some r63
            else
              some false
          else
            some false
        else
          some false
      else
        some false

def law05_NormSame (N : Nat) (x0 : (List Int)) (x1 : (List (List Int))) (x2 : (List Int)) : Option (Bool) :=
  (law05_awake N).bind fun r1 =>
  if r1 = true then
    if ((x0.length : Nat) : Int) > 200 then
      (law05_awake N).bind fun r121 =>
      some r121
    else
      if ((x1.length : Nat) : Int) > 30 then
        (law05_awake N).bind fun r119 =>
        some r119
      else
        if ((x2.length : Nat) : Int) > 200 then
          (law05_awake N).bind fun r117 =>
          some r117
        else
          law05_NormSame.L1 N x0 x1 x2 N ([65536]) ([x0]) 0
  else
    (law05_awake N).bind fun r4 =>
    some r4

set_option maxHeartbeats 8000000 in
theorem law05_NormSame_any {N : Nat} {x0 : (List Int)} {ax0 : Option Addr} {nx0 : Nat} {qx0 : Nat} {x1 : (List (List Int))} {ax1 : Option Addr} {nx1 : Nat} {qx1 : Nat} {x2 : (List Int)} {ax2 : Option Addr} {nx2 : Nat} {qx2 : Nat} {P2 : HP} {Fr : List HP} {w : World} {r : Bool} {K : Value → World → Prop} (hrd2 : Reads P2 (pInt .i32) (.slice ax2 nx2 qx2) x2) (hc : Ctx w (Hold (pRo (pInt .i8)) [.slice ax0 nx0 qx0] x0 :: Hold (pRo (pRo (pInt .i8))) [.slice ax1 nx1 qx1] x1 :: P2 :: Fr)) (hp : law05_NormSame N x0 x1 x2 = some r)
    (k : ∀ w', Ctx w' (P2 :: Fr) → K (.bool r) w') : Calls Try.prog 9 #[.slice ax0 nx0 qx0, .slice ax1 nx1 qx1, .slice ax2 nx2 qx2] w (Ret K) := by
 unfold law05_NormSame at hp
 refine Center (args := [.slice ax0 nx0 qx0, .slice ax1 nx1 qx1, .slice ax2 nx2 qx2]) (l := [(0, .slice ax0 nx0 qx0), (1, .slice ax1 nx1 qx1), (2, .slice ax2 nx2 qx2)]) Try.func9 Try.ntmps9 rfl rfl rfl ?_
 obtain ⟨hn0, _⟩ := Ctx.rdLen hc (k := 0) rfl rfl reads_ro; subst hn0
 obtain ⟨hn1, _⟩ := Ctx.rdLen hc (k := 1) rfl rfl reads_ro; subst hn1
 obtain ⟨hn2, _⟩ := Ctx.rdLen hc (k := 2) rfl rfl hrd2; subst hn2
 refine Wseq ?_
 refine Wreg ?_
 refine rs (v := .bool false) (av (v := .bool false) rfl) rfl ?_
 refine rn ?_
 refine qn ?_
 refine Wseq ?_
 refine Wseq ?_
 refine Wreg ?_
 replace hp := bind_some hp; obtain ⟨r1, hr1, hp⟩ := hp
 refine rc (cl Try.call10 rfl rfl) rfl ?_
 refine law05_awake_any hc hr1 ?_
 clear hc; intro w2 hc
 cases hb3 : r1
 · replace hp := gneg hp (by rw [hb3]; exact Bool.false_ne_true)
   subst hb3
   refine rs (v := .bool true) (ntf rfl) rfl ?_
   refine rs (v := .bool true) (mv (v := .bool true) rfl) rfl ?_
   refine r0 rfl ?_
   refine r0 rfl ?_
   refine r0 rfl ?_
   refine rs (v := .bool true) (pkt (v := .bool true) rfl rfl) rfl ?_
   refine rs (v := .bool true) (mv (v := .bool true) rfl) rfl ?_
   refine r0 rfl ?_
   refine r0 rfl ?_
   refine r0 rfl ?_
   refine rs (v := .bool true) (pkt (v := .bool true) rfl rfl) rfl ?_
   refine rs (v := .bool true) (mv (v := .bool true) rfl) rfl ?_
   refine r0 rfl ?_
   refine r0 rfl ?_
   refine r0 rfl ?_
   refine rs (v := .bool true) (pkt (v := .bool true) rfl rfl) rfl ?_
   refine rn ?_
   refine qn ?_
   refine Wct rfl ?_
   refine Wseq ?_
   refine Wreg ?_
   replace hp := bind_some hp; obtain ⟨r4, hr4, hp⟩ := hp
   refine rc (cl Try.call10 rfl rfl) rfl ?_
   refine law05_awake_any hc hr4 ?_
   clear hc; intro w5 hc
   refine rs (v := .bool r4) (av (v := .bool r4) rfl) rfl ?_
   refine rn ?_
   refine qn ?_
   refine Wret ?_
   refine qr ?_
   replace hc := hc.rem 1 rfl rfl
   replace hc := hc.rem 0 rfl rfl
   injection hp with hp; subst hp
   refine f1 (v := .bool r4) Try.results9 Try.ntmps9 rfl ?_
   exact ⟨_, rfl, k _ hc⟩
 · replace hp := gpos hp hb3
   subst hb3
   refine rs (v := .bool false) (ntt rfl) rfl ?_
   refine rs (v := .bool false) (mv (v := .bool false) rfl) rfl ?_
   refine rs (v := .slice ax0 x0.length qx0) (mv (v := .slice ax0 x0.length qx0) rfl) rfl ?_
   refine rs (v := .int .i64 ((x0.length : Nat) : Int)) (ln rfl Try.underlying22) rfl ?_
   refine rs (v := .bool (decide (((x0.length : Nat) : Int) > 200))) (gt' rfl rfl) rfl ?_
   refine rs (v := .bool (decide (((x0.length : Nat) : Int) > 200))) (pkf (v := .bool (decide (((x0.length : Nat) : Int) > 200))) rfl rfl) rfl ?_
   refine rs (v := .bool (decide (((x0.length : Nat) : Int) > 200))) (mv (v := .bool (decide (((x0.length : Nat) : Int) > 200))) rfl) rfl ?_
   cases hb6 : (decide (((x0.length : Nat) : Int) > 200))
   · replace hp := gneg hp (of_decide_eq_false hb6)
     refine rs (v := .slice ax1 x1.length qx1) (mv (v := .slice ax1 x1.length qx1) rfl) rfl ?_
     refine rs (v := .int .i64 ((x1.length : Nat) : Int)) (ln rfl Try.underlying40) rfl ?_
     refine rs (v := .bool (decide (((x1.length : Nat) : Int) > 30))) (gt' rfl rfl) rfl ?_
     refine rs (v := .bool (decide (((x1.length : Nat) : Int) > 30))) (pkf (v := .bool (decide (((x1.length : Nat) : Int) > 30))) rfl rfl) rfl ?_
     refine rs (v := .bool (decide (((x1.length : Nat) : Int) > 30))) (mv (v := .bool (decide (((x1.length : Nat) : Int) > 30))) rfl) rfl ?_
     cases hb7 : (decide (((x1.length : Nat) : Int) > 30))
     · replace hp := gneg hp (of_decide_eq_false hb7)
       refine rs (v := .slice ax2 x2.length qx2) (mv (v := .slice ax2 x2.length qx2) rfl) rfl ?_
       refine rs (v := .int .i64 ((x2.length : Nat) : Int)) (ln rfl Try.underlying23) rfl ?_
       refine rs (v := .bool (decide (((x2.length : Nat) : Int) > 200))) (gt' rfl rfl) rfl ?_
       refine rs (v := .bool (decide (((x2.length : Nat) : Int) > 200))) (pkf (v := .bool (decide (((x2.length : Nat) : Int) > 200))) rfl rfl) rfl ?_
       refine rn ?_
       refine qn ?_
       cases hb8 : (decide (((x2.length : Nat) : Int) > 200))
       · replace hp := gneg hp (of_decide_eq_false hb8)
         refine Wcf rfl ?_
         refine Wskip ?_
         refine qn ?_
         refine Wseq ?_
         refine Wreg ?_
         replace hc : Ctx w2 (Hold (pInt .i32) [.int .i32 65536] 65536 :: Hold (pRo (pInt .i8)) [.slice ax0 x0.length qx0] x0 :: Hold (pRo (pRo (pInt .i8))) [.slice ax1 x1.length qx1] x1 :: P2 :: Fr) := hc.add _ fun _ _ _ => ⟨rfl, rfl⟩
         refine rsE (Ctx.builtOp (css := [[.int .i32 65536]]) (xs := ([65536] : List Int)) (E := (pInt .i32)) hc Try.underlying23 Try.sizeOf21 Try.zeroValue21 rfl rfl rfl rfl rfl rfl rfl rfl) rfl ?_
         clear hc; rintro _ w10 ⟨a9, rfl, hc⟩
         refine rs (v := .slice a9 1 1) (av (v := .slice a9 1 1) rfl) rfl ?_
         refine rn ?_
         refine qn ?_
         refine Wseq ?_
         refine Wreg ?_
         refine rs (v := .slice ax0 x0.length qx0) (mv (v := .slice ax0 x0.length qx0) rfl) rfl ?_
         replace hc := hc.dup (k := 1) rfl rfl
         refine rsE (Ctx.builtOp (css := [[.slice ax0 x0.length qx0]]) (xs := ([x0] : List (List Int))) (E := (pRo (pInt .i8))) hc Try.underlying40 Try.sizeOf22 Try.zeroValue22 rfl rfl rfl rfl rfl rfl rfl rfl) rfl ?_
         clear hc; rintro _ w12 ⟨a11, rfl, hc⟩
         refine rs (v := .slice a11 1 1) (av (v := .slice a11 1 1) rfl) rfl ?_
         refine rn ?_
         refine qn ?_
         refine Wseq ?_
         refine Wseq ?_
         refine Wreg ?_
         refine rs (v := .int .i64 0) (av (v := .int .i64 0) rfl) rfl ?_
         refine rn ?_
         refine qn ?_
         refine Wblk ?_
         replace hc := hc.pull 1 rfl rfl
         replace hc := hc.pull 4 rfl rfl
         replace hc := hc.pull 4 rfl rfl
         replace hc := hc.pull 4 rfl rfl
         refine Wloop [7, 8, 9, 36, 37, 38, 39, 40, 41, 42, 43, 44, 45, 46, 47, 48, 49, 50, 51, 52, 53, 54, 55, 56, 57, 58, 59] [7, 8, 9] (fun m vs w' => ∃ j13 : (List Int), ∃ j17 : (List (List Int)), ∃ j21 : Int, ∃ a14 : Option Addr, ∃ n15 : Nat, ∃ q16 : Nat, ∃ a18 : Option Addr, ∃ n19 : Nat, ∃ q20 : Nat, vs = [.slice a14 n15 q16, .slice a18 n19 q20, .int .i64 j21] ∧ law05_NormSame.L1 N x0 x1 x2 m j13 j17 j21 = some r ∧ Ctx w' (Hold (pRo (pInt .i8)) [.slice ax0 x0.length qx0] x0 :: Hold (pRo (pRo (pInt .i8))) [.slice ax1 x1.length qx1] x1 :: P2 :: Own (pInt .i32) 21 (.slice a14 n15 q16) j13 :: Own (pRo (pInt .i8)) 22 (.slice a18 n19 q20) j17 :: Fr)) N ?_ ?_
         · exact ⟨[65536], [x0], 0, a9, 1, 1, a11, 1, 1, rfl, hp, hc⟩
         · clear hp hc; intro m vs u w22 hJ
           obtain ⟨j13, j17, j21, a14, n15, q16, a18, n19, q20, rfl, hp, hc⟩ := hJ
           obtain ⟨u23, _⟩ := Ctx.rdLen hc (k := 3) rfl rfl reads_own; subst u23
           obtain ⟨u24, _⟩ := Ctx.rdLen hc (k := 4) rfl rfl reads_own; subst u24
           rcases m with _ | m1
           · cases (show none = some r from hp)
           rw [law05_NormSame.L1] at hp
           refine Wseq ?_
           refine Wseq ?_
           refine Wreg ?_
           refine rs (v := .int .i64 j21) (mv (v := .int .i64 j21) rfl) rfl ?_
           refine rs (v := .slice ax1 x1.length qx1) (mv (v := .slice ax1 x1.length qx1) rfl) rfl ?_
           refine rs (v := .int .i64 ((x1.length : Nat) : Int)) (ln rfl Try.underlying40) rfl ?_
           refine rs (v := .bool (decide (j21 < ((x1.length : Nat) : Int)))) (lt' rfl rfl) rfl ?_
           refine rn ?_
           refine qn ?_
           cases hb25 : (decide (j21 < ((x1.length : Nat) : Int)))
           · replace hp := gneg hp (of_decide_eq_false hb25)
             refine Wcf rfl ?_
             refine Wexit ?_
             refine qx ?_
             refine qx ?_
             refine be ?_
             refine qn ?_
             refine Wseq ?_
             refine Wreg ?_
             refine rs (v := .slice a14 j13.length q16) (mv (v := .slice a14 j13.length q16) rfl) rfl ?_
             refine rs (v := .slice a18 j17.length q20) (mv (v := .slice a18 j17.length q20) rfl) rfl ?_
             replace hp := bind_some hp; obtain ⟨r26, hr26, hp⟩ := hp
             replace hc := hc.pull 4 rfl rfl
             replace hc := hc.pull 4 rfl rfl
             refine rc (cl Try.call18 rfl rfl) rfl ?_
             refine norm_Mix_any reads_own reads_own hc hr26 ?_
             clear hc; intro a27 n28 q29 w30 hc
             obtain ⟨u31, _⟩ := Ctx.rdLen hc (k := 0) rfl rfl reads_own; subst u31
             refine rs (v := .tuple #[.slice a27 r26.1.length q29, .int .i64 r26.2]) (mv (v := .tuple #[.slice a27 r26.1.length q29, .int .i64 r26.2]) rfl) rfl ?_
             refine rs (v := .slice a27 r26.1.length q29) (ext (v := .slice a27 r26.1.length q29) rfl rfl) rfl ?_
             refine rs (v := .int .i64 r26.2) (ext (v := .int .i64 r26.2) rfl rfl) rfl ?_
             refine rs (v := .slice a27 r26.1.length q29) (av (v := .slice a27 r26.1.length q29) rfl) rfl ?_
             refine rs (v := .int .i64 r26.2) (av (v := .int .i64 r26.2) rfl) rfl ?_
             refine rn ?_
             refine qn ?_
             refine Wseq ?_
             refine Wreg ?_
             refine rs (v := .slice ax0 x0.length qx0) (mv (v := .slice ax0 x0.length qx0) rfl) rfl ?_
             replace hc := hc.dup (k := 3) rfl rfl
             replace hp := bind_some hp; obtain ⟨r32, hr32, hp⟩ := hp
             refine rc (cl Try.call17 rfl rfl) rfl ?_
             refine norm_Gate_any reads_ro hc hr32 ?_
             clear hc; intro a33 n34 q35 w36 hc
             obtain ⟨u37, _⟩ := Ctx.rdLen hc (k := 0) rfl rfl reads_own; subst u37
             refine rs (v := .slice a33 r32.length q35) (av (v := .slice a33 r32.length q35) rfl) rfl ?_
             refine rn ?_
             refine qn ?_
             refine Wseq ?_
             refine Wreg ?_
             refine rs (v := .slice ax2 x2.length qx2) (mv (v := .slice ax2 x2.length qx2) rfl) rfl ?_
             refine rs (v := .slice ax2 x2.length qx2) (mv (v := .slice ax2 x2.length qx2) rfl) rfl ?_
             refine rs (v := .int .i64 ((x2.length : Nat) : Int)) (ln rfl Try.underlying23) rfl ?_
             replace hp := chk_some hp; obtain ⟨hg38, hp⟩ := hp
             have hm40 : ((((x2.length : Nat) : Int)).toNat : Int) = ((x2.length : Nat) : Int) := Int.toNat_of_nonneg hg38.1
             refine rsE (Ctx.make (n := (((x2.length : Nat) : Int)).toNat) (E := (pInt .i32)) (x0 := 0) hc (by rw [hm40]; rfl) (by rw [hm40]; rfl) Try.underlying23 (i := Try.t21) rfl rfl rfl rfl rfl rfl (fun _ _ => rfl) (by omega)) rfl ?_
             clear hc; rintro _ w42 ⟨a39, rfl, hc⟩
             replace hp := bind_some hp; obtain ⟨r43, hr43, hp⟩ := hp
             replace hc := hc.pull 8 rfl rfl
             refine rc (cl Try.call20 rfl rfl) rfl ?_
             refine norm_Join_any hrd2 reads_own hc hr43 ?_
             clear hc; intro a44 n45 q46 w47 hc
             obtain ⟨u48, _⟩ := Ctx.rdLen hc (k := 0) rfl rfl reads_own; subst u48
             refine rs (v := .tuple #[.slice a44 r43.1.length q46, .int .i64 r43.2]) (mv (v := .tuple #[.slice a44 r43.1.length q46, .int .i64 r43.2]) rfl) rfl ?_
             refine rs (v := .slice a44 r43.1.length q46) (ext (v := .slice a44 r43.1.length q46) rfl rfl) rfl ?_
             refine rs (v := .int .i64 r43.2) (ext (v := .int .i64 r43.2) rfl rfl) rfl ?_
             refine rs (v := .slice a44 r43.1.length q46) (av (v := .slice a44 r43.1.length q46) rfl) rfl ?_
             refine rs (v := .int .i64 r43.2) (av (v := .int .i64 r43.2) rfl) rfl ?_
             refine rn ?_
             refine qn ?_
             refine Wseq ?_
             refine Wreg ?_
             refine rs (v := .int .i64 r26.2) (mv (v := .int .i64 r26.2) rfl) rfl ?_
             refine rs (v := .bool (decide (r26.2 = 0))) (eqd rfl rfl) rfl ?_
             refine rs (v := .bool (decide (r26.2 = 0))) (mv (v := .bool (decide (r26.2 = 0))) rfl) rfl ?_
             cases hb49 : (decide (r26.2 = 0))
             · replace hp := gneg hp (of_decide_eq_false hb49)
               refine r0 rfl ?_
               refine r0 rfl ?_
               refine r0 rfl ?_
               refine rs (v := .bool false) (pkf (v := .bool false) rfl rfl) rfl ?_
               refine rs (v := .bool false) (mv (v := .bool false) rfl) rfl ?_
               refine r0 rfl ?_
               refine r0 rfl ?_
               refine r0 rfl ?_
               refine r0 rfl ?_
               refine rs (v := .bool false) (pkf (v := .bool false) rfl rfl) rfl ?_
               refine rs (v := .bool false) (mv (v := .bool false) rfl) rfl ?_
               refine r0 rfl ?_
               refine r0 rfl ?_
               refine rs (v := .bool false) (pkf (v := .bool false) rfl rfl) rfl ?_
               refine rs (v := .bool false) (mv (v := .bool false) rfl) rfl ?_
               refine r0 rfl ?_
               refine r0 rfl ?_
               refine r0 rfl ?_
               refine rs (v := .bool false) (pkf (v := .bool false) rfl rfl) rfl ?_
               refine rs (v := .bool false) (av (v := .bool false) rfl) rfl ?_
               refine rn ?_
               refine qn ?_
               refine Wret ?_
               replace hc := hc.rem 9 rfl rfl
               replace hc := hc.rem 8 rfl rfl
               replace hc := hc.rem 7 rfl rfl
               replace hc := hc.rem 6 rfl rfl
               replace hc := hc.rem 5 rfl rfl
               replace hc := hc.rem 4 rfl rfl
               replace hc := hc.rem 3 rfl rfl
               replace hc := hc.rem 2 rfl rfl
               replace hc := hc.rem 0 rfl rfl
               injection hp with hp; subst hp
               refine f1 (v := .bool false) Try.results9 Try.ntmps9 rfl ?_
               exact ⟨_, rfl, k _ hc⟩
             · replace hp := gpos hp (of_decide_eq_true hb49)
               refine rs (v := .slice a27 r26.1.length q29) (mv (v := .slice a27 r26.1.length q29) rfl) rfl ?_
               refine rs (v := .slice ax0 x0.length qx0) (mv (v := .slice ax0 x0.length qx0) rfl) rfl ?_
               replace hc := hc.dup (k := 8) rfl rfl
               replace hp := bind_some hp; obtain ⟨r50, hr50, hp⟩ := hp
               replace hc := hc.pull 6 rfl rfl
               refine rc (cl Try.call13 rfl rfl) rfl ?_
               refine ref04_Bytes_any reads_own reads_ro hc hr50 ?_
               clear hc; intro w51 hc
               refine rs (v := .bool r50) (pkt (v := .bool r50) rfl rfl) rfl ?_
               refine rs (v := .bool r50) (mv (v := .bool r50) rfl) rfl ?_
               cases hb52 : r50
               · replace hp := gneg hp (by rw [hb52]; exact Bool.false_ne_true)
                 subst hb52
                 refine r0 rfl ?_
                 refine r0 rfl ?_
                 refine r0 rfl ?_
                 refine r0 rfl ?_
                 refine rs (v := .bool false) (pkf (v := .bool false) rfl rfl) rfl ?_
                 refine rs (v := .bool false) (mv (v := .bool false) rfl) rfl ?_
                 refine r0 rfl ?_
                 refine r0 rfl ?_
                 refine rs (v := .bool false) (pkf (v := .bool false) rfl rfl) rfl ?_
                 refine rs (v := .bool false) (mv (v := .bool false) rfl) rfl ?_
                 refine r0 rfl ?_
                 refine r0 rfl ?_
                 refine r0 rfl ?_
                 refine rs (v := .bool false) (pkf (v := .bool false) rfl rfl) rfl ?_
                 refine rs (v := .bool false) (av (v := .bool false) rfl) rfl ?_
                 refine rn ?_
                 refine qn ?_
                 refine Wret ?_
                 replace hc := hc.rem 10 rfl rfl
                 replace hc := hc.rem 9 rfl rfl
                 replace hc := hc.rem 8 rfl rfl
                 replace hc := hc.rem 7 rfl rfl
                 replace hc := hc.rem 6 rfl rfl
                 replace hc := hc.rem 5 rfl rfl
                 replace hc := hc.rem 4 rfl rfl
                 replace hc := hc.rem 2 rfl rfl
                 replace hc := hc.rem 1 rfl rfl
                 replace hc := hc.rem 0 rfl rfl
                 injection hp with hp; subst hp
                 refine f1 (v := .bool false) Try.results9 Try.ntmps9 rfl ?_
                 exact ⟨_, rfl, k _ hc⟩
               · replace hp := gpos hp hb52
                 subst hb52
                 refine rs (v := .slice a33 r32.length q35) (mv (v := .slice a33 r32.length q35) rfl) rfl ?_
                 replace hp := bind_some hp; obtain ⟨r53, hr53, hp⟩ := hp
                 replace hc := hc.pull 5 rfl rfl
                 refine rc (cl Try.call17 rfl rfl) rfl ?_
                 refine norm_Gate_any reads_own hc hr53 ?_
                 clear hc; intro a54 n55 q56 w57 hc
                 obtain ⟨u58, _⟩ := Ctx.rdLen hc (k := 0) rfl rfl reads_own; subst u58
                 refine rs (v := .slice a33 r32.length q35) (mv (v := .slice a33 r32.length q35) rfl) rfl ?_
                 replace hp := bind_some hp; obtain ⟨r59, hr59, hp⟩ := hp
                 replace hc := hc.pull 1 rfl rfl
                 replace hc := hc.pull 1 rfl rfl
                 refine rc (cl Try.call13 rfl rfl) rfl ?_
                 refine ref04_Bytes_any reads_own reads_own hc hr59 ?_
                 clear hc; intro w60 hc
                 refine rs (v := .bool r59) (pkt (v := .bool r59) rfl rfl) rfl ?_
                 refine rs (v := .bool r59) (mv (v := .bool r59) rfl) rfl ?_
                 cases hb61 : r59
                 · replace hp := gneg hp (by rw [hb61]; exact Bool.false_ne_true)
                   subst hb61
                   refine r0 rfl ?_
                   refine r0 rfl ?_
                   refine rs (v := .bool false) (pkf (v := .bool false) rfl rfl) rfl ?_
                   refine rs (v := .bool false) (mv (v := .bool false) rfl) rfl ?_
                   refine r0 rfl ?_
                   refine r0 rfl ?_
                   refine r0 rfl ?_
                   refine rs (v := .bool false) (pkf (v := .bool false) rfl rfl) rfl ?_
                   refine rs (v := .bool false) (av (v := .bool false) rfl) rfl ?_
                   refine rn ?_
                   refine qn ?_
                   refine Wret ?_
                   replace hc := hc.rem 11 rfl rfl
                   replace hc := hc.rem 10 rfl rfl
                   replace hc := hc.rem 9 rfl rfl
                   replace hc := hc.rem 8 rfl rfl
                   replace hc := hc.rem 7 rfl rfl
                   replace hc := hc.rem 6 rfl rfl
                   replace hc := hc.rem 4 rfl rfl
                   replace hc := hc.rem 3 rfl rfl
                   replace hc := hc.rem 2 rfl rfl
                   replace hc := hc.rem 1 rfl rfl
                   replace hc := hc.rem 0 rfl rfl
                   injection hp with hp; subst hp
                   refine f1 (v := .bool false) Try.results9 Try.ntmps9 rfl ?_
                   exact ⟨_, rfl, k _ hc⟩
                 · replace hp := gpos hp hb61
                   subst hb61
                   refine rs (v := .int .i64 r43.2) (mv (v := .int .i64 r43.2) rfl) rfl ?_
                   refine rs (v := .bool (decide (r43.2 = 0))) (eqd rfl rfl) rfl ?_
                   refine rs (v := .bool (decide (r43.2 = 0))) (pkt (v := .bool (decide (r43.2 = 0))) rfl rfl) rfl ?_
                   refine rs (v := .bool (decide (r43.2 = 0))) (mv (v := .bool (decide (r43.2 = 0))) rfl) rfl ?_
                   cases hb62 : (decide (r43.2 = 0))
                   · replace hp := gneg hp (of_decide_eq_false hb62)
                     refine r0 rfl ?_
                     refine r0 rfl ?_
                     refine r0 rfl ?_
                     refine rs (v := .bool false) (pkf (v := .bool false) rfl rfl) rfl ?_
                     refine rs (v := .bool false) (av (v := .bool false) rfl) rfl ?_
                     refine rn ?_
                     refine qn ?_
                     refine Wret ?_
                     replace hc := hc.rem 11 rfl rfl
                     replace hc := hc.rem 10 rfl rfl
                     replace hc := hc.rem 9 rfl rfl
                     replace hc := hc.rem 8 rfl rfl
                     replace hc := hc.rem 7 rfl rfl
                     replace hc := hc.rem 6 rfl rfl
                     replace hc := hc.rem 4 rfl rfl
                     replace hc := hc.rem 3 rfl rfl
                     replace hc := hc.rem 2 rfl rfl
                     replace hc := hc.rem 1 rfl rfl
                     replace hc := hc.rem 0 rfl rfl
                     injection hp with hp; subst hp
                     refine f1 (v := .bool false) Try.results9 Try.ntmps9 rfl ?_
                     exact ⟨_, rfl, k _ hc⟩
                   · replace hp := gpos hp (of_decide_eq_true hb62)
                     refine rs (v := .slice a44 r43.1.length q46) (mv (v := .slice a44 r43.1.length q46) rfl) rfl ?_
                     refine rs (v := .slice ax2 x2.length qx2) (mv (v := .slice ax2 x2.length qx2) rfl) rfl ?_
                     replace hp := bind_some hp; obtain ⟨r63, hr63, hp⟩ := hp
                     replace hc := hc.pull 5 rfl rfl
                     replace hc := hc.pull 5 rfl rfl
                     refine rc (cl Try.call12 rfl rfl) rfl ?_
                     refine ref04_Ints_any reads_own hrd2 hc hr63 ?_
                     clear hc; intro w64 hc
                     refine rs (v := .bool r63) (pkt (v := .bool r63) rfl rfl) rfl ?_
                     refine rs (v := .bool r63) (av (v := .bool r63) rfl) rfl ?_
                     refine rn ?_
                     refine qn ?_
                     refine Wret ?_
                     replace hc := hc.rem 11 rfl rfl
                     replace hc := hc.rem 10 rfl rfl
                     replace hc := hc.rem 9 rfl rfl
                     replace hc := hc.rem 8 rfl rfl
                     replace hc := hc.rem 7 rfl rfl
                     replace hc := hc.rem 6 rfl rfl
                     replace hc := hc.rem 5 rfl rfl
                     replace hc := hc.rem 4 rfl rfl
                     replace hc := hc.rem 3 rfl rfl
                     replace hc := hc.rem 2 rfl rfl
                     replace hc := hc.rem 0 rfl rfl
                     injection hp with hp; subst hp
                     refine f1 (v := .bool r63) Try.results9 Try.ntmps9 rfl ?_
                     exact ⟨_, rfl, k _ hc⟩
           · replace hp := gpos hp (of_decide_eq_true hb25)
             refine Wct rfl ?_
             refine Wskip ?_
             refine qn ?_
             refine Wseqm [7, 8, 42, 43, 44, 45, 46, 47, 48, 49, 50, 51, 52, 53, 54, 55, 56, 57, 58, 59] [7, 8] (fun vs w' => ∃ j65 : (List Int), ∃ j69 : (List (List Int)), ∃ a66 : Option Addr, ∃ n67 : Nat, ∃ q68 : Nat, ∃ a70 : Option Addr, ∃ n71 : Nat, ∃ q72 : Nat, vs = [.slice a66 n67 q68, .slice a70 n71 q72] ∧ law05_NormSame.J2 j21 (law05_NormSame.L1 N x0 x1 x2 m1) j65 j69 = some r ∧ Ctx w' (Hold (pRo (pInt .i8)) [.slice ax0 x0.length qx0] x0 :: Hold (pRo (pRo (pInt .i8))) [.slice ax1 x1.length qx1] x1 :: P2 :: Own (pInt .i32) 21 (.slice a66 n67 q68) j65 :: Own (pRo (pInt .i8)) 22 (.slice a70 n71 q72) j69 :: Fr)) ?_ ?_
             · refine Wblk ?_
               refine Wseq ?_
               refine Wreg ?_
               refine rs (v := .slice ax1 x1.length qx1) (mv (v := .slice ax1 x1.length qx1) rfl) rfl ?_
               refine rs (v := .int .i64 j21) (mv (v := .int .i64 j21) rfl) rfl ?_
               replace hp := bind_some hp; obtain ⟨y73, hy73, hp⟩ := hp
               obtain ⟨b76, o77, u78, hi74, hi75⟩ := Ctx.rdAt hc (k := 1) rfl rfl reads_ro hy73
               subst u78
               refine rs (v := .pointer (some ⟨b76, o77 + (j21).toNat * 1, none⟩)) (ixx rfl rfl Try.underlying40 Try.sizeOf22 hi74 hi75 rfl) rfl ?_
               replace hc := Ctx.rdCell hc (k := 1) rfl rfl reads_ro hy73; obtain ⟨cs79, hc, hcell80⟩ := hc
               replace hc := Ctx.holdRo hc; obtain ⟨v84, u81, hc⟩ := hc; subst u81
               obtain ⟨a82, q83, u81⟩ := hc.rd (k := 0) rfl rfl reads_ro; subst u81
               refine rs (v := .slice a82 y73.length q83) (ld rfl Try.isAgg22 (hcell80 0 _ rfl)) rfl ?_
               refine rs (v := .int .i64 ((y73.length : Nat) : Int)) (ln rfl Try.underlying22) rfl ?_
               refine rs (v := .slice ax0 x0.length qx0) (mv (v := .slice ax0 x0.length qx0) rfl) rfl ?_
               refine rs (v := .int .i64 ((x0.length : Nat) : Int)) (ln rfl Try.underlying22) rfl ?_
               refine rs (v := .bool (decide (((y73.length : Nat) : Int) = ((x0.length : Nat) : Int)))) (eqd rfl rfl) rfl ?_
               refine rn ?_
               refine qn ?_
               cases hb85 : (decide (((y73.length : Nat) : Int) = ((x0.length : Nat) : Int)))
               · replace hp := gneg hp (of_decide_eq_false hb85)
                 refine Wcf rfl ?_
                 refine Wskip ?_
                 refine bn ?_
                 refine qn ?_
                 replace hc := hc.rem 0 rfl rfl
                 exact ⟨⟨j13, j17, a14, j13.length, q16, a18, j17.length, q20, rfl, hp, hc⟩, (kl rfl kb)⟩
               · replace hp := gpos hp (of_decide_eq_true hb85)
                 refine Wct rfl ?_
                 refine Wseq ?_
                 refine Wreg ?_
                 refine rs (v := .slice a14 j13.length q16) (mv (v := .slice a14 j13.length q16) rfl) rfl ?_
                 replace hc : Ctx w22 (Hold (pInt .i32) [.int .i32 0] 0 :: Hold (pRo (pInt .i8)) [.slice a82 y73.length q83] y73 :: Hold (pRo (pInt .i8)) [.slice ax0 x0.length qx0] x0 :: Hold (pRo (pRo (pInt .i8))) [.slice (some ⟨b76, o77, none⟩) x1.length qx1] x1 :: P2 :: Own (pInt .i32) 21 (.slice a14 j13.length q16) j13 :: Own (pRo (pInt .i8)) 22 (.slice a18 j17.length q20) j17 :: Fr) := hc.add _ fun _ _ _ => ⟨rfl, rfl⟩
                 refine rsE (Ctx.builtOp (css := [[.int .i32 0]]) (xs := ([0] : List Int)) (E := (pInt .i32)) hc Try.underlying23 Try.sizeOf21 Try.zeroValue21 rfl rfl rfl rfl rfl rfl rfl rfl) rfl ?_
                 clear hc; rintro _ w87 ⟨a86, rfl, hc⟩
                 replace hp := bind_some hp; obtain ⟨z88, hz88, hp⟩ := hp
                 obtain ⟨hg89, e90⟩ := app_some hz88
                 refine rsE (Ctx.append hc (k := 5) rfl rfl (k2 := 0) rfl rfl reads_own Try.underlying23 (i := Try.t21) rfl rfl rfl rfl rfl rfl rfl rfl hg89) rfl ?_
                 clear hc; rintro _ w93 ⟨a91, q92, rfl, hc⟩
                 rw [← e90] at hc ⊢
                 refine rs (v := .slice a91 z88.length q92) (av (v := .slice a91 z88.length q92) rfl) rfl ?_
                 refine rn ?_
                 refine qn ?_
                 refine Wreg ?_
                 refine rs (v := .slice a18 j17.length q20) (mv (v := .slice a18 j17.length q20) rfl) rfl ?_
                 refine rs (v := .slice (some ⟨b76, o77, none⟩) x1.length qx1) (mv (v := .slice (some ⟨b76, o77, none⟩) x1.length qx1) rfl) rfl ?_
                 refine rs (v := .int .i64 j21) (mv (v := .int .i64 j21) rfl) rfl ?_
                 replace hp := bind_some hp; obtain ⟨y94, hy94, hp⟩ := hp
                 obtain ⟨b97, o98, u99, hi95, hi96⟩ := Ctx.rdAt hc (k := 3) rfl rfl reads_ro hy94
                 clear u99
                 refine rs (v := .pointer (some ⟨b76, o77 + (j21).toNat * 1, none⟩)) (ixx rfl rfl Try.underlying40 Try.sizeOf22 hi95 hi96 rfl) rfl ?_
                 replace hc := Ctx.rdCell hc (k := 3) rfl rfl reads_ro hy94; obtain ⟨cs100, hc, hcell101⟩ := hc
                 replace hc := Ctx.holdRo hc; obtain ⟨v105, u102, hc⟩ := hc; subst u102
                 obtain ⟨a103, q104, u102⟩ := hc.rd (k := 0) rfl rfl reads_ro; subst u102
                 refine rs (v := .slice a103 y94.length q104) (ld rfl Try.isAgg22 (hcell101 0 _ rfl)) rfl ?_
                 replace hc := hc.dup (k := 0) rfl rfl
                 refine rsE (Ctx.builtOp (css := [[.slice a103 y94.length q104]]) (xs := ([y94] : List (List Int))) (E := (pRo (pInt .i8))) hc Try.underlying40 Try.sizeOf22 Try.zeroValue22 rfl rfl rfl rfl rfl rfl rfl rfl) rfl ?_
                 clear hc; rintro _ w107 ⟨a106, rfl, hc⟩
                 replace hp := bind_some hp; obtain ⟨z108, hz108, hp⟩ := hp
                 obtain ⟨hg109, e110⟩ := app_some hz108
                 refine rsE (Ctx.append hc (k := 8) rfl rfl (k2 := 0) rfl rfl reads_own Try.underlying40 (i := Try.t22) rfl rfl rfl rfl rfl rfl rfl rfl hg109) rfl ?_
                 clear hc; rintro _ w113 ⟨a111, q112, rfl, hc⟩
                 rw [← e110] at hc ⊢
                 refine rs (v := .slice a111 z108.length q112) (av (v := .slice a111 z108.length q112) rfl) rfl ?_
                 refine rn ?_
                 refine bn ?_
                 refine qn ?_
                 replace hc := hc.rem 3 rfl rfl
                 replace hc := hc.rem 2 rfl rfl
                 replace hc := hc.rem 1 rfl rfl
                 replace hc := hc.rem 0 rfl rfl
                 exact ⟨⟨z88, z108, a91, z88.length, q92, a111, z108.length, q112, rfl, hp, hc⟩, (kl rfl kb)⟩
             · clear hp hc; intro vs u w114 hJ
               obtain ⟨j65, j69, a66, n67, q68, a70, n71, q72, rfl, hp, hc⟩ := hJ
               obtain ⟨u115, _⟩ := Ctx.rdLen hc (k := 3) rfl rfl reads_own; subst u115
               obtain ⟨u116, _⟩ := Ctx.rdLen hc (k := 4) rfl rfl reads_own; subst u116
               unfold law05_NormSame.J2 at hp
               refine Wreg ?_
               refine rs (v := .int .i64 j21) (mv (v := .int .i64 j21) rfl) rfl ?_
               refine rs (v := .int .i64 (IntKind.i64.wrap (j21 + 1))) (adw rfl rfl) rfl ?_
               refine rs (v := .int .i64 (IntKind.i64.wrap (j21 + 1))) (av (v := .int .i64 (IntKind.i64.wrap (j21 + 1))) rfl) rfl ?_
               refine rn ?_
               refine qn ?_
               exact ⟨m1, Nat.lt_succ_self _, ⟨j65, j69, (IntKind.i64.wrap (j21 + 1)), a66, j65.length, q68, a70, j69.length, q72, rfl, hp, hc⟩, (kl rfl (km rfl (kl rfl k0)))⟩
       · replace hp := gpos hp (of_decide_eq_true hb8)
         refine Wct rfl ?_
         refine Wseq ?_
         refine Wreg ?_
         replace hp := bind_some hp; obtain ⟨r117, hr117, hp⟩ := hp
         refine rc (cl Try.call10 rfl rfl) rfl ?_
         refine law05_awake_any hc hr117 ?_
         clear hc; intro w118 hc
         refine rs (v := .bool r117) (av (v := .bool r117) rfl) rfl ?_
         refine rn ?_
         refine qn ?_
         refine Wret ?_
         refine qr ?_
         replace hc := hc.rem 1 rfl rfl
         replace hc := hc.rem 0 rfl rfl
         injection hp with hp; subst hp
         refine f1 (v := .bool r117) Try.results9 Try.ntmps9 rfl ?_
         exact ⟨_, rfl, k _ hc⟩
     · replace hp := gpos hp (of_decide_eq_true hb7)
       refine r0 rfl ?_
       refine r0 rfl ?_
       refine r0 rfl ?_
       refine rs (v := .bool true) (pkt (v := .bool true) rfl rfl) rfl ?_
       refine rn ?_
       refine qn ?_
       refine Wct rfl ?_
       refine Wseq ?_
       refine Wreg ?_
       replace hp := bind_some hp; obtain ⟨r119, hr119, hp⟩ := hp
       refine rc (cl Try.call10 rfl rfl) rfl ?_
       refine law05_awake_any hc hr119 ?_
       clear hc; intro w120 hc
       refine rs (v := .bool r119) (av (v := .bool r119) rfl) rfl ?_
       refine rn ?_
       refine qn ?_
       refine Wret ?_
       refine qr ?_
       replace hc := hc.rem 1 rfl rfl
       replace hc := hc.rem 0 rfl rfl
       injection hp with hp; subst hp
       refine f1 (v := .bool r119) Try.results9 Try.ntmps9 rfl ?_
       exact ⟨_, rfl, k _ hc⟩
   · replace hp := gpos hp (of_decide_eq_true hb6)
     refine r0 rfl ?_
     refine r0 rfl ?_
     refine r0 rfl ?_
     refine rs (v := .bool true) (pkt (v := .bool true) rfl rfl) rfl ?_
     refine rs (v := .bool true) (mv (v := .bool true) rfl) rfl ?_
     refine r0 rfl ?_
     refine r0 rfl ?_
     refine r0 rfl ?_
     refine rs (v := .bool true) (pkt (v := .bool true) rfl rfl) rfl ?_
     refine rn ?_
     refine qn ?_
     refine Wct rfl ?_
     refine Wseq ?_
     refine Wreg ?_
     replace hp := bind_some hp; obtain ⟨r121, hr121, hp⟩ := hp
     refine rc (cl Try.call10 rfl rfl) rfl ?_
     refine law05_awake_any hc hr121 ?_
     clear hc; intro w122 hc
     refine rs (v := .bool r121) (av (v := .bool r121) rfl) rfl ?_
     refine rn ?_
     refine qn ?_
     refine Wret ?_
     refine qr ?_
     replace hc := hc.rem 1 rfl rfl
     replace hc := hc.rem 0 rfl rfl
     injection hp with hp; subst hp
     refine f1 (v := .bool r121) Try.results9 Try.ntmps9 rfl ?_
     exact ⟨_, rfl, k _ hc⟩

end Go.Proofs.Ytmpdkjcobpghaaa
