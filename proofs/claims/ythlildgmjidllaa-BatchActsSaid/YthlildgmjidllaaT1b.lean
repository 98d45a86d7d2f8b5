/- Functions of the program as plain functions, and the proofs that walks compute them. Printed by a program of this session. -/
import Derived.Test.YthlildgmjidllaaT1
namespace Go.Proofs.Ythlildgmjidllaa
open Go Go.RowKit Go.Hp
set_option linter.unusedVariables false
set_option linter.unusedSimpArgs false
set_option maxRecDepth 100000

-- FN peloton/pelotonlaw22.BatchActs
theorem bd_42_0 {ρ : Operand → Value} {w : World} {dst : Option Nat} {ty : TypeId} {pos : String} {after : Array Edge} {g : Option (Nat × Bool)} {x0 : Operand} {k0 : IntKind} {a0 : Int} (h0 : ρ x0 = (.int k0 a0)) :
    (execOp ρ ⟨dst, .build 42 #[(0, x0)], ty, pos, after, g⟩).run Try.prog w = .ok (.value (.agg #[(.int k0 a0), (.slice none 0 0)])) w := by
  simp [execOp, Instr.build, Instr.fill, Try.zeroValue42, Try.runUnderlying42, Try.sizeOf3, Try.sizeOf40, h0, Value.cells]

def law22_BatchActs.J3 (N : Nat) (x0 : Int) (j25 : Int) (k2 : S_ref22_Batch → S_batch_Batch → Int → Option (Bool)) (j44 : S_ref22_Batch) (j45 : S_batch_Batch) : Option (Bool) :=
  (ref22_Batch_Lists N j44).bind fun r118 =>
  (batch_Batch_Members j45).bind fun r128 =>
  (ref09_Ints N r128 r118.1).bind fun r134 =>
  if r134 = true then
    (batch_Batch_In N j45).bind fun r137 =>
    (ref09_Ints N r137 r118.2).bind fun r143 =>
    if r143 = true then
      (batch_Batch_Room j45).bind fun r146 =>
      if r146 ≠ (IntKind.i64.wrap (x0 - ((r118.1.length : Nat) : Int))) then
        some false
      else
        (batch_Batch_Room j45).bind fun r149 =>
        if r149 < 0 then
          some false
        else
          k2 j44 j45 (IntKind.i64.wrap (j25 + 1))
    else
      some false
  else
    some false

def law22_BatchActs.L4 (N : Nat) (x0 : Int) (j24 : S_batch_Batch) (j25 : Int) (y28 : S_law22_Act) (k2 : S_ref22_Batch → S_batch_Batch → Int → Option (Bool)) : Nat → S_ref22_Batch → Int → Int → Option (Bool)
  | 0, _, _, _ => none
  | m4 + 1, j55, j56, j57 =>
    if j57 < ((y28.Ids.length : Nat) : Int) then
      (idx y28.Ids j57).bind fun y63 =>
      (ref22_Batch_Back N j55 y63).bind fun r72 =>
      (some (IntKind.i64.wrap (j56 + r72.1))).bind fun e74 =>
      (law22_BatchActs.L4 N x0 j24 j25 y28 k2 m4) r72.2 e74 (IntKind.i64.wrap (j57 + 1))
    else
      (batch_Batch_Back N j24 y28.Ids).bind fun r60 =>
      if r60.1 ≠ j56 then
        some false
      else
        law22_BatchActs.J3 N x0 j25 k2 j55 r60.2

def law22_BatchActs.L5 (N : Nat) (x0 : Int) (j24 : S_batch_Batch) (j25 : Int) (y28 : S_law22_Act) (k2 : S_ref22_Batch → S_batch_Batch → Int → Option (Bool)) : Nat → S_ref22_Batch → Int → Int → Option (Bool)
  | 0, _, _, _ => none
  | m5 + 1, j91, j92, j93 =>
    if j93 < ((y28.Ids.length : Nat) : Int) then
      (idx y28.Ids j93).bind fun y99 =>
      (ref22_Batch_Remove N j91 y99).bind fun r108 =>
      (some (IntKind.i64.wrap (j92 + r108.1))).bind fun e110 =>
      (law22_BatchActs.L5 N x0 j24 j25 y28 k2 m5) r108.2 e110 (IntKind.i64.wrap (j93 + 1))
    else
      (batch_Batch_Remove N j24 y28.Ids).bind fun r96 =>
      if r96.1 ≠ j92 then
        some false
      else
        law22_BatchActs.J3 N x0 j25 k2 j91 r96.2

def law22_BatchActs.L2 (N : Nat) (x0 : Int) (x1 : (List S_law22_Act)) : Nat → S_ref22_Batch → S_batch_Batch → Int → Option (Bool)
  | 0, _, _, _ => none
  | m2 + 1, j23, j24, j25 =>
    if j25 < ((x1.length : Nat) : Int) then
      (idx x1 j25).bind fun y28 =>
      if ((y28.Ids.length : Nat) : Int) > 30 then
        some true
      else
        if y28.Kind = 0 then
          (batch_Batch_Add N j24 y28.Ids).bind fun r112 =>
          (ref22_Batch_Add N j23 y28.Ids).bind fun r114 =>
          if r112.1 ≠ r114.1 then
            some false
          else
            law22_BatchActs.J3 N x0 j25 (law22_BatchActs.L2 N x0 x1 m2) r114.2 r112.2
        else
          if y28.Kind = 1 then
            law22_BatchActs.L5 N x0 j24 j25 y28 (law22_BatchActs.L2 N x0 x1 m2) N j23 0 0
          else
            if y28.Kind = 2 then
              (batch_Batch_Pick N j24 y28.N).bind fun r76 =>
              (ref22_Batch_Pick N j23 (min y28.N 1000)).bind fun r82 =>
              (ref09_Ints N r76.1 r82.1).bind fun r88 =>
              if r88 = true then
                law22_BatchActs.J3 N x0 j25 (law22_BatchActs.L2 N x0 x1 m2) r82.2 r76.2
              else
                some false
            else
              if y28.Kind = 3 then
                law22_BatchActs.L4 N x0 j24 j25 y28 (law22_BatchActs.L2 N x0 x1 m2) N j23 0 0
              else
                if y28.Kind = 4 then
                  (batch_Batch_Rewind j24).bind fun r51 =>
                  (ref22_Batch_Rewind N j23).bind fun r53 =>
                  law22_BatchActs.J3 N x0 j25 (law22_BatchActs.L2 N x0 x1 m2) r53 r51
                else
                  law22_BatchActs.J3 N x0 j25 (law22_BatchActs.L2 N x0 x1 m2) j23 j24
    else
      some true

def law22_BatchActs.J1 (N : Nat) (x0 : Int) (x1 : (List S_law22_Act)) (r7 : ((Option S_batch_Batch) × Int)) (j10 : Bool) : Option (Bool) :=
  if j10 = true then
    optc r7.1 (
      some (decide (r7.2 = 2))) fun y153 =>
    some false
  else
    optc r7.1 (
      some false) fun y15 =>
    if r7.2 ≠ 0 then
      some false
    else
      law22_BatchActs.L2 N x0 x1 N (⟨x0, []⟩ : S_ref22_Batch) y15 0

def law22_BatchActs (N : Nat) (x0 : Int) (x1 : (List S_law22_Act)) : Option (Bool) :=
  (law22_awake N).bind fun r1 =>
  if r1 = true then
    if ((x1.length : Nat) : Int) > 80 then
      (law22_awake N).bind fun r157 =>
      some r157
    else
      (batch_New x0).bind fun r7 =>
      if x0 < 1 then
        law22_BatchActs.J1 N x0 x1 r7 true
      else
        law22_BatchActs.J1 N x0 x1 r7 (decide (x0 > 256))
  else
    (law22_awake N).bind fun r4 =>
    some r4

set_option maxHeartbeats 2000000 in
theorem law22_BatchActs_any {N : Nat} {x0 : Int} {x1 : (List S_law22_Act)} {ax1 : Option Addr} {nx1 : Nat} {qx1 : Nat} {P1 : HP} {Fr : List HP} {w : World} {r : Bool} {K : Value → World → Prop} (hrd1 : Reads P1 S_law22_Act.pr (.slice ax1 nx1 qx1) x1) (hc : Ctx w (P1 :: Fr)) (hp : law22_BatchActs N x0 x1 = some r)
    (k : ∀ w', Ctx w' (P1 :: Fr) → K (.bool r) w') : Calls Try.prog 5 #[.int .i64 x0, .slice ax1 nx1 qx1] w (Ret K) := by
 unfold law22_BatchActs at hp
 refine Center (args := [.int .i64 x0, .slice ax1 nx1 qx1]) (l := [(0, .int .i64 x0), (1, .slice ax1 nx1 qx1)]) Try.func5 Try.ntmps5 rfl rfl rfl ?_
 obtain ⟨hn1, _⟩ := Ctx.rdLen hc (k := 0) rfl rfl hrd1; subst hn1
 refine Wseq ?_
 refine Wreg ?_
 refine rs (v := .bool false) (av (v := .bool false) rfl) rfl ?_
 refine rn ?_
 refine qn ?_
 refine Wseq ?_
 refine Wseq ?_
 refine Wreg ?_
 replace hp := bind_some hp; obtain ⟨r1, hr1, hp⟩ := hp
 refine rc (cl Try.call6 rfl rfl) rfl ?_
 refine law22_awake_any hc hr1 ?_
 clear hc; intro w2 hc
 cases hb3 : r1
 · replace hp := gneg hp (by rw [hb3]; exact Bool.false_ne_true)
   subst hb3
   refine rs (v := .bool true) (ntf rfl) rfl ?_
   refine rs (v := .bool true) (mv (v := .bool true) rfl) rfl ?_
   refine r0 rfl ?_
   refine r0 rfl ?_
   refine r0 rfl ?_
   refine rs (v := .bool true) (pkt (v := .bool true) rfl rfl) rfl ?_
   refine rn ?_
   refine qn ?_
   refine Wct rfl ?_
   refine Wseq ?_
   refine Wreg ?_
   replace hp := bind_some hp; obtain ⟨r4, hr4, hp⟩ := hp
   refine rc (cl Try.call6 rfl rfl) rfl ?_
   refine law22_awake_any hc hr4 ?_
   clear hc; intro w5 hc
   refine rs (v := .bool r4) (av (v := .bool r4) rfl) rfl ?_
   refine rn ?_
   refine qn ?_
   refine Wret ?_
   refine qr ?_
   injection hp with hp; subst hp
   refine f1 (v := .bool r4) Try.results5 Try.ntmps5 rfl ?_
   exact ⟨_, rfl, k _ hc⟩
 · replace hp := gpos hp hb3
   subst hb3
   refine rs (v := .bool false) (ntt rfl) rfl ?_
   refine rs (v := .bool false) (mv (v := .bool false) rfl) rfl ?_
   refine rs (v := .slice ax1 x1.length qx1) (mv (v := .slice ax1 x1.length qx1) rfl) rfl ?_
   refine rs (v := .int .i64 ((x1.length : Nat) : Int)) (ln rfl Try.underlying38) rfl ?_
   refine rs (v := .bool (decide (((x1.length : Nat) : Int) > 80))) (gt' rfl rfl) rfl ?_
   refine rs (v := .bool (decide (((x1.length : Nat) : Int) > 80))) (pkf (v := .bool (decide (((x1.length : Nat) : Int) > 80))) rfl rfl) rfl ?_
   refine rn ?_
   refine qn ?_
   cases hb6 : (decide (((x1.length : Nat) : Int) > 80))
   · replace hp := gneg hp (of_decide_eq_false hb6)
     refine Wcf rfl ?_
     refine Wskip ?_
     refine qn ?_
     refine Wseq ?_
     refine Wreg ?_
     refine rs (v := .int .i64 x0) (mv (v := .int .i64 x0) rfl) rfl ?_
     replace hp := bind_some hp; obtain ⟨r7, hr7, hp⟩ := hp
     refine rc (cl Try.call7 rfl rfl) rfl ?_
     refine batch_New_any hc hr7 ?_
     clear hc; intro v8 w9 hc
     refine rs (v := .tuple #[v8, .int .i64 r7.2]) (mv (v := .tuple #[v8, .int .i64 r7.2]) rfl) rfl ?_
     refine rs (v := v8) (ext (v := v8) rfl rfl) rfl ?_
     refine rs (v := .int .i64 r7.2) (ext (v := .int .i64 r7.2) rfl rfl) rfl ?_
     refine rs (v := v8) (av (v := v8) rfl) rfl ?_
     refine rs (v := .int .i64 r7.2) (av (v := .int .i64 r7.2) rfl) rfl ?_
     refine rn ?_
     refine qn ?_
     refine Wseq ?_
     refine Wseqm [28, 29, 30, 31, 32, 33] [33] (fun vs w' => ∃ j10 : Bool, vs = [.bool j10] ∧ law22_BatchActs.J1 N x0 x1 r7 j10 = some r ∧ Ctx w' (PtO S_batch_Batch.hp v8 r7.1 :: P1 :: Fr)) ?_ ?_
     · refine Wreg ?_
       refine rs (v := .int .i64 x0) (mv (v := .int .i64 x0) rfl) rfl ?_
       refine rs (v := .bool (decide (x0 < 1))) (lt' rfl rfl) rfl ?_
       refine rs (v := .bool (decide (x0 < 1))) (mv (v := .bool (decide (x0 < 1))) rfl) rfl ?_
       cases hb11 : (decide (x0 < 1))
       · replace hp := gneg hp (of_decide_eq_false hb11)
         refine rs (v := .int .i64 x0) (mv (v := .int .i64 x0) rfl) rfl ?_
         refine rs (v := .bool (decide (x0 > 256))) (gt' rfl rfl) rfl ?_
         refine rs (v := .bool (decide (x0 > 256))) (pkf (v := .bool (decide (x0 > 256))) rfl rfl) rfl ?_
         refine rn ?_
         refine qn ?_
         exact ⟨⟨decide (x0 > 256), rfl, hp, hc⟩, (kl rfl kb)⟩
       · replace hp := gpos hp (of_decide_eq_true hb11)
         refine r0 rfl ?_
         refine r0 rfl ?_
         refine rs (v := .bool true) (pkt (v := .bool true) rfl rfl) rfl ?_
         refine rn ?_
         refine qn ?_
         exact ⟨⟨true, rfl, hp, hc⟩, (kl rfl kb)⟩
     · clear hp hc; intro vs u w12 hJ
       obtain ⟨j10, rfl, hp, hc⟩ := hJ
       unfold law22_BatchActs.J1 at hp
       cases hb13 : j10
       · replace hp := gneg hp (by rw [hb13]; exact Bool.false_ne_true)
         subst hb13
         refine Wcf rfl ?_
         refine Wskip ?_
         refine qn ?_
         refine Wseq ?_
         refine Wseq ?_
         refine Wreg ?_
         refine rs (v := v8) (mv (v := v8) rfl) rfl ?_
         cases hb14 : r7.1
         · replace hp := optN hp hb14
           rw [hb14] at hc
           replace hc := Ctx.ptoN hc; obtain ⟨u16, hc⟩ := hc; subst u16
           refine rs (v := .bool true) (ept Try.underlying24 rfl rfl) rfl ?_
           refine rs (v := .bool true) (mv (v := .bool true) rfl) rfl ?_
           refine r0 rfl ?_
           refine r0 rfl ?_
           refine rs (v := .bool true) (pkt (v := .bool true) rfl rfl) rfl ?_
           refine rn ?_
           refine qn ?_
           refine Wct rfl ?_
           refine Wseq ?_
           refine Wreg ?_
           refine rs (v := .bool false) (av (v := .bool false) rfl) rfl ?_
           refine rn ?_
           refine qn ?_
           refine Wret ?_
           refine qr ?_
           injection hp with hp; subst hp
           refine f1 (v := .bool false) Try.results5 Try.ntmps5 rfl ?_
           exact ⟨_, rfl, k _ hc⟩
         · rename_i y15
           replace hp := optS hp hb14
           rw [hb14] at hc
           replace hc := Ctx.ptoS hc; obtain ⟨b17, u18, hc⟩ := hc; subst u18
           refine rs (v := .bool false) (epf Try.underlying24 rfl rfl) rfl ?_
           refine rs (v := .bool false) (mv (v := .bool false) rfl) rfl ?_
           refine rs (v := .int .i64 r7.2) (mv (v := .int .i64 r7.2) rfl) rfl ?_
           refine rs (v := .bool (decide (r7.2 ≠ 0))) (ned rfl rfl) rfl ?_
           refine rs (v := .bool (decide (r7.2 ≠ 0))) (pkf (v := .bool (decide (r7.2 ≠ 0))) rfl rfl) rfl ?_
           refine rn ?_
           refine qn ?_
           cases hb19 : (decide (r7.2 ≠ 0))
           · replace hp := gneg hp (of_decide_eq_false hb19)
             refine Wcf rfl ?_
             refine Wskip ?_
             refine qn ?_
             refine Wseq ?_
             refine Wreg ?_
             refine rs (v := .int .i64 x0) (mv (v := .int .i64 x0) rfl) rfl ?_
             refine rs (v := .agg #[.int .i64 x0, .slice none 0 0]) (bd_42_0 rfl) rfl ?_
             refine rsE (Ctx.boxOp (cs := [.int .i64 x0, .slice none 0 0]) (v := .agg #[.int .i64 x0, .slice none 0 0]) hc rfl rfl) rfl ?_
             clear hc; rintro _ w22 ⟨b20, rfl, hc⟩
             refine rs (v := .pointer (some ⟨b20, 0, none⟩)) (av (v := .pointer (some ⟨b20, 0, none⟩)) rfl) rfl ?_
             refine rn ?_
             refine qn ?_
             refine Wseq ?_
             refine Wseq ?_
             refine Wreg ?_
             refine rs (v := .int .i64 0) (av (v := .int .i64 0) rfl) rfl ?_
             refine rn ?_
             refine qn ?_
             refine Wblk ?_
             replace hc := hc.nilOwn S_ref22_Member.pr 57
             replace hc := hc.pull 1 rfl rfl
             replace hc : Ctx w22 (S_ref22_Batch.hp b20 (⟨x0, []⟩ : S_ref22_Batch) :: S_batch_Batch.hp b17 y15 :: P1 :: Fr) := Ctx.exB _ _ (Ctx.sepB hc)
             refine Wloop [4, 8, 9, 10, 11, 12, 13, 14, 49, 50, 51, 52, 53, 54, 55, 56, 57, 58, 59, 60, 61, 62, 63, 64, 65, 66, 67, 68, 69, 70, 71, 72, 73, 74, 75, 76, 77, 78, 79, 80, 81, 82, 83, 84, 85, 86, 87, 88, 89, 90, 91, 92, 93, 94, 95, 96, 97, 98, 99, 100, 101, 102, 103, 104, 105, 106, 107, 108, 109, 110, 111, 112, 113, 114, 115, 116, 117, 118, 119, 120, 121, 122, 123, 124, 125, 126, 127, 128, 129, 130, 131, 132, 133, 134, 135, 136, 137, 138, 139, 140, 141, 142, 143, 144, 145, 146, 147, 148, 149, 150, 151, 152, 153, 154, 155, 156, 157, 158, 159, 160, 161, 162, 163, 164, 165, 166, 167, 168, 169, 170, 171, 172, 173] [8] (fun m vs w' => ∃ j23 : S_ref22_Batch, ∃ j24 : S_batch_Batch, ∃ j25 : Int, vs = [.int .i64 j25] ∧ law22_BatchActs.L2 N x0 x1 m j23 j24 j25 = some r ∧ Ctx w' (S_ref22_Batch.hp b20 j23 :: S_batch_Batch.hp b17 j24 :: P1 :: Fr)) N ?_ ?_
             · exact ⟨(⟨x0, []⟩ : S_ref22_Batch), y15, 0, rfl, hp, hc⟩
             · clear hp hc; intro m vs u w26 hJ
               obtain ⟨j23, j24, j25, rfl, hp, hc⟩ := hJ
               rcases m with _ | m2
               · cases (show none = some r from hp)
               rw [law22_BatchActs.L2] at hp
               refine Wseq ?_
               refine Wseq ?_
               refine Wreg ?_
               refine rs (v := .int .i64 j25) (mv (v := .int .i64 j25) rfl) rfl ?_
               refine rs (v := .slice ax1 x1.length qx1) (mv (v := .slice ax1 x1.length qx1) rfl) rfl ?_
               refine rs (v := .int .i64 ((x1.length : Nat) : Int)) (ln rfl Try.underlying38) rfl ?_
               refine rs (v := .bool (decide (j25 < ((x1.length : Nat) : Int)))) (lt' rfl rfl) rfl ?_
               refine rn ?_
               refine qn ?_
               cases hb27 : (decide (j25 < ((x1.length : Nat) : Int)))
               · replace hp := gneg hp (of_decide_eq_false hb27)
                 refine Wcf rfl ?_
                 refine Wexit ?_
                 refine qx ?_
                 refine qx ?_
                 refine be ?_
                 refine qn ?_
                 refine Wseq ?_
                 refine Wreg ?_
                 refine rs (v := .bool true) (av (v := .bool true) rfl) rfl ?_
                 refine rn ?_
                 refine qn ?_
                 refine Wret ?_
                 replace hc := hc.rem 1 rfl rfl
                 replace hc := hc.rem 0 rfl rfl
                 injection hp with hp; subst hp
                 refine f1 (v := .bool true) Try.results5 Try.ntmps5 rfl ?_
                 exact ⟨_, rfl, k _ hc⟩
               · replace hp := gpos hp (of_decide_eq_true hb27)
                 refine Wct rfl ?_
                 refine Wskip ?_
                 refine qn ?_
                 refine Wseq ?_
                 refine Wblk ?_
                 refine Wseq ?_
                 refine Wreg ?_
                 refine rs (v := .slice ax1 x1.length qx1) (mv (v := .slice ax1 x1.length qx1) rfl) rfl ?_
                 refine rs (v := .int .i64 j25) (mv (v := .int .i64 j25) rfl) rfl ?_
                 replace hp := bind_some hp; obtain ⟨y28, hy28, hp⟩ := hp
                 obtain ⟨b31, o32, u33, hi29, hi30⟩ := Ctx.rdAt hc (k := 2) rfl rfl hrd1 hy28
                 subst u33
                 refine rs (v := .pointer (some ⟨b31, o32 + (j25).toNat * 3, none⟩)) (ixx rfl rfl Try.underlying38 Try.sizeOf44 hi29 hi30 rfl) rfl ?_
                 replace hc := Ctx.rdCell hc (k := 2) rfl rfl hrd1 hy28; obtain ⟨cs34, hc, hcell35⟩ := hc
                 replace hc := S_law22_Act.op hc; obtain ⟨a37, q38, u36, hc⟩ := hc; subst u36
                 refine rs (v := .agg #[.int .i64 y28.Kind, .int .i64 y28.N, .slice a37 y28.Ids.length q38]) (ldg rfl Try.isAgg44 Try.sizeOf44 rfl (elCells hcell35 0 (vs := [.int .i64 y28.Kind, .int .i64 y28.N, .slice a37 y28.Ids.length q38]) rfl)) rfl ?_
                 refine rsE (Ctx.allocOp (cs := [.int .i64 0, .int .i64 0, .slice none 0 0]) hc Try.zeroValue44 rfl) rfl ?_
                 clear hc; rintro _ w41 ⟨b39, rfl, hc⟩
                 refine ruE (A := fun w' => Ctx w' (B b39 [.int .i64 y28.Kind, .int .i64 y28.N, .slice a37 y28.Ids.length q38] 44 :: Hold (pRo (pInt .i64)) [.slice a37 y28.Ids.length q38] y28.Ids :: S_ref22_Batch.hp b20 j23 :: S_batch_Batch.hp b17 j24 :: P1 :: Fr)) (Ctx.putAgg hc (k := 0) rfl rfl (vs := [.int .i64 y28.Kind, .int .i64 y28.N, .slice a37 y28.Ids.length q38]) rfl rfl rfl Try.sizeOf44 rfl rfl rfl) rfl ?_
                 clear hc; rintro w42 hc
                 refine rn ?_
                 refine qn ?_
                 refine Wseq ?_
                 refine Wseq ?_
                 refine Wreg ?_
                 refine rs (v := .pointer (some ⟨b39, 2, none⟩)) (fax 2 rfl Try.underlying44 rfl Try.sizeOf22 rfl rfl rfl) rfl ?_
                 refine rs (v := .slice a37 y28.Ids.length q38) (ld rfl Try.isAgg22 (Ctx.cell hc (k := 0) rfl rfl rfl)) rfl ?_
                 refine rs (v := .int .i64 ((y28.Ids.length : Nat) : Int)) (ln rfl Try.underlying22) rfl ?_
                 refine rs (v := .bool (decide (((y28.Ids.length : Nat) : Int) > 30))) (gt' rfl rfl) rfl ?_
                 refine rn ?_
                 refine qn ?_
                 cases hb43 : (decide (((y28.Ids.length : Nat) : Int) > 30))
                 · replace hp := gneg hp (of_decide_eq_false hb43)
                   refine Wcf rfl ?_
                   refine Wskip ?_
                   refine qn ?_
                   refine Wseq ?_
                   refine Wreg ?_
                   refine rs (v := .int .i64 0) (av (v := .int .i64 0) rfl) rfl ?_
                   refine rn ?_
                   refine qn ?_
                   refine Wseqm [4, 10, 11, 12, 63, 64, 65, 66, 67, 68, 69, 70, 71, 72, 73, 74, 75, 76, 77, 78, 79, 80, 81, 82, 83, 84, 85, 86, 87, 88, 89, 90, 91, 92, 93, 94, 95, 96, 97, 98, 99, 100, 101, 102, 103, 104, 105, 106, 107, 108, 109, 110, 111, 112, 113, 114, 115, 116, 117, 118, 119, 120, 121, 122, 123, 124, 125, 126, 127, 128, 129, 130, 131, 132, 133, 134, 135, 136, 137, 138, 139, 140, 141, 142] [] (fun vs w' => ∃ j44 : S_ref22_Batch, ∃ j45 : S_batch_Batch, vs = [] ∧ law22_BatchActs.J3 N x0 j25 (law22_BatchActs.L2 N x0 x1 m2) j44 j45 = some r ∧ Ctx w' (S_ref22_Batch.hp b20 j44 :: S_batch_Batch.hp b17 j45 :: P1 :: Fr)) ?_ ?_
                   · refine Wseq ?_
                     refine Wreg ?_
                     refine rs (v := .pointer (some ⟨b39, 0, none⟩)) (fax 0 rfl Try.underlying44 rfl Try.sizeOf3 rfl rfl rfl) rfl ?_
                     refine rs (v := .int .i64 y28.Kind) (ld rfl Try.isAgg3 (Ctx.cell hc (k := 0) rfl rfl rfl)) rfl ?_
                     refine rn ?_
                     refine qn ?_
                     refine Wblk ?_
                     refine Wseq ?_
                     refine Wreg ?_
                     refine rs (v := .bool (decide (y28.Kind = 0))) (eqd rfl rfl) rfl ?_
                     refine rs (v := .bool (decide (y28.Kind = 0))) (av (v := .bool (decide (y28.Kind = 0))) rfl) rfl ?_
                     refine rn ?_
                     refine qn ?_
                     cases hb46 : (decide (y28.Kind = 0))
                     · replace hp := gneg hp (of_decide_eq_false hb46)
                       refine Wcf rfl ?_
                       refine Wseq ?_
                       refine Wreg ?_
                       refine rs (v := .bool (decide (y28.Kind = 1))) (eqd rfl rfl) rfl ?_
                       refine rs (v := .bool (decide (y28.Kind = 1))) (av (v := .bool (decide (y28.Kind = 1))) rfl) rfl ?_
                       refine rn ?_
                       refine qn ?_
                       cases hb47 : (decide (y28.Kind = 1))
                       · replace hp := gneg hp (of_decide_eq_false hb47)
                         refine Wcf rfl ?_
                         refine Wseq ?_
                         refine Wreg ?_
                         refine rs (v := .bool (decide (y28.Kind = 2))) (eqd rfl rfl) rfl ?_
                         refine rs (v := .bool (decide (y28.Kind = 2))) (av (v := .bool (decide (y28.Kind = 2))) rfl) rfl ?_
                         refine rn ?_
                         refine qn ?_
                         cases hb48 : (decide (y28.Kind = 2))
                         · replace hp := gneg hp (of_decide_eq_false hb48)
                           refine Wcf rfl ?_
                           refine Wseq ?_
                           refine Wreg ?_
                           refine rs (v := .bool (decide (y28.Kind = 3))) (eqd rfl rfl) rfl ?_
                           refine rs (v := .bool (decide (y28.Kind = 3))) (av (v := .bool (decide (y28.Kind = 3))) rfl) rfl ?_
                           refine rn ?_
                           refine qn ?_
                           cases hb49 : (decide (y28.Kind = 3))
                           · replace hp := gneg hp (of_decide_eq_false hb49)
                             refine Wcf rfl ?_
                             refine Wseq ?_
                             refine Wreg ?_
                             refine rs (v := .bool (decide (y28.Kind = 4))) (eqd rfl rfl) rfl ?_
                             refine rs (v := .bool (decide (y28.Kind = 4))) (av (v := .bool (decide (y28.Kind = 4))) rfl) rfl ?_
                             refine rn ?_
                             refine qn ?_
                             cases hb50 : (decide (y28.Kind = 4))
                             · replace hp := gneg hp (of_decide_eq_false hb50)
                               refine Wcf rfl ?_
                               refine Wskip ?_
                               refine bn ?_
                               refine qn ?_
                               replace hc := hc.rem 1 rfl rfl
                               replace hc := hc.rem 0 rfl rfl
                               exact ⟨⟨j23, j24, rfl, hp, hc⟩, (kl rfl kb)⟩
                             · replace hp := gpos hp (of_decide_eq_true hb50)
                               refine Wct rfl ?_
                               refine Wseq ?_
                               refine Wreg ?_
                               refine rs (v := .pointer (some ⟨b17, 0, none⟩)) (mv (v := .pointer (some ⟨b17, 0, none⟩)) rfl) rfl ?_
                               replace hp := bind_some hp; obtain ⟨r51, hr51, hp⟩ := hp
                               replace hc := hc.pull 3 rfl rfl
                               refine rc (cl Try.call21 rfl rfl) rfl ?_
                               refine batch_Batch_Rewind_any hc hr51 ?_
                               clear hc; intro w52 hc
                               refine rn ?_
                               refine qn ?_
                               refine Wreg ?_
                               refine rs (v := .pointer (some ⟨b20, 0, none⟩)) (mv (v := .pointer (some ⟨b20, 0, none⟩)) rfl) rfl ?_
                               replace hp := bind_some hp; obtain ⟨r53, hr53, hp⟩ := hp
                               replace hc := hc.pull 3 rfl rfl
                               refine rc (cl Try.call22 rfl rfl) rfl ?_
                               refine ref22_Batch_Rewind_any hc hr53 ?_
                               clear hc; intro w54 hc
                               refine rn ?_
                               refine bn ?_
                               refine qn ?_
                               replace hc := hc.rem 3 rfl rfl
                               replace hc := hc.rem 2 rfl rfl
                               exact ⟨⟨r53, r51, rfl, hp, hc⟩, (kl rfl kb)⟩
                           · replace hp := gpos hp (of_decide_eq_true hb49)
                             refine Wct rfl ?_
                             refine Wseq ?_
                             refine Wseq ?_
                             refine Wreg ?_
                             refine rs (v := .int .i64 0) (av (v := .int .i64 0) rfl) rfl ?_
                             refine rn ?_
                             refine qn ?_
                             refine Wblk ?_
                             refine Wloop [10, 12, 115, 116, 117, 118, 119, 120, 121, 122, 123, 124, 125, 126, 127, 128, 129, 130] [10, 12] (fun m vs w' => ∃ j55 : S_ref22_Batch, ∃ j56 : Int, ∃ j57 : Int, vs = [.int .i64 j56, .int .i64 j57] ∧ law22_BatchActs.L4 N x0 j24 j25 y28 (law22_BatchActs.L2 N x0 x1 m2) m j55 j56 j57 = some r ∧ Ctx w' (B b39 [.int .i64 y28.Kind, .int .i64 y28.N, .slice a37 y28.Ids.length q38] 44 :: Hold (pRo (pInt .i64)) [.slice a37 y28.Ids.length q38] y28.Ids :: S_ref22_Batch.hp b20 j55 :: S_batch_Batch.hp b17 j24 :: P1 :: Fr)) N ?_ ?_
                             · exact ⟨j23, 0, 0, rfl, hp, hc⟩
                             · clear hp hc; intro m vs u w58 hJ
                               obtain ⟨j55, j56, j57, rfl, hp, hc⟩ := hJ
                               rcases m with _ | m4
                               · cases (show none = some r from hp)
                               rw [law22_BatchActs.L4] at hp
                               refine Wseq ?_
                               refine Wseq ?_
                               refine Wreg ?_
                               refine rs (v := .int .i64 j57) (mv (v := .int .i64 j57) rfl) rfl ?_
                               refine rs (v := .pointer (some ⟨b39, 2, none⟩)) (fax 2 rfl Try.underlying44 rfl Try.sizeOf22 rfl rfl rfl) rfl ?_
                               refine rs (v := .slice a37 y28.Ids.length q38) (ld rfl Try.isAgg22 (Ctx.cell hc (k := 0) rfl rfl rfl)) rfl ?_
                               refine rs (v := .int .i64 ((y28.Ids.length : Nat) : Int)) (ln rfl Try.underlying22) rfl ?_
                               refine rs (v := .bool (decide (j57 < ((y28.Ids.length : Nat) : Int)))) (lt' rfl rfl) rfl ?_
                               refine rn ?_
                               refine qn ?_
                               cases hb59 : (decide (j57 < ((y28.Ids.length : Nat) : Int)))
                               · replace hp := gneg hp (of_decide_eq_false hb59)
                                 refine Wcf rfl ?_
                                 refine Wexit ?_
                                 refine qx ?_
                                 refine qx ?_
                                 refine be ?_
                                 refine qn ?_
                                 refine Wseq ?_
                                 refine Wreg ?_
                                 refine rs (v := .pointer (some ⟨b17, 0, none⟩)) (mv (v := .pointer (some ⟨b17, 0, none⟩)) rfl) rfl ?_
                                 refine rs (v := .pointer (some ⟨b39, 2, none⟩)) (fax 2 rfl Try.underlying44 rfl Try.sizeOf22 rfl rfl rfl) rfl ?_
                                 refine rs (v := .slice a37 y28.Ids.length q38) (ld rfl Try.isAgg22 (Ctx.cell hc (k := 0) rfl rfl rfl)) rfl ?_
                                 replace hc := hc.dup (k := 1) rfl rfl
                                 replace hp := bind_some hp; obtain ⟨r60, hr60, hp⟩ := hp
                                 replace hc := hc.pull 4 rfl rfl
                                 refine rc (cl Try.call12 rfl rfl) rfl ?_
                                 refine batch_Batch_Back_any reads_ro hc hr60 ?_
                                 clear hc; intro w61 hc
                                 refine rs (v := .int .i64 j56) (mv (v := .int .i64 j56) rfl) rfl ?_
                                 refine rs (v := .bool (decide (r60.1 ≠ j56))) (ned rfl rfl) rfl ?_
                                 refine rn ?_
                                 refine qn ?_
                                 cases hb62 : (decide (r60.1 ≠ j56))
                                 · replace hp := gneg hp (of_decide_eq_false hb62)
                                   refine Wcf rfl ?_
                                   refine Wskip ?_
                                   refine bn ?_
                                   refine qn ?_
                                   replace hc := hc.rem 3 rfl rfl
                                   replace hc := hc.rem 2 rfl rfl
                                   replace hc := hc.rem 1 rfl rfl
                                   replace hc := hc.pull 2 rfl rfl
                                   replace hc := hc.pull 1 rfl rfl
                                   replace hc := hc.pull 2 rfl rfl
                                   exact ⟨⟨j55, r60.2, rfl, hp, hc⟩, (kl rfl (km rfl (kl rfl kb)))⟩
                                 · replace hp := gpos hp (of_decide_eq_true hb62)
                                   refine Wct rfl ?_
                                   refine Wseq ?_
                                   refine Wreg ?_
                                   refine rs (v := .bool false) (av (v := .bool false) rfl) rfl ?_
                                   refine rn ?_
                                   refine qn ?_
                                   refine Wret ?_
                                   refine br ?_
                                   refine qr ?_
                                   refine br ?_
                                   refine qr ?_
                                   refine qr ?_
                                   refine br ?_
                                   refine qr ?_
                                   replace hc := hc.rem 4 rfl rfl
                                   replace hc := hc.rem 3 rfl rfl
                                   replace hc := hc.rem 2 rfl rfl
                                   replace hc := hc.rem 1 rfl rfl
                                   replace hc := hc.rem 0 rfl rfl
                                   injection hp with hp; subst hp
                                   refine f1 (v := .bool false) Try.results5 Try.ntmps5 rfl ?_
                                   exact ⟨_, rfl, k _ hc⟩
                               · replace hp := gpos hp (of_decide_eq_true hb59)
                                 refine Wct rfl ?_
                                 refine Wskip ?_
                                 refine qn ?_
                                 refine Wseq ?_
                                 refine Wblk ?_
                                 refine Wreg ?_
                                 refine rs (v := .int .i64 j56) (mv (v := .int .i64 j56) rfl) rfl ?_
                                 refine rs (v := .pointer (some ⟨b20, 0, none⟩)) (mv (v := .pointer (some ⟨b20, 0, none⟩)) rfl) rfl ?_
                                 refine rs (v := .pointer (some ⟨b39, 2, none⟩)) (fax 2 rfl Try.underlying44 rfl Try.sizeOf22 rfl rfl rfl) rfl ?_
                                 refine rs (v := .slice a37 y28.Ids.length q38) (ld rfl Try.isAgg22 (Ctx.cell hc (k := 0) rfl rfl rfl)) rfl ?_
                                 refine rs (v := .int .i64 j57) (mv (v := .int .i64 j57) rfl) rfl ?_
                                 replace hp := bind_some hp; obtain ⟨y63, hy63, hp⟩ := hp
                                 obtain ⟨b66, o67, u68, hi64, hi65⟩ := Ctx.rdAt hc (k := 1) rfl rfl reads_ro hy63
                                 subst u68
                                 refine rs (v := .pointer (some ⟨b66, o67 + (j57).toNat * 1, none⟩)) (ixx rfl rfl Try.underlying22 Try.sizeOf3 hi64 hi65 rfl) rfl ?_
                                 replace hc := Ctx.rdCell hc (k := 1) rfl rfl reads_ro hy63; obtain ⟨cs69, hc, hcell70⟩ := hc
                                 replace hc := Ctx.holdC hc; obtain ⟨u71, hc⟩ := hc; subst u71
                                 refine rs (v := .int .i64 y63) (ld rfl Try.isAgg3 (hcell70 0 _ rfl)) rfl ?_
                                 replace hp := bind_some hp; obtain ⟨r72, hr72, hp⟩ := hp
                                 replace hc := hc.pull 2 rfl rfl
                                 refine rc (cl Try.call20 rfl rfl) rfl ?_
                                 refine ref22_Batch_Back_any hc hr72 ?_
                                 clear hc; intro w73 hc
                                 refine rs (v := .int .i64 (IntKind.i64.wrap (j56 + r72.1))) (adw rfl rfl) rfl ?_
                                 replace hp := bind_some hp; obtain ⟨e74, he74, hp⟩ := hp
                                 injection he74 with he74
                                 refine rs (v := .int .i64 e74) (av (v := .int .i64 e74) (by rw [← he74]; rfl)) rfl ?_
                                 refine rn ?_
                                 refine bn ?_
                                 refine qn ?_
                                 refine Wreg ?_
                                 refine rs (v := .int .i64 j57) (mv (v := .int .i64 j57) rfl) rfl ?_
                                 refine rs (v := .int .i64 (IntKind.i64.wrap (j57 + 1))) (adw rfl rfl) rfl ?_
                                 refine rs (v := .int .i64 (IntKind.i64.wrap (j57 + 1))) (av (v := .int .i64 (IntKind.i64.wrap (j57 + 1))) rfl) rfl ?_
                                 refine rn ?_
                                 refine qn ?_
                                 replace hc := hc.pull 4 rfl rfl
                                 replace hc := hc.pull 4 rfl rfl
                                 replace hc := hc.pull 2 rfl rfl
                                 replace hc := hc.pull 4 rfl rfl
                                 replace hc := hc.pull 4 rfl rfl
                                 exact ⟨m4, Nat.lt_succ_self _, ⟨r72.2, e74, (IntKind.i64.wrap (j57 + 1)), rfl, hp, hc⟩, (kl rfl k0)⟩
                         · replace hp := gpos hp (of_decide_eq_true hb48)
                           refine Wct rfl ?_
                           refine Wseq ?_
                           replace hc := hc.drew
                           have hF : ∀ j, (fun j w' => (j = 6 → w'.cell? ⟨b39, 1, none⟩ = some (.int .i64 y28.N)) ∧ True) j (World.drew w42) := fun _ => ⟨fun _ => hc.cell (k := 0) rfl rfl rfl, trivial⟩
                           refine Wdrw (fun j w' => (j = 6 → w'.cell? ⟨b39, 1, none⟩ = some (.int .i64 y28.N)) ∧ True) [0, 0, 2, 7, 0, 0, 32, 96, 255, 511, 1023] 4 rfl (by kernel_rfl) (hF) ?_
                           generalize hw : World.drew w42 = w75 at *
                           clear hw
                           refine ds (v := .pointer (some ⟨b17, 0, none⟩)) (fun w' hF => mv (v := .pointer (some ⟨b17, 0, none⟩)) rfl) rfl ?_
                           refine ds (v := .pointer (some ⟨b39, 1, none⟩)) (fun w' hF => fax 1 rfl Try.underlying44 rfl Try.sizeOf3 rfl rfl rfl) rfl ?_
                           refine dx (v := .int .i64 y28.N) (ld rfl Try.isAgg3 (Ctx.cell hc (k := 0) rfl rfl rfl)) rfl rfl ?_
                           replace hp := bind_some hp; obtain ⟨r76, hr76, hp⟩ := hp
                           replace hc := hc.pull 3 rfl rfl
                           refine dc (cl Try.call10 rfl rfl) rfl rfl ?_
                           refine batch_Batch_Pick_any hc hr76 ?_
                           clear hc; intro a77 n78 q79 w80 hc
                           obtain ⟨u81, _⟩ := Ctx.rdLen hc (k := 0) rfl rfl reads_own; subst u81
                           refine ⟨fun j hj => ⟨fun _ => hc.cell (k := 2) rfl rfl rfl, trivial⟩, ?_⟩
                           refine ds (v := .pointer (some ⟨b20, 0, none⟩)) (fun w' hF => mv (v := .pointer (some ⟨b20, 0, none⟩)) rfl) rfl ?_
                           refine ds (v := .pointer (some ⟨b39, 1, none⟩)) (fun w' hF => fax 1 rfl Try.underlying44 rfl Try.sizeOf3 rfl rfl rfl) rfl ?_
                           refine ds (v := .int .i64 y28.N) (fun w' hF => ld rfl Try.isAgg3 ((hF.1 rfl))) rfl ?_
                           refine ds (v := .int .i64 (min y28.N 1000)) (fun w' hF => bmn rfl rfl Try.underlying3) rfl ?_
                           replace hp := bind_some hp; obtain ⟨r82, hr82, hp⟩ := hp
                           replace hc := hc.pull 4 rfl rfl
                           refine dc (cl Try.call19 rfl rfl) rfl rfl ?_
                           refine ref22_Batch_Pick_any hc hr82 ?_
                           clear hc; intro a83 n84 q85 w86 hc
                           obtain ⟨u87, _⟩ := Ctx.rdLen hc (k := 0) rfl rfl reads_own; subst u87
                           refine ⟨fun j hj => ⟨fun e => (by subst e; exact absurd hj (by decide)), trivial⟩, ?_⟩
                           replace hp := bind_some hp; obtain ⟨r88, hr88, hp⟩ := hp
                           replace hc := hc.pull 2 rfl rfl
                           refine dc (cl Try.call14 rfl rfl) rfl rfl ?_
                           refine ref09_Ints_any reads_own reads_own hc hr88 ?_
                           clear hc; intro w89 hc
                           refine ⟨fun j hj => ⟨fun e => (by subst e; exact absurd hj (by decide)), trivial⟩, ?_⟩
                           cases hb90 : r88
                           · replace hp := gneg hp (by rw [hb90]; exact Bool.false_ne_true)
                             subst hb90
                             refine ds (v := .bool true) (fun w' hF => ntf rfl) rfl ?_
                             refine dn ?_
                             refine qn ?_
                             refine Wct rfl ?_
                             refine Wseq ?_
                             refine Wreg ?_
                             refine rs (v := .bool false) (av (v := .bool false) rfl) rfl ?_
                             refine rn ?_
                             refine qn ?_
                             refine Wret ?_
                             refine br ?_
                             refine qr ?_
                             refine br ?_
                             refine qr ?_
                             refine qr ?_
                             refine br ?_
                             refine qr ?_
                             replace hc := hc.rem 5 rfl rfl
                             replace hc := hc.rem 4 rfl rfl
                             replace hc := hc.rem 3 rfl rfl
                             replace hc := hc.rem 2 rfl rfl
                             replace hc := hc.rem 1 rfl rfl
                             replace hc := hc.rem 0 rfl rfl
                             injection hp with hp; subst hp
                             refine f1 (v := .bool false) Try.results5 Try.ntmps5 rfl ?_
                             exact ⟨_, rfl, k _ hc⟩
                           · replace hp := gpos hp hb90
                             subst hb90
                             refine ds (v := .bool false) (fun w' hF => ntt rfl) rfl ?_
                             refine dn ?_
                             refine qn ?_
                             refine Wcf rfl ?_
                             refine Wskip ?_
                             refine bn ?_
                             refine qn ?_
                             replace hc := hc.rem 5 rfl rfl
                             replace hc := hc.rem 4 rfl rfl
                             replace hc := hc.rem 1 rfl rfl
                             replace hc := hc.rem 0 rfl rfl
                             exact ⟨⟨r82.2, r76.2, rfl, hp, hc⟩, (kl rfl kb)⟩
                       · replace hp := gpos hp (of_decide_eq_true hb47)
                         refine Wct rfl ?_
                         refine Wseq ?_
                         refine Wseq ?_
                         refine Wreg ?_
                         refine rs (v := .int .i64 0) (av (v := .int .i64 0) rfl) rfl ?_
                         refine rn ?_
                         refine qn ?_
                         refine Wblk ?_
                         refine Wloop [10, 11, 78, 79, 80, 81, 82, 83, 84, 85, 86, 87, 88, 89, 90, 91, 92, 93] [10, 11] (fun m vs w' => ∃ j91 : S_ref22_Batch, ∃ j92 : Int, ∃ j93 : Int, vs = [.int .i64 j92, .int .i64 j93] ∧ law22_BatchActs.L5 N x0 j24 j25 y28 (law22_BatchActs.L2 N x0 x1 m2) m j91 j92 j93 = some r ∧ Ctx w' (B b39 [.int .i64 y28.Kind, .int .i64 y28.N, .slice a37 y28.Ids.length q38] 44 :: Hold (pRo (pInt .i64)) [.slice a37 y28.Ids.length q38] y28.Ids :: S_ref22_Batch.hp b20 j91 :: S_batch_Batch.hp b17 j24 :: P1 :: Fr)) N ?_ ?_
                         · exact ⟨j23, 0, 0, rfl, hp, hc⟩
                         · clear hp hc; intro m vs u w94 hJ
                           obtain ⟨j91, j92, j93, rfl, hp, hc⟩ := hJ
                           rcases m with _ | m5
                           · cases (show none = some r from hp)
                           rw [law22_BatchActs.L5] at hp
                           refine Wseq ?_
                           refine Wseq ?_
                           refine Wreg ?_
                           refine rs (v := .int .i64 j93) (mv (v := .int .i64 j93) rfl) rfl ?_
                           refine rs (v := .pointer (some ⟨b39, 2, none⟩)) (fax 2 rfl Try.underlying44 rfl Try.sizeOf22 rfl rfl rfl) rfl ?_
                           refine rs (v := .slice a37 y28.Ids.length q38) (ld rfl Try.isAgg22 (Ctx.cell hc (k := 0) rfl rfl rfl)) rfl ?_
                           refine rs (v := .int .i64 ((y28.Ids.length : Nat) : Int)) (ln rfl Try.underlying22) rfl ?_
                           refine rs (v := .bool (decide (j93 < ((y28.Ids.length : Nat) : Int)))) (lt' rfl rfl) rfl ?_
                           refine rn ?_
                           refine qn ?_
                           cases hb95 : (decide (j93 < ((y28.Ids.length : Nat) : Int)))
                           · replace hp := gneg hp (of_decide_eq_false hb95)
                             refine Wcf rfl ?_
                             refine Wexit ?_
                             refine qx ?_
                             refine qx ?_
                             refine be ?_
                             refine qn ?_
                             refine Wseq ?_
                             refine Wreg ?_
                             refine rs (v := .pointer (some ⟨b17, 0, none⟩)) (mv (v := .pointer (some ⟨b17, 0, none⟩)) rfl) rfl ?_
                             refine rs (v := .pointer (some ⟨b39, 2, none⟩)) (fax 2 rfl Try.underlying44 rfl Try.sizeOf22 rfl rfl rfl) rfl ?_
                             refine rs (v := .slice a37 y28.Ids.length q38) (ld rfl Try.isAgg22 (Ctx.cell hc (k := 0) rfl rfl rfl)) rfl ?_
                             replace hc := hc.dup (k := 1) rfl rfl
                             replace hp := bind_some hp; obtain ⟨r96, hr96, hp⟩ := hp
                             replace hc := hc.pull 4 rfl rfl
                             refine rc (cl Try.call15 rfl rfl) rfl ?_
                             refine batch_Batch_Remove_any reads_ro hc hr96 ?_
                             clear hc; intro w97 hc
                             refine rs (v := .int .i64 j92) (mv (v := .int .i64 j92) rfl) rfl ?_
                             refine rs (v := .bool (decide (r96.1 ≠ j92))) (ned rfl rfl) rfl ?_
                             refine rn ?_
                             refine qn ?_
                             cases hb98 : (decide (r96.1 ≠ j92))
                             · replace hp := gneg hp (of_decide_eq_false hb98)
                               refine Wcf rfl ?_
                               refine Wskip ?_
                               refine bn ?_
                               refine qn ?_
                               replace hc := hc.rem 3 rfl rfl
                               replace hc := hc.rem 2 rfl rfl
                               replace hc := hc.rem 1 rfl rfl
                               replace hc := hc.pull 2 rfl rfl
                               replace hc := hc.pull 1 rfl rfl
                               replace hc := hc.pull 2 rfl rfl
                               exact ⟨⟨j91, r96.2, rfl, hp, hc⟩, (kl rfl (km rfl (kl rfl kb)))⟩
                             · replace hp := gpos hp (of_decide_eq_true hb98)
                               refine Wct rfl ?_
                               refine Wseq ?_
                               refine Wreg ?_
                               refine rs (v := .bool false) (av (v := .bool false) rfl) rfl ?_
                               refine rn ?_
                               refine qn ?_
                               refine Wret ?_
                               refine br ?_
                               refine qr ?_
                               refine br ?_
                               refine qr ?_
                               refine qr ?_
                               refine br ?_
                               refine qr ?_
                               replace hc := hc.rem 4 rfl rfl
                               replace hc := hc.rem 3 rfl rfl
                               replace hc := hc.rem 2 rfl rfl
                               replace hc := hc.rem 1 rfl rfl
                               replace hc := hc.rem 0 rfl rfl
                               injection hp with hp; subst hp
                               refine f1 (v := .bool false) Try.results5 Try.ntmps5 rfl ?_
                               exact ⟨_, rfl, k _ hc⟩
                           · replace hp := gpos hp (of_decide_eq_true hb95)
                             refine Wct rfl ?_
                             refine Wskip ?_
                             refine qn ?_
                             refine Wseq ?_
                             refine Wblk ?_
                             refine Wreg ?_
                             refine rs (v := .int .i64 j92) (mv (v := .int .i64 j92) rfl) rfl ?_
                             refine rs (v := .pointer (some ⟨b20, 0, none⟩)) (mv (v := .pointer (some ⟨b20, 0, none⟩)) rfl) rfl ?_
                             refine rs (v := .pointer (some ⟨b39, 2, none⟩)) (fax 2 rfl Try.underlying44 rfl Try.sizeOf22 rfl rfl rfl) rfl ?_
                             refine rs (v := .slice a37 y28.Ids.length q38) (ld rfl Try.isAgg22 (Ctx.cell hc (k := 0) rfl rfl rfl)) rfl ?_
                             refine rs (v := .int .i64 j93) (mv (v := .int .i64 j93) rfl) rfl ?_
                             replace hp := bind_some hp; obtain ⟨y99, hy99, hp⟩ := hp
                             obtain ⟨b102, o103, u104, hi100, hi101⟩ := Ctx.rdAt hc (k := 1) rfl rfl reads_ro hy99
                             subst u104
                             refine rs (v := .pointer (some ⟨b102, o103 + (j93).toNat * 1, none⟩)) (ixx rfl rfl Try.underlying22 Try.sizeOf3 hi100 hi101 rfl) rfl ?_
                             replace hc := Ctx.rdCell hc (k := 1) rfl rfl reads_ro hy99; obtain ⟨cs105, hc, hcell106⟩ := hc
                             replace hc := Ctx.holdC hc; obtain ⟨u107, hc⟩ := hc; subst u107
                             refine rs (v := .int .i64 y99) (ld rfl Try.isAgg3 (hcell106 0 _ rfl)) rfl ?_
                             replace hp := bind_some hp; obtain ⟨r108, hr108, hp⟩ := hp
                             replace hc := hc.pull 2 rfl rfl
                             refine rc (cl Try.call18 rfl rfl) rfl ?_
                             refine ref22_Batch_Remove_any hc hr108 ?_
                             clear hc; intro w109 hc
                             refine rs (v := .int .i64 (IntKind.i64.wrap (j92 + r108.1))) (adw rfl rfl) rfl ?_
                             replace hp := bind_some hp; obtain ⟨e110, he110, hp⟩ := hp
                             injection he110 with he110
                             refine rs (v := .int .i64 e110) (av (v := .int .i64 e110) (by rw [← he110]; rfl)) rfl ?_
                             refine rn ?_
                             refine bn ?_
                             refine qn ?_
                             refine Wreg ?_
                             refine rs (v := .int .i64 j93) (mv (v := .int .i64 j93) rfl) rfl ?_
                             refine rs (v := .int .i64 (IntKind.i64.wrap (j93 + 1))) (adw rfl rfl) rfl ?_
                             refine rs (v := .int .i64 (IntKind.i64.wrap (j93 + 1))) (av (v := .int .i64 (IntKind.i64.wrap (j93 + 1))) rfl) rfl ?_
                             refine rn ?_
                             refine qn ?_
                             replace hc := hc.pull 4 rfl rfl
                             replace hc := hc.pull 4 rfl rfl
                             replace hc := hc.pull 2 rfl rfl
                             replace hc := hc.pull 4 rfl rfl
                             replace hc := hc.pull 4 rfl rfl
                             exact ⟨m5, Nat.lt_succ_self _, ⟨r108.2, e110, (IntKind.i64.wrap (j93 + 1)), rfl, hp, hc⟩, (kl rfl k0)⟩
                     · replace hp := gpos hp (of_decide_eq_true hb46)
                       refine Wct rfl ?_
                       refine Wseq ?_
                       replace hc := hc.drew
                       have hF : ∀ j, (fun j w' => (j = 6 → w'.cell? ⟨b39, 2, none⟩ = some (.slice a37 y28.Ids.length q38)) ∧ True) j (World.drew w42) := fun _ => ⟨fun _ => hc.cell (k := 0) rfl rfl rfl, trivial⟩
                       refine Wdrw (fun j w' => (j = 6 → w'.cell? ⟨b39, 2, none⟩ = some (.slice a37 y28.Ids.length q38)) ∧ True) [0, 0, 2, 7, 0, 0, 32, 127, 255] 4 rfl (by kernel_rfl) (hF) ?_
                       generalize hw : World.drew w42 = w111 at *
                       clear hw
                       refine ds (v := .pointer (some ⟨b17, 0, none⟩)) (fun w' hF => mv (v := .pointer (some ⟨b17, 0, none⟩)) rfl) rfl ?_
                       refine ds (v := .pointer (some ⟨b39, 2, none⟩)) (fun w' hF => fax 2 rfl Try.underlying44 rfl Try.sizeOf22 rfl rfl rfl) rfl ?_
                       refine dx (v := .slice a37 y28.Ids.length q38) (ld rfl Try.isAgg22 (Ctx.cell hc (k := 0) rfl rfl rfl)) rfl rfl ?_
                       replace hc := hc.dup (k := 1) rfl rfl
                       replace hp := bind_some hp; obtain ⟨r112, hr112, hp⟩ := hp
                       replace hc := hc.pull 4 rfl rfl
                       refine dc (cl Try.call8 rfl rfl) rfl rfl ?_
                       refine batch_Batch_Add_any reads_ro hc hr112 ?_
                       clear hc; intro w113 hc
                       refine ⟨fun j hj => ⟨fun _ => hc.cell (k := 2) rfl rfl rfl, trivial⟩, ?_⟩
                       refine ds (v := .pointer (some ⟨b20, 0, none⟩)) (fun w' hF => mv (v := .pointer (some ⟨b20, 0, none⟩)) rfl) rfl ?_
                       refine ds (v := .pointer (some ⟨b39, 2, none⟩)) (fun w' hF => fax 2 rfl Try.underlying44 rfl Try.sizeOf22 rfl rfl rfl) rfl ?_
                       refine ds (v := .slice a37 y28.Ids.length q38) (fun w' hF => ld rfl Try.isAgg22 ((hF.1 rfl))) rfl ?_
                       replace hc := hc.dup (k := 3) rfl rfl
                       replace hp := bind_some hp; obtain ⟨r114, hr114, hp⟩ := hp
                       replace hc := hc.pull 5 rfl rfl
                       refine dc (cl Try.call17 rfl rfl) rfl rfl ?_
                       refine ref22_Batch_Add_any reads_ro hc hr114 ?_
                       clear hc; intro w115 hc
                       refine ⟨fun j hj => ⟨fun e => (by subst e; exact absurd hj (by decide)), trivial⟩, ?_⟩
                       refine ds (v := .bool (decide (r112.1 ≠ r114.1))) (fun w' hF => ned rfl rfl) rfl ?_
                       refine dn ?_
                       refine qn ?_
                       cases hb116 : (decide (r112.1 ≠ r114.1))
                       · replace hp := gneg hp (of_decide_eq_false hb116)
                         refine Wcf rfl ?_
                         refine Wskip ?_
                         refine bn ?_
                         refine qn ?_
                         replace hc := hc.rem 5 rfl rfl
                         replace hc := hc.rem 4 rfl rfl
                         replace hc := hc.rem 3 rfl rfl
                         replace hc := hc.rem 1 rfl rfl
                         exact ⟨⟨r114.2, r112.2, rfl, hp, hc⟩, (kl rfl kb)⟩
                       · replace hp := gpos hp (of_decide_eq_true hb116)
                         refine Wct rfl ?_
                         refine Wseq ?_
                         refine Wreg ?_
                         refine rs (v := .bool false) (av (v := .bool false) rfl) rfl ?_
                         refine rn ?_
                         refine qn ?_
                         refine Wret ?_
                         refine br ?_
                         refine qr ?_
                         refine br ?_
                         refine qr ?_
                         refine qr ?_
                         refine br ?_
                         refine qr ?_
                         replace hc := hc.rem 5 rfl rfl
                         replace hc := hc.rem 4 rfl rfl
                         replace hc := hc.rem 3 rfl rfl
                         replace hc := hc.rem 2 rfl rfl
                         replace hc := hc.rem 1 rfl rfl
                         replace hc := hc.rem 0 rfl rfl
                         injection hp with hp; subst hp
                         refine f1 (v := .bool false) Try.results5 Try.ntmps5 rfl ?_
                         exact ⟨_, rfl, k _ hc⟩
                   · clear hp hc; intro vs u w117 hJ
                     obtain ⟨j44, j45, rfl, hp, hc⟩ := hJ
                     unfold law22_BatchActs.J3 at hp
                     refine Wseq ?_
                     refine Wreg ?_
                     refine rs (v := .pointer (some ⟨b20, 0, none⟩)) (mv (v := .pointer (some ⟨b20, 0, none⟩)) rfl) rfl ?_
                     replace hp := bind_some hp; obtain ⟨r118, hr118, hp⟩ := hp
                     refine rc (cl Try.call23 rfl rfl) rfl ?_
                     refine ref22_Batch_Lists_any hc hr118 ?_
                     clear hc; intro a119 n120 q121 a122 n123 q124 w125 hc
                     obtain ⟨u126, _⟩ := Ctx.rdLen hc (k := 0) rfl rfl reads_own; subst u126
                     obtain ⟨u127, _⟩ := Ctx.rdLen hc (k := 1) rfl rfl reads_own; subst u127
                     refine rs (v := .tuple #[.slice a119 r118.1.length q121, .slice a122 r118.2.length q124]) (mv (v := .tuple #[.slice a119 r118.1.length q121, .slice a122 r118.2.length q124]) rfl) rfl ?_
                     refine rs (v := .slice a119 r118.1.length q121) (ext (v := .slice a119 r118.1.length q121) rfl rfl) rfl ?_
                     refine rs (v := .slice a122 r118.2.length q124) (ext (v := .slice a122 r118.2.length q124) rfl rfl) rfl ?_
                     refine rs (v := .slice a119 r118.1.length q121) (av (v := .slice a119 r118.1.length q121) rfl) rfl ?_
                     refine rs (v := .slice a122 r118.2.length q124) (av (v := .slice a122 r118.2.length q124) rfl) rfl ?_
                     refine rn ?_
                     refine qn ?_
                     refine Wseq ?_
                     refine Wreg ?_
                     refine rs (v := .pointer (some ⟨b17, 0, none⟩)) (mv (v := .pointer (some ⟨b17, 0, none⟩)) rfl) rfl ?_
                     replace hp := bind_some hp; obtain ⟨r128, hr128, hp⟩ := hp
                     replace hc := hc.pull 3 rfl rfl
                     refine rc (cl Try.call13 rfl rfl) rfl ?_
                     refine batch_Batch_Members_any hc hr128 ?_
                     clear hc; intro a129 n130 q131 w132 hc
                     obtain ⟨u133, _⟩ := Ctx.rdLen hc (k := 0) rfl rfl reads_own; subst u133
                     refine rs (v := .slice a119 r118.1.length q121) (mv (v := .slice a119 r118.1.length q121) rfl) rfl ?_
                     replace hp := bind_some hp; obtain ⟨r134, hr134, hp⟩ := hp
                     replace hc := hc.pull 2 rfl rfl
                     replace hc := hc.pull 1 rfl rfl
                     refine rc (cl Try.call14 rfl rfl) rfl ?_
                     refine ref09_Ints_any reads_own reads_own hc hr134 ?_
                     clear hc; intro w135 hc
                     cases hb136 : r134
                     · replace hp := gneg hp (by rw [hb136]; exact Bool.false_ne_true)
                       subst hb136
                       refine rs (v := .bool true) (ntf rfl) rfl ?_
                       refine rs (v := .bool true) (mv (v := .bool true) rfl) rfl ?_
                       refine r0 rfl ?_
                       refine r0 rfl ?_
                       refine r0 rfl ?_
                       refine r0 rfl ?_
                       refine r0 rfl ?_
                       refine rs (v := .bool true) (pkt (v := .bool true) rfl rfl) rfl ?_
                       refine rs (v := .bool true) (mv (v := .bool true) rfl) rfl ?_
                       refine r0 rfl ?_
                       refine r0 rfl ?_
                       refine r0 rfl ?_
                       refine r0 rfl ?_
                       refine r0 rfl ?_
                       refine r0 rfl ?_
                       refine r0 rfl ?_
                       refine rs (v := .bool true) (pkt (v := .bool true) rfl rfl) rfl ?_
                       refine rs (v := .bool true) (mv (v := .bool true) rfl) rfl ?_
                       refine r0 rfl ?_
                       refine r0 rfl ?_
                       refine r0 rfl ?_
                       refine rs (v := .bool true) (pkt (v := .bool true) rfl rfl) rfl ?_
                       refine rn ?_
                       refine qn ?_
                       refine Wct rfl ?_
                       refine Wseq ?_
                       refine Wreg ?_
                       refine rs (v := .bool false) (av (v := .bool false) rfl) rfl ?_
                       refine rn ?_
                       refine qn ?_
                       refine Wret ?_
                       refine br ?_
                       refine qr ?_
                       refine qr ?_
                       refine br ?_
                       refine qr ?_
                       replace hc := hc.rem 4 rfl rfl
                       replace hc := hc.rem 3 rfl rfl
                       replace hc := hc.rem 2 rfl rfl
                       replace hc := hc.rem 1 rfl rfl
                       replace hc := hc.rem 0 rfl rfl
                       injection hp with hp; subst hp
                       refine f1 (v := .bool false) Try.results5 Try.ntmps5 rfl ?_
                       exact ⟨_, rfl, k _ hc⟩
                     · replace hp := gpos hp hb136
                       subst hb136
                       refine rs (v := .bool false) (ntt rfl) rfl ?_
                       refine rs (v := .bool false) (mv (v := .bool false) rfl) rfl ?_
                       refine rs (v := .pointer (some ⟨b17, 0, none⟩)) (mv (v := .pointer (some ⟨b17, 0, none⟩)) rfl) rfl ?_
                       replace hp := bind_some hp; obtain ⟨r137, hr137, hp⟩ := hp
                       replace hc := hc.pull 2 rfl rfl
                       refine rc (cl Try.call9 rfl rfl) rfl ?_
                       refine batch_Batch_In_any hc hr137 ?_
                       clear hc; intro a138 n139 q140 w141 hc
                       obtain ⟨u142, _⟩ := Ctx.rdLen hc (k := 0) rfl rfl reads_own; subst u142
                       refine rs (v := .slice a122 r118.2.length q124) (mv (v := .slice a122 r118.2.length q124) rfl) rfl ?_
                       replace hp := bind_some hp; obtain ⟨r143, hr143, hp⟩ := hp
                       replace hc := hc.pull 4 rfl rfl
                       replace hc := hc.pull 1 rfl rfl
                       refine rc (cl Try.call14 rfl rfl) rfl ?_
                       refine ref09_Ints_any reads_own reads_own hc hr143 ?_
                       clear hc; intro w144 hc
                       cases hb145 : r143
                       · replace hp := gneg hp (by rw [hb145]; exact Bool.false_ne_true)
                         subst hb145
                         refine rs (v := .bool true) (ntf rfl) rfl ?_
                         refine rs (v := .bool true) (pkf (v := .bool true) rfl rfl) rfl ?_
                         refine rs (v := .bool true) (mv (v := .bool true) rfl) rfl ?_
                         refine r0 rfl ?_
                         refine r0 rfl ?_
                         refine r0 rfl ?_
                         refine r0 rfl ?_
                         refine r0 rfl ?_
                         refine r0 rfl ?_
                         refine r0 rfl ?_
                         refine rs (v := .bool true) (pkt (v := .bool true) rfl rfl) rfl ?_
                         refine rs (v := .bool true) (mv (v := .bool true) rfl) rfl ?_
                         refine r0 rfl ?_
                         refine r0 rfl ?_
                         refine r0 rfl ?_
                         refine rs (v := .bool true) (pkt (v := .bool true) rfl rfl) rfl ?_
                         refine rn ?_
                         refine qn ?_
                         refine Wct rfl ?_
                         refine Wseq ?_
                         refine Wreg ?_
                         refine rs (v := .bool false) (av (v := .bool false) rfl) rfl ?_
                         refine rn ?_
                         refine qn ?_
                         refine Wret ?_
                         refine br ?_
                         refine qr ?_
                         refine qr ?_
                         refine br ?_
                         refine qr ?_
                         replace hc := hc.rem 5 rfl rfl
                         replace hc := hc.rem 4 rfl rfl
                         replace hc := hc.rem 3 rfl rfl
                         replace hc := hc.rem 2 rfl rfl
                         replace hc := hc.rem 1 rfl rfl
                         replace hc := hc.rem 0 rfl rfl
                         injection hp with hp; subst hp
                         refine f1 (v := .bool false) Try.results5 Try.ntmps5 rfl ?_
                         exact ⟨_, rfl, k _ hc⟩
                       · replace hp := gpos hp hb145
                         subst hb145
                         refine rs (v := .bool false) (ntt rfl) rfl ?_
                         refine rs (v := .bool false) (pkf (v := .bool false) rfl rfl) rfl ?_
                         refine rs (v := .bool false) (mv (v := .bool false) rfl) rfl ?_
                         refine rs (v := .pointer (some ⟨b17, 0, none⟩)) (mv (v := .pointer (some ⟨b17, 0, none⟩)) rfl) rfl ?_
                         replace hp := bind_some hp; obtain ⟨r146, hr146, hp⟩ := hp
                         replace hc := hc.pull 2 rfl rfl
                         refine rc (cl Try.call16 rfl rfl) rfl ?_
                         refine batch_Batch_Room_any hc hr146 ?_
                         clear hc; intro w147 hc
                         refine rs (v := .int .i64 x0) (mv (v := .int .i64 x0) rfl) rfl ?_
                         refine rs (v := .slice a119 r118.1.length q121) (mv (v := .slice a119 r118.1.length q121) rfl) rfl ?_
                         refine rs (v := .int .i64 ((r118.1.length : Nat) : Int)) (ln rfl Try.underlying22) rfl ?_
                         refine rs (v := .int .i64 (IntKind.i64.wrap (x0 - ((r118.1.length : Nat) : Int)))) (sbw rfl rfl) rfl ?_
                         refine rs (v := .bool (decide (r146 ≠ (IntKind.i64.wrap (x0 - ((r118.1.length : Nat) : Int)))))) (ned rfl rfl) rfl ?_
                         refine rs (v := .bool (decide (r146 ≠ (IntKind.i64.wrap (x0 - ((r118.1.length : Nat) : Int)))))) (pkf (v := .bool (decide (r146 ≠ (IntKind.i64.wrap (x0 - ((r118.1.length : Nat) : Int)))))) rfl rfl) rfl ?_
                         refine rs (v := .bool (decide (r146 ≠ (IntKind.i64.wrap (x0 - ((r118.1.length : Nat) : Int)))))) (mv (v := .bool (decide (r146 ≠ (IntKind.i64.wrap (x0 - ((r118.1.length : Nat) : Int)))))) rfl) rfl ?_
                         cases hb148 : (decide (r146 ≠ (IntKind.i64.wrap (x0 - ((r118.1.length : Nat) : Int)))))
                         · replace hp := gneg hp (of_decide_eq_false hb148)
                           refine rs (v := .pointer (some ⟨b17, 0, none⟩)) (mv (v := .pointer (some ⟨b17, 0, none⟩)) rfl) rfl ?_
                           replace hp := bind_some hp; obtain ⟨r149, hr149, hp⟩ := hp
                           refine rc (cl Try.call16 rfl rfl) rfl ?_
                           refine batch_Batch_Room_any hc hr149 ?_
                           clear hc; intro w150 hc
                           refine rs (v := .bool (decide (r149 < 0))) (lt' rfl rfl) rfl ?_
                           refine rs (v := .bool (decide (r149 < 0))) (pkf (v := .bool (decide (r149 < 0))) rfl rfl) rfl ?_
                           refine rn ?_
                           refine qn ?_
                           cases hb151 : (decide (r149 < 0))
                           · replace hp := gneg hp (of_decide_eq_false hb151)
                             refine Wcf rfl ?_
                             refine Wskip ?_
                             refine bn ?_
                             refine qn ?_
                             refine Wreg ?_
                             refine rs (v := .int .i64 j25) (mv (v := .int .i64 j25) rfl) rfl ?_
                             refine rs (v := .int .i64 (IntKind.i64.wrap (j25 + 1))) (adw rfl rfl) rfl ?_
                             refine rs (v := .int .i64 (IntKind.i64.wrap (j25 + 1))) (av (v := .int .i64 (IntKind.i64.wrap (j25 + 1))) rfl) rfl ?_
                             refine rn ?_
                             refine qn ?_
                             replace hc := hc.rem 4 rfl rfl
                             replace hc := hc.rem 3 rfl rfl
                             replace hc := hc.rem 2 rfl rfl
                             replace hc := hc.rem 1 rfl rfl
                             replace hc := hc.pull 2 rfl rfl
                             replace hc := hc.pull 1 rfl rfl
                             replace hc := hc.pull 2 rfl rfl
                             exact ⟨m2, Nat.lt_succ_self _, ⟨j44, j45, (IntKind.i64.wrap (j25 + 1)), rfl, hp, hc⟩, (kl rfl (km rfl (kl rfl k0)))⟩
                           · replace hp := gpos hp (of_decide_eq_true hb151)
                             refine Wct rfl ?_
                             refine Wseq ?_
                             refine Wreg ?_
                             refine rs (v := .bool false) (av (v := .bool false) rfl) rfl ?_
                             refine rn ?_
                             refine qn ?_
                             refine Wret ?_
                             refine br ?_
                             refine qr ?_
                             refine qr ?_
                             refine br ?_
                             refine qr ?_
                             replace hc := hc.rem 5 rfl rfl
                             replace hc := hc.rem 4 rfl rfl
                             replace hc := hc.rem 3 rfl rfl
                             replace hc := hc.rem 2 rfl rfl
                             replace hc := hc.rem 1 rfl rfl
                             replace hc := hc.rem 0 rfl rfl
                             injection hp with hp; subst hp
                             refine f1 (v := .bool false) Try.results5 Try.ntmps5 rfl ?_
                             exact ⟨_, rfl, k _ hc⟩
                         · replace hp := gpos hp (of_decide_eq_true hb148)
                           refine r0 rfl ?_
                           refine r0 rfl ?_
                           refine r0 rfl ?_
                           refine rs (v := .bool true) (pkt (v := .bool true) rfl rfl) rfl ?_
                           refine rn ?_
                           refine qn ?_
                           refine Wct rfl ?_
                           refine Wseq ?_
                           refine Wreg ?_
                           refine rs (v := .bool false) (av (v := .bool false) rfl) rfl ?_
                           refine rn ?_
                           refine qn ?_
                           refine Wret ?_
                           refine br ?_
                           refine qr ?_
                           refine qr ?_
                           refine br ?_
                           refine qr ?_
                           replace hc := hc.rem 5 rfl rfl
                           replace hc := hc.rem 4 rfl rfl
                           replace hc := hc.rem 3 rfl rfl
                           replace hc := hc.rem 2 rfl rfl
                           replace hc := hc.rem 1 rfl rfl
                           replace hc := hc.rem 0 rfl rfl
                           injection hp with hp; subst hp
                           refine f1 (v := .bool false) Try.results5 Try.ntmps5 rfl ?_
                           exact ⟨_, rfl, k _ hc⟩
                 · replace hp := gpos hp (of_decide_eq_true hb43)
                   refine Wct rfl ?_
                   refine Wseq ?_
                   refine Wreg ?_
                   refine rs (v := .bool true) (av (v := .bool true) rfl) rfl ?_
                   refine rn ?_
                   refine qn ?_
                   refine Wret ?_
                   refine qr ?_
                   refine br ?_
                   refine qr ?_
                   refine qr ?_
                   refine br ?_
                   refine qr ?_
                   replace hc := hc.rem 3 rfl rfl
                   replace hc := hc.rem 2 rfl rfl
                   replace hc := hc.rem 1 rfl rfl
                   replace hc := hc.rem 0 rfl rfl
                   injection hp with hp; subst hp
                   refine f1 (v := .bool true) Try.results5 Try.ntmps5 rfl ?_
                   exact ⟨_, rfl, k _ hc⟩
           · replace hp := gpos hp (of_decide_eq_true hb19)
             refine Wct rfl ?_
             refine Wseq ?_
             refine Wreg ?_
             refine rs (v := .bool false) (av (v := .bool false) rfl) rfl ?_
             refine rn ?_
             refine qn ?_
             refine Wret ?_
             refine qr ?_
             replace hc := hc.rem 0 rfl rfl
             injection hp with hp; subst hp
             refine f1 (v := .bool false) Try.results5 Try.ntmps5 rfl ?_
             exact ⟨_, rfl, k _ hc⟩
       · replace hp := gpos hp hb13
         subst hb13
         refine Wct rfl ?_
         refine Wseq ?_
         refine Wreg ?_
         refine rs (v := v8) (mv (v := v8) rfl) rfl ?_
         cases hb152 : r7.1
         · replace hp := optN hp hb152
           rw [hb152] at hc
           replace hc := Ctx.ptoN hc; obtain ⟨u154, hc⟩ := hc; subst u154
           refine rs (v := .bool true) (ept Try.underlying24 rfl rfl) rfl ?_
           refine rs (v := .bool true) (mv (v := .bool true) rfl) rfl ?_
           refine rs (v := .int .i64 r7.2) (mv (v := .int .i64 r7.2) rfl) rfl ?_
           refine rs (v := .bool (decide (r7.2 = 2))) (eqd rfl rfl) rfl ?_
           refine rs (v := .bool (decide (r7.2 = 2))) (pkt (v := .bool (decide (r7.2 = 2))) rfl rfl) rfl ?_
           refine rs (v := .bool (decide (r7.2 = 2))) (av (v := .bool (decide (r7.2 = 2))) rfl) rfl ?_
           refine rn ?_
           refine qn ?_
           refine Wret ?_
           refine qr ?_
           injection hp with hp; subst hp
           refine f1 (v := .bool (decide (r7.2 = 2))) Try.results5 Try.ntmps5 rfl ?_
           exact ⟨_, rfl, k _ hc⟩
         · rename_i y153
           replace hp := optS hp hb152
           rw [hb152] at hc
           replace hc := Ctx.ptoS hc; obtain ⟨b155, u156, hc⟩ := hc; subst u156
           refine rs (v := .bool false) (epf Try.underlying24 rfl rfl) rfl ?_
           refine rs (v := .bool false) (mv (v := .bool false) rfl) rfl ?_
           refine r0 rfl ?_
           refine r0 rfl ?_
           refine rs (v := .bool false) (pkf (v := .bool false) rfl rfl) rfl ?_
           refine rs (v := .bool false) (av (v := .bool false) rfl) rfl ?_
           refine rn ?_
           refine qn ?_
           refine Wret ?_
           refine qr ?_
           replace hc := hc.rem 0 rfl rfl
           injection hp with hp; subst hp
           refine f1 (v := .bool false) Try.results5 Try.ntmps5 rfl ?_
           exact ⟨_, rfl, k _ hc⟩
   · replace hp := gpos hp (of_decide_eq_true hb6)
     refine Wct rfl ?_
     refine Wseq ?_
     refine Wreg ?_
     replace hp := bind_some hp; obtain ⟨r157, hr157, hp⟩ := hp
     refine rc (cl Try.call6 rfl rfl) rfl ?_
     refine law22_awake_any hc hr157 ?_
     clear hc; intro w158 hc
     refine rs (v := .bool r157) (av (v := .bool r157) rfl) rfl ?_
     refine rn ?_
     refine qn ?_
     refine Wret ?_
     refine qr ?_
     injection hp with hp; subst hp
     refine f1 (v := .bool r157) Try.results5 Try.ntmps5 rfl ?_
     exact ⟨_, rfl, k _ hc⟩

-- FN peloton/pelotonlaw22.BatchKeeps
def law22_BatchKeeps.J3 (j83 : Int) (k2 : (List Int) → Int → Option (Bool)) (j101 : (List Int)) : Option (Bool) :=
  k2 j101 (IntKind.i64.wrap (j83 + 1))

def law22_BatchKeeps.J4 (z64 : (List Int)) (j79 : (List Int)) (j83 : Int) (k2 : (List Int) → Int → Option (Bool)) (j105 : Bool) : Option (Bool) :=
  if j105 = true then
    (idx z64 j83).bind fun y120 =>
    (app j79 ([y120])).bind fun z131 =>
    law22_BatchKeeps.J3 j83 k2 z131
  else
    law22_BatchKeeps.J3 j83 k2 j79

def law22_BatchKeeps.L2 (N : Nat) (x2 : (List Int)) (r28 : ((List Int) × S_batch_Batch)) (z64 : (List Int)) : Nat → (List Int) → Int → Option (Bool)
  | 0, _, _ => none
  | m2 + 1, j79, j83 =>
    if j83 < ((z64.length : Nat) : Int) then
      (idx z64 j83).bind fun y106 =>
      (law22_has N x2 y106).bind fun r115 =>
      if r115 = true then
        law22_BatchKeeps.J4 z64 j79 j83 (law22_BatchKeeps.L2 N x2 r28 z64 m2) false
      else
        law22_BatchKeeps.J4 z64 j79 j83 (law22_BatchKeeps.L2 N x2 r28 z64 m2) true
    else
      (batch_Batch_Remove N r28.2 x2).bind fun r87 =>
      if r87.1 = (IntKind.i64.wrap (((z64.length : Nat) : Int) - ((j79.length : Nat) : Int))) then
        (batch_Batch_Members r87.2).bind fun r90 =>
        (ref09_Ints N r90 j79).bind fun r96 =>
        if r96 = true then
          (batch_Batch_Room r87.2).bind fun r99 =>
          some (decide (r99 = (IntKind.i64.wrap (40 - ((j79.length : Nat) : Int)))))
        else
          some false
      else
        some false

def law22_BatchKeeps.J5 (N : Nat) (x0 : (List Int)) (j17 : S_batch_Batch) (j22 : Int) (k1 : S_batch_Batch → (List Int) → Int → Option (Bool)) (j139 : (List Int)) (j143 : Int) : Option (Bool) :=
  (idx x0 j22).bind fun y175 =>
  (batch_Batch_Add N j17 ([y175])).bind fun r186 =>
  if r186.1 ≠ j143 then
    some false
  else
    k1 r186.2 j139 (IntKind.i64.wrap (j22 + 1))

def law22_BatchKeeps.L1 (N : Nat) (x0 : (List Int)) (x1 : Int) (x2 : (List Int)) : Nat → S_batch_Batch → (List Int) → Int → Option (Bool)
  | 0, _, _, _ => none
  | m1 + 1, j17, j18, j22 =>
    if j22 < ((x0.length : Nat) : Int) then
      (idx x0 j22).bind fun y144 =>
      (law22_has N j18 y144).bind fun r153 =>
      if r153 = true then
        law22_BatchKeeps.J5 N x0 j17 j22 (law22_BatchKeeps.L1 N x0 x1 x2 m1) j18 210
      else
        (idx x0 j22).bind fun y156 =>
        (app j18 ([y156])).bind fun z167 =>
        law22_BatchKeeps.J5 N x0 j17 j22 (law22_BatchKeeps.L1 N x0 x1 x2 m1) z167 0
    else
      (some (max (min x1 ((j18.length : Nat) : Int)) 0)).bind fun e26 =>
      (batch_Batch_Pick N j17 x1).bind fun r28 =>
      chk (0 ≤ (0 : Int) ∧ (0 : Int) ≤ e26 ∧ e26 ≤ ((j18.length : Nat) : Int)) <|
      (ref09_Ints N r28.1 ((j18.take (e26).toNat).drop ((0 : Int)).toNat)).bind fun r40 =>
      if r40 = true then
        chk (0 ≤ e26 ∧ e26 ≤ ((j18.length : Nat) : Int) ∧ ((j18.length : Nat) : Int) ≤ ((j18.length : Nat) : Int)) <|
        (app ([]) ((j18.take (((j18.length : Nat) : Int)).toNat).drop (e26).toNat)).bind fun z52 =>
        chk (0 ≤ (0 : Int) ∧ (0 : Int) ≤ e26 ∧ e26 ≤ ((j18.length : Nat) : Int)) <|
        (app z52 ((j18.take (e26).toNat).drop ((0 : Int)).toNat)).bind fun z64 =>
        (batch_Batch_Members r28.2).bind fun r70 =>
        (ref09_Ints N r70 z64).bind fun r76 =>
        if r76 = true then
          law22_BatchKeeps.L2 N x2 r28 z64 N ([]) 0
        else
          some false
      else
        some false

def law22_BatchKeeps (N : Nat) (x0 : (List Int)) (x1 : Int) (x2 : (List Int)) : Option (Bool) :=
  (law22_awake N).bind fun r1 =>
  if r1 = true then
    if ((x0.length : Nat) : Int) > 40 then
      (law22_awake N).bind fun r191 =>
      some r191
    else
      if ((x2.length : Nat) : Int) > 20 then
        (law22_awake N).bind fun r189 =>
        some r189
      else
        (batch_New 40).bind fun r8 =>
        optc r8.1 (
          some false) fun y12 =>
        if r8.2 ≠ 0 then
          some false
        else
          law22_BatchKeeps.L1 N x0 x1 x2 N y12 ([]) 0
  else
    (law22_awake N).bind fun r4 =>
    some r4

set_option maxHeartbeats 2000000 in
theorem law22_BatchKeeps_any {N : Nat} {x0 : (List Int)} {ax0 : Option Addr} {nx0 : Nat} {qx0 : Nat} {P0 : HP} {x1 : Int} {x2 : (List Int)} {ax2 : Option Addr} {nx2 : Nat} {qx2 : Nat} {P2 : HP} {Fr : List HP} {w : World} {r : Bool} {K : Value → World → Prop} (hrd0 : Reads P0 (pInt .i64) (.slice ax0 nx0 qx0) x0) (hrd2 : Reads P2 (pInt .i64) (.slice ax2 nx2 qx2) x2) (hc : Ctx w (P0 :: P2 :: Fr)) (hp : law22_BatchKeeps N x0 x1 x2 = some r)
    (k : ∀ w', Ctx w' (P0 :: P2 :: Fr) → K (.bool r) w') : Calls Try.prog 4 #[.slice ax0 nx0 qx0, .int .i64 x1, .slice ax2 nx2 qx2] w (Ret K) := by
 unfold law22_BatchKeeps at hp
 refine Center (args := [.slice ax0 nx0 qx0, .int .i64 x1, .slice ax2 nx2 qx2]) (l := [(0, .slice ax0 nx0 qx0), (1, .int .i64 x1), (2, .slice ax2 nx2 qx2)]) Try.func4 Try.ntmps4 rfl rfl rfl ?_
 obtain ⟨hn0, _⟩ := Ctx.rdLen hc (k := 0) rfl rfl hrd0; subst hn0
 obtain ⟨hn2, _⟩ := Ctx.rdLen hc (k := 1) rfl rfl hrd2; subst hn2
 refine Wseq ?_
 refine Wreg ?_
 refine rs (v := .bool false) (av (v := .bool false) rfl) rfl ?_
 refine rn ?_
 refine qn ?_
 refine Wseq ?_
 refine Wseq ?_
 refine Wreg ?_
 replace hp := bind_some hp; obtain ⟨r1, hr1, hp⟩ := hp
 refine rc (cl Try.call6 rfl rfl) rfl ?_
 refine law22_awake_any hc hr1 ?_
 clear hc; intro w2 hc
 cases hb3 : r1
 · replace hp := gneg hp (by rw [hb3]; exact Bool.false_ne_true)
   subst hb3
   refine rs (v := .bool true) (ntf rfl) rfl ?_
   refine rs (v := .bool true) (mv (v := .bool true) rfl) rfl ?_
   refine r0 rfl ?_
   refine r0 rfl ?_
   refine r0 rfl ?_
   refine rs (v := .bool true) (pkt (v := .bool true) rfl rfl) rfl ?_
   refine rs (v := .bool true) (mv (v := .bool true) rfl) rfl ?_
   refine r0 rfl ?_
   refine r0 rfl ?_
   refine r0 rfl ?_
   refine rs (v := .bool true) (pkt (v := .bool true) rfl rfl) rfl ?_
   refine rn ?_
   refine qn ?_
   refine Wct rfl ?_
   refine Wseq ?_
   refine Wreg ?_
   replace hp := bind_some hp; obtain ⟨r4, hr4, hp⟩ := hp
   refine rc (cl Try.call6 rfl rfl) rfl ?_
   refine law22_awake_any hc hr4 ?_
   clear hc; intro w5 hc
   refine rs (v := .bool r4) (av (v := .bool r4) rfl) rfl ?_
   refine rn ?_
   refine qn ?_
   refine Wret ?_
   refine qr ?_
   injection hp with hp; subst hp
   refine f1 (v := .bool r4) Try.results4 Try.ntmps4 rfl ?_
   exact ⟨_, rfl, k _ hc⟩
 · replace hp := gpos hp hb3
   subst hb3
   refine rs (v := .bool false) (ntt rfl) rfl ?_
   refine rs (v := .bool false) (mv (v := .bool false) rfl) rfl ?_
   refine rs (v := .slice ax0 x0.length qx0) (mv (v := .slice ax0 x0.length qx0) rfl) rfl ?_
   refine rs (v := .int .i64 ((x0.length : Nat) : Int)) (ln rfl Try.underlying22) rfl ?_
   refine rs (v := .bool (decide (((x0.length : Nat) : Int) > 40))) (gt' rfl rfl) rfl ?_
   refine rs (v := .bool (decide (((x0.length : Nat) : Int) > 40))) (pkf (v := .bool (decide (((x0.length : Nat) : Int) > 40))) rfl rfl) rfl ?_
   refine rs (v := .bool (decide (((x0.length : Nat) : Int) > 40))) (mv (v := .bool (decide (((x0.length : Nat) : Int) > 40))) rfl) rfl ?_
   cases hb6 : (decide (((x0.length : Nat) : Int) > 40))
   · replace hp := gneg hp (of_decide_eq_false hb6)
     refine rs (v := .slice ax2 x2.length qx2) (mv (v := .slice ax2 x2.length qx2) rfl) rfl ?_
     refine rs (v := .int .i64 ((x2.length : Nat) : Int)) (ln rfl Try.underlying22) rfl ?_
     refine rs (v := .bool (decide (((x2.length : Nat) : Int) > 20))) (gt' rfl rfl) rfl ?_
     refine rs (v := .bool (decide (((x2.length : Nat) : Int) > 20))) (pkf (v := .bool (decide (((x2.length : Nat) : Int) > 20))) rfl rfl) rfl ?_
     refine rn ?_
     refine qn ?_
     cases hb7 : (decide (((x2.length : Nat) : Int) > 20))
     · replace hp := gneg hp (of_decide_eq_false hb7)
       refine Wcf rfl ?_
       refine Wskip ?_
       refine qn ?_
       refine Wseq ?_
       refine Wreg ?_
       replace hp := bind_some hp; obtain ⟨r8, hr8, hp⟩ := hp
       refine rc (cl Try.call7 rfl rfl) rfl ?_
       refine batch_New_any hc hr8 ?_
       clear hc; intro v9 w10 hc
       refine rs (v := .tuple #[v9, .int .i64 r8.2]) (mv (v := .tuple #[v9, .int .i64 r8.2]) rfl) rfl ?_
       refine rs (v := v9) (ext (v := v9) rfl rfl) rfl ?_
       refine rs (v := .int .i64 r8.2) (ext (v := .int .i64 r8.2) rfl rfl) rfl ?_
       refine rs (v := v9) (av (v := v9) rfl) rfl ?_
       refine rs (v := .int .i64 r8.2) (av (v := .int .i64 r8.2) rfl) rfl ?_
       refine rn ?_
       refine qn ?_
       refine Wseq ?_
       refine Wseq ?_
       refine Wreg ?_
       refine rs (v := v9) (mv (v := v9) rfl) rfl ?_
       cases hb11 : r8.1
       · replace hp := optN hp hb11
         rw [hb11] at hc
         replace hc := Ctx.ptoN hc; obtain ⟨u13, hc⟩ := hc; subst u13
         refine rs (v := .bool true) (ept Try.underlying24 rfl rfl) rfl ?_
         refine rs (v := .bool true) (mv (v := .bool true) rfl) rfl ?_
         refine r0 rfl ?_
         refine r0 rfl ?_
         refine rs (v := .bool true) (pkt (v := .bool true) rfl rfl) rfl ?_
         refine rn ?_
         refine qn ?_
         refine Wct rfl ?_
         refine Wseq ?_
         refine Wreg ?_
         refine rs (v := .bool false) (av (v := .bool false) rfl) rfl ?_
         refine rn ?_
         refine qn ?_
         refine Wret ?_
         refine qr ?_
         injection hp with hp; subst hp
         refine f1 (v := .bool false) Try.results4 Try.ntmps4 rfl ?_
         exact ⟨_, rfl, k _ hc⟩
       · rename_i y12
         replace hp := optS hp hb11
         rw [hb11] at hc
         replace hc := Ctx.ptoS hc; obtain ⟨b14, u15, hc⟩ := hc; subst u15
         refine rs (v := .bool false) (epf Try.underlying24 rfl rfl) rfl ?_
         refine rs (v := .bool false) (mv (v := .bool false) rfl) rfl ?_
         refine rs (v := .int .i64 r8.2) (mv (v := .int .i64 r8.2) rfl) rfl ?_
         refine rs (v := .bool (decide (r8.2 ≠ 0))) (ned rfl rfl) rfl ?_
         refine rs (v := .bool (decide (r8.2 ≠ 0))) (pkf (v := .bool (decide (r8.2 ≠ 0))) rfl rfl) rfl ?_
         refine rn ?_
         refine qn ?_
         cases hb16 : (decide (r8.2 ≠ 0))
         · replace hp := gneg hp (of_decide_eq_false hb16)
           refine Wcf rfl ?_
           refine Wskip ?_
           refine qn ?_
           refine Wseq ?_
           refine Wreg ?_
           refine rs (v := .slice none 0 0) (av (v := .slice none 0 0) rfl) rfl ?_
           refine rn ?_
           refine qn ?_
           refine Wseq ?_
           refine Wseq ?_
           refine Wreg ?_
           refine rs (v := .int .i64 0) (av (v := .int .i64 0) rfl) rfl ?_
           refine rn ?_
           refine qn ?_
           refine Wblk ?_
           replace hc := hc.nilOwn (pInt .i64) 3
           replace hc := hc.pull 3 rfl rfl
           replace hc := hc.pull 3 rfl rfl
           replace hc := hc.pull 3 rfl rfl
           refine Wloop [6, 9, 10, 11, 38, 39, 40, 41, 42, 43, 44, 45, 46, 47, 48, 49, 50, 51, 52, 53, 54, 55, 56, 57, 58, 59, 60, 61, 62, 63, 64, 65] [9, 10] (fun m vs w' => ∃ j17 : S_batch_Batch, ∃ j18 : (List Int), ∃ j22 : Int, ∃ a19 : Option Addr, ∃ n20 : Nat, ∃ q21 : Nat, vs = [.slice a19 n20 q21, .int .i64 j22] ∧ law22_BatchKeeps.L1 N x0 x1 x2 m j17 j18 j22 = some r ∧ Ctx w' (S_batch_Batch.hp b14 j17 :: P0 :: P2 :: Own (pInt .i64) 3 (.slice a19 n20 q21) j18 :: Fr)) N ?_ ?_
           · exact ⟨y12, [], 0, none, 0, 0, rfl, hp, hc⟩
           · clear hp hc; intro m vs u w23 hJ
             obtain ⟨j17, j18, j22, a19, n20, q21, rfl, hp, hc⟩ := hJ
             obtain ⟨u24, _⟩ := Ctx.rdLen hc (k := 3) rfl rfl reads_own; subst u24
             rcases m with _ | m1
             · cases (show none = some r from hp)
             rw [law22_BatchKeeps.L1] at hp
             refine Wseq ?_
             refine Wseq ?_
             refine Wreg ?_
             refine rs (v := .int .i64 j22) (mv (v := .int .i64 j22) rfl) rfl ?_
             refine rs (v := .slice ax0 x0.length qx0) (mv (v := .slice ax0 x0.length qx0) rfl) rfl ?_
             refine rs (v := .int .i64 ((x0.length : Nat) : Int)) (ln rfl Try.underlying22) rfl ?_
             refine rs (v := .bool (decide (j22 < ((x0.length : Nat) : Int)))) (lt' rfl rfl) rfl ?_
             refine rn ?_
             refine qn ?_
             cases hb25 : (decide (j22 < ((x0.length : Nat) : Int)))
             · replace hp := gneg hp (of_decide_eq_false hb25)
               refine Wcf rfl ?_
               refine Wexit ?_
               refine qx ?_
               refine qx ?_
               refine be ?_
               refine qn ?_
               refine Wseq ?_
               refine Wreg ?_
               refine rs (v := .int .i64 x1) (mv (v := .int .i64 x1) rfl) rfl ?_
               refine rs (v := .slice a19 j18.length q21) (mv (v := .slice a19 j18.length q21) rfl) rfl ?_
               refine rs (v := .int .i64 ((j18.length : Nat) : Int)) (ln rfl Try.underlying22) rfl ?_
               refine rs (v := .int .i64 (min x1 ((j18.length : Nat) : Int))) (bmn rfl rfl Try.underlying3) rfl ?_
               refine rs (v := .int .i64 (max (min x1 ((j18.length : Nat) : Int)) 0)) (bmx rfl rfl Try.underlying3) rfl ?_
               replace hp := bind_some hp; obtain ⟨e26, he26, hp⟩ := hp
               injection he26 with he26
               refine rs (v := .int .i64 e26) (av (v := .int .i64 e26) (by rw [← he26]; rfl)) rfl ?_
               refine rn ?_
               refine qn ?_
               refine Wseq ?_
               refine Wseq ?_
               replace hc := hc.drew
               refine Wdrw (fun j w' => True) [0, 0, 3, 0, 0, 24, 63, 127] 0 rfl (by kernel_rfl) (fun _ => trivial) ?_
               generalize hw : World.drew w23 = w27 at *
               clear hw
               refine ds (v := .pointer (some ⟨b14, 0, none⟩)) (fun w' hF => mv (v := .pointer (some ⟨b14, 0, none⟩)) rfl) rfl ?_
               refine ds (v := .int .i64 x1) (fun w' hF => mv (v := .int .i64 x1) rfl) rfl ?_
               replace hp := bind_some hp; obtain ⟨r28, hr28, hp⟩ := hp
               refine dc (cl Try.call10 rfl rfl) rfl rfl ?_
               refine batch_Batch_Pick_any hc hr28 ?_
               clear hc; intro a29 n30 q31 w32 hc
               obtain ⟨u33, _⟩ := Ctx.rdLen hc (k := 0) rfl rfl reads_own; subst u33
               refine ⟨fun _ _ => trivial, ?_⟩
               refine ds (v := .slice a19 j18.length q21) (fun w' hF => mv (v := .slice a19 j18.length q21) rfl) rfl ?_
               refine ds (v := .int .i64 e26) (fun w' hF => mv (v := .int .i64 e26) rfl) rfl ?_
               replace hp := chk_some hp; obtain ⟨hg34, hp⟩ := hp
               obtain ⟨hl38, hq39⟩ := Ctx.rdLen hc (k := 4) rfl rfl reads_own
               have rd37 := reads_sub (lo := ((0 : Int)).toNat) (hi := (e26).toNat) ((reads_own : Reads (Own (pInt .i64) 3 (.slice a19 j18.length q21) j18) (pInt .i64) (.slice a19 j18.length q21) j18)) (by omega) (by omega)
               refine ds (v := .slice (if q21 = ((0 : Int)).toNat then a19 else Option.map (fun x => x.add (((0 : Int)).toNat * 1)) a19) ((e26).toNat - ((0 : Int)).toNat) (q21 - ((0 : Int)).toNat)) (fun w' hF => run_sub (li := none) (hi' := some e26) rfl trivial ⟨_, rfl⟩ Try.underlying22 Try.sizeOf3 hg34 hq39) rfl ?_
               replace hp := bind_some hp; obtain ⟨r40, hr40, hp⟩ := hp
               replace hc := hc.pull 4 rfl rfl
               replace hc := hc.pull 1 rfl rfl
               refine dc (cl Try.call14 rfl rfl) rfl rfl ?_
               refine ref09_Ints_any reads_own rd37 hc hr40 ?_
               clear hc; intro w41 hc
               refine ⟨fun _ _ => trivial, ?_⟩
               cases hb42 : r40
               · replace hp := gneg hp (by rw [hb42]; exact Bool.false_ne_true)
                 subst hb42
                 refine ds (v := .bool true) (fun w' hF => ntf rfl) rfl ?_
                 refine dn ?_
                 refine qn ?_
                 refine Wct rfl ?_
                 refine Wseq ?_
                 refine Wreg ?_
                 refine rs (v := .bool false) (av (v := .bool false) rfl) rfl ?_
                 refine rn ?_
                 refine qn ?_
                 refine Wret ?_
                 refine qr ?_
                 replace hc := hc.rem 2 rfl rfl
                 replace hc := hc.rem 1 rfl rfl
                 replace hc := hc.rem 0 rfl rfl
                 injection hp with hp; subst hp
                 refine f1 (v := .bool false) Try.results4 Try.ntmps4 rfl ?_
                 exact ⟨_, rfl, k _ hc⟩
               · replace hp := gpos hp hb42
                 subst hb42
                 refine ds (v := .bool false) (fun w' hF => ntt rfl) rfl ?_
                 refine dn ?_
                 refine qn ?_
                 refine Wcf rfl ?_
                 refine Wskip ?_
                 refine qn ?_
                 refine Wseq ?_
                 replace hc := hc.drew
                 refine Wdrw (fun j w' => True) [0, 0, 0, 6, 15, 0, 0, 96, 255, 511] 0 rfl (by kernel_rfl) (fun _ => trivial) ?_
                 generalize hw : World.drew w41 = w43 at *
                 clear hw
                 refine deE (Ctx.builtOp (css := []) (xs := ([] : List Int)) (E := (pInt .i64)) hc Try.underlying22 Try.sizeOf3 Try.zeroValue3 rfl rfl rfl rfl rfl rfl rfl rfl) rfl rfl ?_
                 clear hc; rintro _ w45 ⟨a44, rfl, hc⟩
                 refine ⟨fun _ _ => trivial, ?_⟩
                 refine ds (v := .slice a19 j18.length q21) (fun w' hF => mv (v := .slice a19 j18.length q21) rfl) rfl ?_
                 refine ds (v := .int .i64 e26) (fun w' hF => mv (v := .int .i64 e26) rfl) rfl ?_
                 replace hp := chk_some hp; obtain ⟨hg46, hp⟩ := hp
                 obtain ⟨hl50, hq51⟩ := Ctx.rdLen hc (k := 2) rfl rfl reads_own
                 have rd49 := reads_sub (lo := (e26).toNat) (hi := (((j18.length : Nat) : Int)).toNat) ((reads_own : Reads (Own (pInt .i64) 3 (.slice a19 j18.length q21) j18) (pInt .i64) (.slice a19 j18.length q21) j18)) (by omega) (by omega)
                 refine ds (v := .slice (if q21 = (e26).toNat then a19 else Option.map (fun x => x.add ((e26).toNat * 1)) a19) ((((j18.length : Nat) : Int)).toNat - (e26).toNat) (q21 - (e26).toNat)) (fun w' hF => run_sub (li := some e26) (hi' := none) rfl ⟨_, rfl⟩ trivial Try.underlying22 Try.sizeOf3 hg46 hq51) rfl ?_
                 replace hp := bind_some hp; obtain ⟨z52, hz52, hp⟩ := hp
                 obtain ⟨hg53, e54⟩ := app_some hz52
                 refine deE (Ctx.append hc (k := 0) rfl rfl (k2 := 2) rfl rfl rd49 Try.underlying22 (i := Try.t3) rfl rfl rfl rfl rfl rfl rfl rfl hg53) rfl rfl ?_
                 clear hc; rintro _ w57 ⟨a55, q56, rfl, hc⟩
                 rw [← e54] at hc ⊢
                 refine ⟨fun _ _ => trivial, ?_⟩
                 refine ds (v := .slice a19 j18.length q21) (fun w' hF => mv (v := .slice a19 j18.length q21) rfl) rfl ?_
                 refine ds (v := .int .i64 e26) (fun w' hF => mv (v := .int .i64 e26) rfl) rfl ?_
                 replace hp := chk_some hp; obtain ⟨hg58, hp⟩ := hp
                 obtain ⟨hl62, hq63⟩ := Ctx.rdLen hc (k := 2) rfl rfl reads_own
                 have rd61 := reads_sub (lo := ((0 : Int)).toNat) (hi := (e26).toNat) ((reads_own : Reads (Own (pInt .i64) 3 (.slice a19 j18.length q21) j18) (pInt .i64) (.slice a19 j18.length q21) j18)) (by omega) (by omega)
                 refine ds (v := .slice (if q21 = ((0 : Int)).toNat then a19 else Option.map (fun x => x.add (((0 : Int)).toNat * 1)) a19) ((e26).toNat - ((0 : Int)).toNat) (q21 - ((0 : Int)).toNat)) (fun w' hF => run_sub (li := none) (hi' := some e26) rfl trivial ⟨_, rfl⟩ Try.underlying22 Try.sizeOf3 hg58 hq63) rfl ?_
                 replace hp := bind_some hp; obtain ⟨z64, hz64, hp⟩ := hp
                 obtain ⟨hg65, e66⟩ := app_some hz64
                 refine deE (Ctx.append hc (k := 0) rfl rfl (k2 := 2) rfl rfl rd61 Try.underlying22 (i := Try.t3) rfl rfl rfl rfl rfl rfl rfl rfl hg65) rfl rfl ?_
                 clear hc; rintro _ w69 ⟨a67, q68, rfl, hc⟩
                 rw [← e66] at hc ⊢
                 refine ⟨fun _ _ => trivial, ?_⟩
                 refine ds (v := .slice a67 z64.length q68) (fun w' hF => av (v := .slice a67 z64.length q68) rfl) rfl ?_
                 refine dn ?_
                 refine qn ?_
                 refine Wseq ?_
                 refine Wseq ?_
                 refine Wreg ?_
                 refine rs (v := .pointer (some ⟨b14, 0, none⟩)) (mv (v := .pointer (some ⟨b14, 0, none⟩)) rfl) rfl ?_
                 replace hp := bind_some hp; obtain ⟨r70, hr70, hp⟩ := hp
                 replace hc := hc.pull 3 rfl rfl
                 refine rc (cl Try.call13 rfl rfl) rfl ?_
                 refine batch_Batch_Members_any hc hr70 ?_
                 clear hc; intro a71 n72 q73 w74 hc
                 obtain ⟨u75, _⟩ := Ctx.rdLen hc (k := 0) rfl rfl reads_own; subst u75
                 refine rs (v := .slice a67 z64.length q68) (mv (v := .slice a67 z64.length q68) rfl) rfl ?_
                 replace hp := bind_some hp; obtain ⟨r76, hr76, hp⟩ := hp
                 replace hc := hc.pull 2 rfl rfl
                 replace hc := hc.pull 1 rfl rfl
                 refine rc (cl Try.call14 rfl rfl) rfl ?_
                 refine ref09_Ints_any reads_own reads_own hc hr76 ?_
                 clear hc; intro w77 hc
                 cases hb78 : r76
                 · replace hp := gneg hp (by rw [hb78]; exact Bool.false_ne_true)
                   subst hb78
                   refine rs (v := .bool true) (ntf rfl) rfl ?_
                   refine rn ?_
                   refine qn ?_
                   refine Wct rfl ?_
                   refine Wseq ?_
                   refine Wreg ?_
                   refine rs (v := .bool false) (av (v := .bool false) rfl) rfl ?_
                   refine rn ?_
                   refine qn ?_
                   refine Wret ?_
                   refine qr ?_
                   replace hc := hc.rem 4 rfl rfl
                   replace hc := hc.rem 3 rfl rfl
                   replace hc := hc.rem 2 rfl rfl
                   replace hc := hc.rem 1 rfl rfl
                   replace hc := hc.rem 0 rfl rfl
                   injection hp with hp; subst hp
                   refine f1 (v := .bool false) Try.results4 Try.ntmps4 rfl ?_
                   exact ⟨_, rfl, k _ hc⟩
                 · replace hp := gpos hp hb78
                   subst hb78
                   refine rs (v := .bool false) (ntt rfl) rfl ?_
                   refine rn ?_
                   refine qn ?_
                   refine Wcf rfl ?_
                   refine Wskip ?_
                   refine qn ?_
                   refine Wseq ?_
                   refine Wreg ?_
                   refine rs (v := .slice none 0 0) (av (v := .slice none 0 0) rfl) rfl ?_
                   refine rn ?_
                   refine qn ?_
                   refine Wseq ?_
                   refine Wseq ?_
                   refine Wreg ?_
                   refine rs (v := .int .i64 0) (av (v := .int .i64 0) rfl) rfl ?_
                   refine rn ?_
                   refine qn ?_
                   refine Wblk ?_
                   replace hc := hc.nilOwn (pInt .i64) 3
                   replace hc := hc.rem 5 rfl rfl
                   replace hc := hc.rem 4 rfl rfl
                   replace hc := hc.rem 1 rfl rfl
                   replace hc := hc.pull 4 rfl rfl
                   replace hc := hc.pull 4 rfl rfl
                   replace hc := hc.pull 4 rfl rfl
                   replace hc := hc.pull 4 rfl rfl
                   refine Wloop [13, 14, 93, 94, 95, 96, 97, 98, 99, 100, 101, 102, 103, 104, 105, 106, 107, 108, 109, 110, 111, 112] [13, 14] (fun m vs w' => ∃ j79 : (List Int), ∃ j83 : Int, ∃ a80 : Option Addr, ∃ n81 : Nat, ∃ q82 : Nat, vs = [.slice a80 n81 q82, .int .i64 j83] ∧ law22_BatchKeeps.L2 N x2 r28 z64 m j79 j83 = some r ∧ Ctx w' (Own (pInt .i64) 3 (.slice a67 z64.length q68) z64 :: S_batch_Batch.hp b14 r28.2 :: P0 :: P2 :: Own (pInt .i64) 3 (.slice a80 n81 q82) j79 :: Fr)) N ?_ ?_
                   · exact ⟨[], 0, none, 0, 0, rfl, hp, hc⟩
                   · clear hp hc; intro m vs u w84 hJ
                     obtain ⟨j79, j83, a80, n81, q82, rfl, hp, hc⟩ := hJ
                     obtain ⟨u85, _⟩ := Ctx.rdLen hc (k := 4) rfl rfl reads_own; subst u85
                     rcases m with _ | m2
                     · cases (show none = some r from hp)
                     rw [law22_BatchKeeps.L2] at hp
                     refine Wseq ?_
                     refine Wseq ?_
                     refine Wreg ?_
                     refine rs (v := .int .i64 j83) (mv (v := .int .i64 j83) rfl) rfl ?_
                     refine rs (v := .slice a67 z64.length q68) (mv (v := .slice a67 z64.length q68) rfl) rfl ?_
                     refine rs (v := .int .i64 ((z64.length : Nat) : Int)) (ln rfl Try.underlying22) rfl ?_
                     refine rs (v := .bool (decide (j83 < ((z64.length : Nat) : Int)))) (lt' rfl rfl) rfl ?_
                     refine rn ?_
                     refine qn ?_
                     cases hb86 : (decide (j83 < ((z64.length : Nat) : Int)))
                     · replace hp := gneg hp (of_decide_eq_false hb86)
                       refine Wcf rfl ?_
                       refine Wexit ?_
                       refine qx ?_
                       refine qx ?_
                       refine be ?_
                       refine qn ?_
                       refine Wseq ?_
                       refine Wreg ?_
                       refine rs (v := .pointer (some ⟨b14, 0, none⟩)) (mv (v := .pointer (some ⟨b14, 0, none⟩)) rfl) rfl ?_
                       refine rs (v := .slice ax2 x2.length qx2) (mv (v := .slice ax2 x2.length qx2) rfl) rfl ?_
                       replace hp := bind_some hp; obtain ⟨r87, hr87, hp⟩ := hp
                       replace hc := hc.pull 3 rfl rfl
                       replace hc := hc.pull 2 rfl rfl
                       refine rc (cl Try.call15 rfl rfl) rfl ?_
                       refine batch_Batch_Remove_any hrd2 hc hr87 ?_
                       clear hc; intro w88 hc
                       refine rs (v := .slice a67 z64.length q68) (mv (v := .slice a67 z64.length q68) rfl) rfl ?_
                       refine rs (v := .int .i64 ((z64.length : Nat) : Int)) (ln rfl Try.underlying22) rfl ?_
                       refine rs (v := .slice a80 j79.length q82) (mv (v := .slice a80 j79.length q82) rfl) rfl ?_
                       refine rs (v := .int .i64 ((j79.length : Nat) : Int)) (ln rfl Try.underlying22) rfl ?_
                       refine rs (v := .int .i64 (IntKind.i64.wrap (((z64.length : Nat) : Int) - ((j79.length : Nat) : Int)))) (sbw rfl rfl) rfl ?_
                       refine rs (v := .bool (decide (r87.1 = (IntKind.i64.wrap (((z64.length : Nat) : Int) - ((j79.length : Nat) : Int)))))) (eqd rfl rfl) rfl ?_
                       refine rs (v := .bool (decide (r87.1 = (IntKind.i64.wrap (((z64.length : Nat) : Int) - ((j79.length : Nat) : Int)))))) (mv (v := .bool (decide (r87.1 = (IntKind.i64.wrap (((z64.length : Nat) : Int) - ((j79.length : Nat) : Int)))))) rfl) rfl ?_
                       cases hb89 : (decide (r87.1 = (IntKind.i64.wrap (((z64.length : Nat) : Int) - ((j79.length : Nat) : Int)))))
                       · replace hp := gneg hp (of_decide_eq_false hb89)
                         refine r0 rfl ?_
                         refine r0 rfl ?_
                         refine r0 rfl ?_
                         refine r0 rfl ?_
                         refine rs (v := .bool false) (pkf (v := .bool false) rfl rfl) rfl ?_
                         refine rs (v := .bool false) (mv (v := .bool false) rfl) rfl ?_
                         refine r0 rfl ?_
                         refine r0 rfl ?_
                         refine r0 rfl ?_
                         refine r0 rfl ?_
                         refine r0 rfl ?_
                         refine r0 rfl ?_
                         refine rs (v := .bool false) (pkf (v := .bool false) rfl rfl) rfl ?_
                         refine rs (v := .bool false) (av (v := .bool false) rfl) rfl ?_
                         refine rn ?_
                         refine qn ?_
                         refine Wret ?_
                         replace hc := hc.rem 4 rfl rfl
                         replace hc := hc.rem 2 rfl rfl
                         replace hc := hc.rem 0 rfl rfl
                         replace hc := hc.pull 1 rfl rfl
                         injection hp with hp; subst hp
                         refine f1 (v := .bool false) Try.results4 Try.ntmps4 rfl ?_
                         exact ⟨_, rfl, k _ hc⟩
                       · replace hp := gpos hp (of_decide_eq_true hb89)
                         refine rs (v := .pointer (some ⟨b14, 0, none⟩)) (mv (v := .pointer (some ⟨b14, 0, none⟩)) rfl) rfl ?_
                         replace hp := bind_some hp; obtain ⟨r90, hr90, hp⟩ := hp
                         refine rc (cl Try.call13 rfl rfl) rfl ?_
                         refine batch_Batch_Members_any hc hr90 ?_
                         clear hc; intro a91 n92 q93 w94 hc
                         obtain ⟨u95, _⟩ := Ctx.rdLen hc (k := 0) rfl rfl reads_own; subst u95
                         refine rs (v := .slice a80 j79.length q82) (mv (v := .slice a80 j79.length q82) rfl) rfl ?_
                         replace hp := bind_some hp; obtain ⟨r96, hr96, hp⟩ := hp
                         replace hc := hc.pull 5 rfl rfl
                         replace hc := hc.pull 1 rfl rfl
                         refine rc (cl Try.call14 rfl rfl) rfl ?_
                         refine ref09_Ints_any reads_own reads_own hc hr96 ?_
                         clear hc; intro w97 hc
                         refine rs (v := .bool r96) (pkt (v := .bool r96) rfl rfl) rfl ?_
                         refine rs (v := .bool r96) (mv (v := .bool r96) rfl) rfl ?_
                         cases hb98 : r96
                         · replace hp := gneg hp (by rw [hb98]; exact Bool.false_ne_true)
                           subst hb98
                           refine r0 rfl ?_
                           refine r0 rfl ?_
                           refine r0 rfl ?_
                           refine r0 rfl ?_
                           refine r0 rfl ?_
                           refine r0 rfl ?_
                           refine rs (v := .bool false) (pkf (v := .bool false) rfl rfl) rfl ?_
                           refine rs (v := .bool false) (av (v := .bool false) rfl) rfl ?_
                           refine rn ?_
                           refine qn ?_
                           refine Wret ?_
                           replace hc := hc.rem 4 rfl rfl
                           replace hc := hc.rem 2 rfl rfl
                           replace hc := hc.rem 1 rfl rfl
                           replace hc := hc.rem 0 rfl rfl
                           replace hc := hc.pull 1 rfl rfl
                           injection hp with hp; subst hp
                           refine f1 (v := .bool false) Try.results4 Try.ntmps4 rfl ?_
                           exact ⟨_, rfl, k _ hc⟩
                         · replace hp := gpos hp hb98
                           subst hb98
                           refine rs (v := .pointer (some ⟨b14, 0, none⟩)) (mv (v := .pointer (some ⟨b14, 0, none⟩)) rfl) rfl ?_
                           replace hp := bind_some hp; obtain ⟨r99, hr99, hp⟩ := hp
                           replace hc := hc.pull 2 rfl rfl
                           refine rc (cl Try.call16 rfl rfl) rfl ?_
                           refine batch_Batch_Room_any hc hr99 ?_
                           clear hc; intro w100 hc
                           refine rs (v := .slice a80 j79.length q82) (mv (v := .slice a80 j79.length q82) rfl) rfl ?_
                           refine rs (v := .int .i64 ((j79.length : Nat) : Int)) (ln rfl Try.underlying22) rfl ?_
                           refine rs (v := .int .i64 (IntKind.i64.wrap (40 - ((j79.length : Nat) : Int)))) (sbw rfl rfl) rfl ?_
                           refine rs (v := .bool (decide (r99 = (IntKind.i64.wrap (40 - ((j79.length : Nat) : Int)))))) (eqd rfl rfl) rfl ?_
                           refine rs (v := .bool (decide (r99 = (IntKind.i64.wrap (40 - ((j79.length : Nat) : Int)))))) (pkt (v := .bool (decide (r99 = (IntKind.i64.wrap (40 - ((j79.length : Nat) : Int)))))) rfl rfl) rfl ?_
                           refine rs (v := .bool (decide (r99 = (IntKind.i64.wrap (40 - ((j79.length : Nat) : Int)))))) (av (v := .bool (decide (r99 = (IntKind.i64.wrap (40 - ((j79.length : Nat) : Int)))))) rfl) rfl ?_
                           refine rn ?_
                           refine qn ?_
                           refine Wret ?_
                           replace hc := hc.rem 4 rfl rfl
                           replace hc := hc.rem 2 rfl rfl
                           replace hc := hc.rem 1 rfl rfl
                           replace hc := hc.rem 0 rfl rfl
                           replace hc := hc.pull 1 rfl rfl
                           injection hp with hp; subst hp
                           refine f1 (v := .bool (decide (r99 = (IntKind.i64.wrap (40 - ((j79.length : Nat) : Int)))))) Try.results4 Try.ntmps4 rfl ?_
                           exact ⟨_, rfl, k _ hc⟩
                     · replace hp := gpos hp (of_decide_eq_true hb86)
                       refine Wct rfl ?_
                       refine Wskip ?_
                       refine qn ?_
                       refine Wseqm [13, 99, 100, 101, 102, 103, 104, 105, 106, 107, 108, 109, 110, 111, 112] [13] (fun vs w' => ∃ j101 : (List Int), ∃ a102 : Option Addr, ∃ n103 : Nat, ∃ q104 : Nat, vs = [.slice a102 n103 q104] ∧ law22_BatchKeeps.J3 j83 (law22_BatchKeeps.L2 N x2 r28 z64 m2) j101 = some r ∧ Ctx w' (Own (pInt .i64) 3 (.slice a67 z64.length q68) z64 :: S_batch_Batch.hp b14 r28.2 :: P0 :: P2 :: Own (pInt .i64) 3 (.slice a102 n103 q104) j101 :: Fr)) ?_ ?_
                       · refine Wblk ?_
                         refine Wseqm [99, 100, 101, 102, 103, 104, 105] [105] (fun vs w' => ∃ j105 : Bool, vs = [.bool j105] ∧ law22_BatchKeeps.J4 z64 j79 j83 (law22_BatchKeeps.L2 N x2 r28 z64 m2) j105 = some r ∧ Ctx w' (Own (pInt .i64) 3 (.slice a67 z64.length q68) z64 :: S_batch_Batch.hp b14 r28.2 :: P0 :: P2 :: Own (pInt .i64) 3 (.slice a80 j79.length q82) j79 :: Fr)) ?_ ?_
                         · refine Wreg ?_
                           refine rs (v := .slice ax2 x2.length qx2) (mv (v := .slice ax2 x2.length qx2) rfl) rfl ?_
                           refine rs (v := .slice a67 z64.length q68) (mv (v := .slice a67 z64.length q68) rfl) rfl ?_
                           refine rs (v := .int .i64 j83) (mv (v := .int .i64 j83) rfl) rfl ?_
                           replace hp := bind_some hp; obtain ⟨y106, hy106, hp⟩ := hp
                           obtain ⟨b109, o110, u111, hi107, hi108⟩ := Ctx.rdAt hc (k := 0) rfl rfl reads_own hy106
                           subst u111
                           refine rs (v := .pointer (some ⟨b109, o110 + (j83).toNat * 1, none⟩)) (ixx rfl rfl Try.underlying22 Try.sizeOf3 hi107 hi108 rfl) rfl ?_
                           replace hc := Ctx.rdCell hc (k := 0) rfl rfl reads_own hy106; obtain ⟨cs112, hc, hcell113⟩ := hc
                           replace hc := Ctx.holdC hc; obtain ⟨u114, hc⟩ := hc; subst u114
                           refine rs (v := .int .i64 y106) (ld rfl Try.isAgg3 (hcell113 0 _ rfl)) rfl ?_
                           replace hp := bind_some hp; obtain ⟨r115, hr115, hp⟩ := hp
                           replace hc := hc.pull 3 rfl rfl
                           refine rc (cl Try.call11 rfl rfl) rfl ?_
                           refine law22_has_any hrd2 hc hr115 ?_
                           clear hc; intro w116 hc
                           cases hb117 : r115
                           · replace hp := gneg hp (by rw [hb117]; exact Bool.false_ne_true)
                             subst hb117
                             refine rs (v := .bool true) (ntf rfl) rfl ?_
                             refine rn ?_
                             refine qn ?_
                             replace hc := hc.pull 4 rfl rfl
                             replace hc := hc.pull 1 rfl rfl
                             replace hc := hc.pull 4 rfl rfl
                             replace hc := hc.pull 4 rfl rfl
                             replace hc := hc.pull 4 rfl rfl
                             exact ⟨⟨true, rfl, hp, hc⟩, (kl rfl kb)⟩
                           · replace hp := gpos hp hb117
                             subst hb117
                             refine rs (v := .bool false) (ntt rfl) rfl ?_
                             refine rn ?_
                             refine qn ?_
                             replace hc := hc.pull 4 rfl rfl
                             replace hc := hc.pull 1 rfl rfl
                             replace hc := hc.pull 4 rfl rfl
                             replace hc := hc.pull 4 rfl rfl
                             replace hc := hc.pull 4 rfl rfl
                             exact ⟨⟨false, rfl, hp, hc⟩, (kl rfl kb)⟩
                         · clear hp hc; intro vs u w118 hJ
                           obtain ⟨j105, rfl, hp, hc⟩ := hJ
                           unfold law22_BatchKeeps.J4 at hp
                           cases hb119 : j105
                           · replace hp := gneg hp (by rw [hb119]; exact Bool.false_ne_true)
                             subst hb119
                             refine Wcf rfl ?_
                             refine Wskip ?_
                             refine bn ?_
                             refine qn ?_
                             exact ⟨⟨j79, a80, j79.length, q82, rfl, hp, hc⟩, (kl rfl (km rfl (kl rfl kb)))⟩
                           · replace hp := gpos hp hb119
                             subst hb119
                             refine Wct rfl ?_
                             refine Wreg ?_
                             refine rs (v := .slice a80 j79.length q82) (mv (v := .slice a80 j79.length q82) rfl) rfl ?_
                             refine rs (v := .slice a67 z64.length q68) (mv (v := .slice a67 z64.length q68) rfl) rfl ?_
                             refine rs (v := .int .i64 j83) (mv (v := .int .i64 j83) rfl) rfl ?_
                             replace hp := bind_some hp; obtain ⟨y120, hy120, hp⟩ := hp
                             obtain ⟨b123, o124, u125, hi121, hi122⟩ := Ctx.rdAt hc (k := 0) rfl rfl reads_own hy120
                             subst u125
                             refine rs (v := .pointer (some ⟨b123, o124 + (j83).toNat * 1, none⟩)) (ixx rfl rfl Try.underlying22 Try.sizeOf3 hi121 hi122 rfl) rfl ?_
                             replace hc := Ctx.rdCell hc (k := 0) rfl rfl reads_own hy120; obtain ⟨cs126, hc, hcell127⟩ := hc
                             replace hc := Ctx.holdC hc; obtain ⟨u128, hc⟩ := hc; subst u128
                             refine rs (v := .int .i64 y120) (ld rfl Try.isAgg3 (hcell127 0 _ rfl)) rfl ?_
                             replace hc : Ctx w118 (Hold (pInt .i64) [.int .i64 y120] y120 :: Own (pInt .i64) 3 (.slice (some ⟨b123, o124, none⟩) z64.length q68) z64 :: S_batch_Batch.hp b14 r28.2 :: P0 :: P2 :: Own (pInt .i64) 3 (.slice a80 j79.length q82) j79 :: Fr) := hc.add _ fun _ _ _ => ⟨rfl, rfl⟩
                             refine rsE (Ctx.builtOp (css := [[.int .i64 y120]]) (xs := ([y120] : List Int)) (E := (pInt .i64)) hc Try.underlying22 Try.sizeOf3 Try.zeroValue3 rfl rfl rfl rfl rfl rfl rfl rfl) rfl ?_
                             clear hc; rintro _ w130 ⟨a129, rfl, hc⟩
                             replace hp := bind_some hp; obtain ⟨z131, hz131, hp⟩ := hp
                             obtain ⟨hg132, e133⟩ := app_some hz131
                             refine rsE (Ctx.append hc (k := 5) rfl rfl (k2 := 0) rfl rfl reads_own Try.underlying22 (i := Try.t3) rfl rfl rfl rfl rfl rfl rfl rfl hg132) rfl ?_
                             clear hc; rintro _ w136 ⟨a134, q135, rfl, hc⟩
                             rw [← e133] at hc ⊢
                             refine rs (v := .slice a134 z131.length q135) (av (v := .slice a134 z131.length q135) rfl) rfl ?_
                             refine rn ?_
                             refine bn ?_
                             refine qn ?_
                             replace hc := hc.rem 0 rfl rfl
                             exact ⟨⟨z131, a134, z131.length, q135, rfl, hp, hc⟩, (kl rfl (km rfl (kl rfl kb)))⟩
                       · clear hp hc; intro vs u w137 hJ
                         obtain ⟨j101, a102, n103, q104, rfl, hp, hc⟩ := hJ
                         obtain ⟨u138, _⟩ := Ctx.rdLen hc (k := 4) rfl rfl reads_own; subst u138
                         unfold law22_BatchKeeps.J3 at hp
                         refine Wreg ?_
                         refine rs (v := .int .i64 j83) (mv (v := .int .i64 j83) rfl) rfl ?_
                         refine rs (v := .int .i64 (IntKind.i64.wrap (j83 + 1))) (adw rfl rfl) rfl ?_
                         refine rs (v := .int .i64 (IntKind.i64.wrap (j83 + 1))) (av (v := .int .i64 (IntKind.i64.wrap (j83 + 1))) rfl) rfl ?_
                         refine rn ?_
                         refine qn ?_
                         exact ⟨m2, Nat.lt_succ_self _, ⟨j101, (IntKind.i64.wrap (j83 + 1)), a102, j101.length, q104, rfl, hp, hc⟩, (kl rfl (km rfl (kl rfl k0)))⟩
             · replace hp := gpos hp (of_decide_eq_true hb25)
               refine Wct rfl ?_
               refine Wskip ?_
               refine qn ?_
               refine Wseq ?_
               refine Wblk ?_
               refine Wseq ?_
               refine Wreg ?_
               refine rs (v := .int .i64 0) (av (v := .int .i64 0) rfl) rfl ?_
               refine rn ?_
               refine qn ?_
               refine Wseqm [9, 11, 44, 45, 46, 47, 48, 49, 50, 51, 52, 53, 54, 55, 56] [9, 11] (fun vs w' => ∃ j139 : (List Int), ∃ j143 : Int, ∃ a140 : Option Addr, ∃ n141 : Nat, ∃ q142 : Nat, vs = [.slice a140 n141 q142, .int .i64 j143] ∧ law22_BatchKeeps.J5 N x0 j17 j22 (law22_BatchKeeps.L1 N x0 x1 x2 m1) j139 j143 = some r ∧ Ctx w' (S_batch_Batch.hp b14 j17 :: P0 :: P2 :: Own (pInt .i64) 3 (.slice a140 n141 q142) j139 :: Fr)) ?_ ?_
               · refine Wseq ?_
                 refine Wreg ?_
                 refine rs (v := .slice a19 j18.length q21) (mv (v := .slice a19 j18.length q21) rfl) rfl ?_
                 refine rs (v := .slice ax0 x0.length qx0) (mv (v := .slice ax0 x0.length qx0) rfl) rfl ?_
                 refine rs (v := .int .i64 j22) (mv (v := .int .i64 j22) rfl) rfl ?_
                 replace hp := bind_some hp; obtain ⟨y144, hy144, hp⟩ := hp
                 obtain ⟨b147, o148, u149, hi145, hi146⟩ := Ctx.rdAt hc (k := 1) rfl rfl hrd0 hy144
                 subst u149
                 refine rs (v := .pointer (some ⟨b147, o148 + (j22).toNat * 1, none⟩)) (ixx rfl rfl Try.underlying22 Try.sizeOf3 hi145 hi146 rfl) rfl ?_
                 replace hc := Ctx.rdCell hc (k := 1) rfl rfl hrd0 hy144; obtain ⟨cs150, hc, hcell151⟩ := hc
                 replace hc := Ctx.holdC hc; obtain ⟨u152, hc⟩ := hc; subst u152
                 refine rs (v := .int .i64 y144) (ld rfl Try.isAgg3 (hcell151 0 _ rfl)) rfl ?_
                 replace hp := bind_some hp; obtain ⟨r153, hr153, hp⟩ := hp
                 replace hc := hc.pull 3 rfl rfl
                 refine rc (cl Try.call11 rfl rfl) rfl ?_
                 refine law22_has_any reads_own hc hr153 ?_
                 clear hc; intro w154 hc
                 refine rn ?_
                 refine qn ?_
                 cases hb155 : r153
                 · replace hp := gneg hp (by rw [hb155]; exact Bool.false_ne_true)
                   subst hb155
                   refine Wcf rfl ?_
                   refine Wreg ?_
                   refine rs (v := .slice a19 j18.length q21) (mv (v := .slice a19 j18.length q21) rfl) rfl ?_
                   refine rs (v := .slice (some ⟨b147, o148, none⟩) x0.length qx0) (mv (v := .slice (some ⟨b147, o148, none⟩) x0.length qx0) rfl) rfl ?_
                   refine rs (v := .int .i64 j22) (mv (v := .int .i64 j22) rfl) rfl ?_
                   replace hp := bind_some hp; obtain ⟨y156, hy156, hp⟩ := hp
                   obtain ⟨b159, o160, u161, hi157, hi158⟩ := Ctx.rdAt hc (k := 2) rfl rfl hrd0 hy156
                   clear u161
                   refine rs (v := .pointer (some ⟨b147, o148 + (j22).toNat * 1, none⟩)) (ixx rfl rfl Try.underlying22 Try.sizeOf3 hi157 hi158 rfl) rfl ?_
                   replace hc := Ctx.rdCell hc (k := 2) rfl rfl hrd0 hy156; obtain ⟨cs162, hc, hcell163⟩ := hc
                   replace hc := Ctx.holdC hc; obtain ⟨u164, hc⟩ := hc; subst u164
                   refine rs (v := .int .i64 y156) (ld rfl Try.isAgg3 (hcell163 0 _ rfl)) rfl ?_
                   replace hc : Ctx w154 (Hold (pInt .i64) [.int .i64 y156] y156 :: Own (pInt .i64) 3 (.slice a19 j18.length q21) j18 :: S_batch_Batch.hp b14 j17 :: P0 :: P2 :: Fr) := hc.add _ fun _ _ _ => ⟨rfl, rfl⟩
                   refine rsE (Ctx.builtOp (css := [[.int .i64 y156]]) (xs := ([y156] : List Int)) (E := (pInt .i64)) hc Try.underlying22 Try.sizeOf3 Try.zeroValue3 rfl rfl rfl rfl rfl rfl rfl rfl) rfl ?_
                   clear hc; rintro _ w166 ⟨a165, rfl, hc⟩
                   replace hp := bind_some hp; obtain ⟨z167, hz167, hp⟩ := hp
                   obtain ⟨hg168, e169⟩ := app_some hz167
                   refine rsE (Ctx.append hc (k := 1) rfl rfl (k2 := 0) rfl rfl reads_own Try.underlying22 (i := Try.t3) rfl rfl rfl rfl rfl rfl rfl rfl hg168) rfl ?_
                   clear hc; rintro _ w172 ⟨a170, q171, rfl, hc⟩
                   rw [← e169] at hc ⊢
                   refine rs (v := .slice a170 z167.length q171) (av (v := .slice a170 z167.length q171) rfl) rfl ?_
                   refine rn ?_
                   refine qn ?_
                   replace hc := hc.rem 0 rfl rfl
                   replace hc := hc.pull 3 rfl rfl
                   replace hc := hc.pull 3 rfl rfl
                   replace hc := hc.pull 3 rfl rfl
                   exact ⟨⟨z167, 0, a170, z167.length, q171, rfl, hp, hc⟩, (kl rfl kb)⟩
                 · replace hp := gpos hp hb155
                   subst hb155
                   refine Wct rfl ?_
                   refine Wreg ?_
                   refine rs (v := .int .i64 210) (av (v := .int .i64 210) rfl) rfl ?_
                   refine rn ?_
                   refine qn ?_
                   replace hc := hc.pull 3 rfl rfl
                   replace hc := hc.pull 3 rfl rfl
                   replace hc := hc.pull 3 rfl rfl
                   exact ⟨⟨j18, 210, a19, j18.length, q21, rfl, hp, hc⟩, (kl rfl kb)⟩
               · clear hp hc; intro vs u w173 hJ
                 obtain ⟨j139, j143, a140, n141, q142, rfl, hp, hc⟩ := hJ
                 obtain ⟨u174, _⟩ := Ctx.rdLen hc (k := 3) rfl rfl reads_own; subst u174
                 unfold law22_BatchKeeps.J5 at hp
                 refine Wseq ?_
                 refine Wreg ?_
                 refine rs (v := .pointer (some ⟨b14, 0, none⟩)) (mv (v := .pointer (some ⟨b14, 0, none⟩)) rfl) rfl ?_
                 refine rs (v := .slice ax0 x0.length qx0) (mv (v := .slice ax0 x0.length qx0) rfl) rfl ?_
                 refine rs (v := .int .i64 j22) (mv (v := .int .i64 j22) rfl) rfl ?_
                 replace hp := bind_some hp; obtain ⟨y175, hy175, hp⟩ := hp
                 obtain ⟨b178, o179, u180, hi176, hi177⟩ := Ctx.rdAt hc (k := 1) rfl rfl hrd0 hy175
                 subst u180
                 refine rs (v := .pointer (some ⟨b178, o179 + (j22).toNat * 1, none⟩)) (ixx rfl rfl Try.underlying22 Try.sizeOf3 hi176 hi177 rfl) rfl ?_
                 replace hc := Ctx.rdCell hc (k := 1) rfl rfl hrd0 hy175; obtain ⟨cs181, hc, hcell182⟩ := hc
                 replace hc := Ctx.holdC hc; obtain ⟨u183, hc⟩ := hc; subst u183
                 refine rs (v := .int .i64 y175) (ld rfl Try.isAgg3 (hcell182 0 _ rfl)) rfl ?_
                 replace hc : Ctx w173 (Hold (pInt .i64) [.int .i64 y175] y175 :: S_batch_Batch.hp b14 j17 :: P0 :: P2 :: Own (pInt .i64) 3 (.slice a140 j139.length q142) j139 :: Fr) := hc.add _ fun _ _ _ => ⟨rfl, rfl⟩
                 refine rsE (Ctx.builtOp (css := [[.int .i64 y175]]) (xs := ([y175] : List Int)) (E := (pInt .i64)) hc Try.underlying22 Try.sizeOf3 Try.zeroValue3 rfl rfl rfl rfl rfl rfl rfl rfl) rfl ?_
                 clear hc; rintro _ w185 ⟨a184, rfl, hc⟩
                 replace hp := bind_some hp; obtain ⟨r186, hr186, hp⟩ := hp
                 replace hc := hc.pull 1 rfl rfl
                 refine rc (cl Try.call8 rfl rfl) rfl ?_
                 refine batch_Batch_Add_any reads_own hc hr186 ?_
                 clear hc; intro w187 hc
                 refine rs (v := .int .i64 j143) (mv (v := .int .i64 j143) rfl) rfl ?_
                 refine rs (v := .bool (decide (r186.1 ≠ j143))) (ned rfl rfl) rfl ?_
                 refine rn ?_
                 refine qn ?_
                 cases hb188 : (decide (r186.1 ≠ j143))
                 · replace hp := gneg hp (of_decide_eq_false hb188)
                   refine Wcf rfl ?_
                   refine Wskip ?_
                   refine bn ?_
                   refine qn ?_
                   refine Wreg ?_
                   refine rs (v := .int .i64 j22) (mv (v := .int .i64 j22) rfl) rfl ?_
                   refine rs (v := .int .i64 (IntKind.i64.wrap (j22 + 1))) (adw rfl rfl) rfl ?_
                   refine rs (v := .int .i64 (IntKind.i64.wrap (j22 + 1))) (av (v := .int .i64 (IntKind.i64.wrap (j22 + 1))) rfl) rfl ?_
                   refine rn ?_
                   refine qn ?_
                   replace hc := hc.rem 1 rfl rfl
                   exact ⟨m1, Nat.lt_succ_self _, ⟨r186.2, j139, (IntKind.i64.wrap (j22 + 1)), a140, j139.length, q142, rfl, hp, hc⟩, (kl rfl (km rfl (kl rfl k0)))⟩
                 · replace hp := gpos hp (of_decide_eq_true hb188)
                   refine Wct rfl ?_
                   refine Wseq ?_
                   refine Wreg ?_
                   refine rs (v := .bool false) (av (v := .bool false) rfl) rfl ?_
                   refine rn ?_
                   refine qn ?_
                   refine Wret ?_
                   refine br ?_
                   refine qr ?_
                   refine qr ?_
                   refine br ?_
                   refine qr ?_
                   replace hc := hc.rem 4 rfl rfl
                   replace hc := hc.rem 1 rfl rfl
                   replace hc := hc.rem 0 rfl rfl
                   injection hp with hp; subst hp
                   refine f1 (v := .bool false) Try.results4 Try.ntmps4 rfl ?_
                   exact ⟨_, rfl, k _ hc⟩
         · replace hp := gpos hp (of_decide_eq_true hb16)
           refine Wct rfl ?_
           refine Wseq ?_
           refine Wreg ?_
           refine rs (v := .bool false) (av (v := .bool false) rfl) rfl ?_
           refine rn ?_
           refine qn ?_
           refine Wret ?_
           refine qr ?_
           replace hc := hc.rem 0 rfl rfl
           injection hp with hp; subst hp
           refine f1 (v := .bool false) Try.results4 Try.ntmps4 rfl ?_
           exact ⟨_, rfl, k _ hc⟩
     · replace hp := gpos hp (of_decide_eq_true hb7)
       refine Wct rfl ?_
       refine Wseq ?_
       refine Wreg ?_
       replace hp := bind_some hp; obtain ⟨r189, hr189, hp⟩ := hp
       refine rc (cl Try.call6 rfl rfl) rfl ?_
       refine law22_awake_any hc hr189 ?_
       clear hc; intro w190 hc
       refine rs (v := .bool r189) (av (v := .bool r189) rfl) rfl ?_
       refine rn ?_
       refine qn ?_
       refine Wret ?_
       refine qr ?_
       injection hp with hp; subst hp
       refine f1 (v := .bool r189) Try.results4 Try.ntmps4 rfl ?_
       exact ⟨_, rfl, k _ hc⟩
   · replace hp := gpos hp (of_decide_eq_true hb6)
     refine r0 rfl ?_
     refine r0 rfl ?_
     refine r0 rfl ?_
     refine rs (v := .bool true) (pkt (v := .bool true) rfl rfl) rfl ?_
     refine rn ?_
     refine qn ?_
     refine Wct rfl ?_
     refine Wseq ?_
     refine Wreg ?_
     replace hp := bind_some hp; obtain ⟨r191, hr191, hp⟩ := hp
     refine rc (cl Try.call6 rfl rfl) rfl ?_
     refine law22_awake_any hc hr191 ?_
     clear hc; intro w192 hc
     refine rs (v := .bool r191) (av (v := .bool r191) rfl) rfl ?_
     refine rn ?_
     refine qn ?_
     refine Wret ?_
     refine qr ?_
     injection hp with hp; subst hp
     refine f1 (v := .bool r191) Try.results4 Try.ntmps4 rfl ?_
     exact ⟨_, rfl, k _ hc⟩

end Go.Proofs.Ythlildgmjidllaa
