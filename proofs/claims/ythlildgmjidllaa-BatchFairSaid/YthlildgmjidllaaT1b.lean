/- Functions of the program as plain functions, and the proofs that walks compute them. Printed by a program of this session. -/
import Derived.Test.YthlildgmjidllaaT1
namespace Go.Proofs.Ythlildgmjidllaa
open Go Go.RowKit Go.Hp
set_option linter.unusedVariables false
set_option linter.unusedSimpArgs false
set_option maxRecDepth 100000

-- FN peloton/pelotonlaw22.BatchActs
theorem bd_42_0 {ρ : Operand → Value} {w : World} {dst : Option Nat} {ty : TypeId} {pos : String} {after : Array Edge} {g : Option (Nat × Bool)} {x0 : Operand} {k0 : IntKind} {a0 : Int} (h0 : ρ x0 = (.int k0 a0)) :
    (execOp ρ ⟨dst, .build 42 #[(0, x0)], ty, pos, after, g⟩).run Try.prog w = .ok (.value (.agg #[(.int k0 a0), (.slice none 0 0)])) w := by
  simp [execOp, Instr.build, Instr.fill, Try.zeroValue42, Try.runUnderlying42, Try.sizeOf3, Try.sizeOf40, h0, Value.cells]

def law22_BatchActs.J3 (N : Nat) (x0 : Int) (j25 : Int) (k2 : S_ref22_Batch → S_batch_Batch → Int → Option (Bool)) (j44 : S_ref22_Batch) (j45 : S_batch_Batch) : Option (Bool) :=
  (ref22_Batch_Lists N j44).bind fun r118 =>
  (batch_Batch_Members j45).bind fun r128 =>
  (ref09_Ints N r128 r118.1).bind fun r134 =>
  if r134 = true then
    (batch_Batch_In N j45).bind fun r137 =>
    (ref09_Ints N r137 r118.2).bind fun r143 =>
    if r143 = true then
      (batch_Batch_Room j45).bind fun r146 =>
      if r146 ≠ (IntKind.i64.wrap (x0 - ((r118.1.length : Nat) : Int))) then
        some false
      else
        (batch_Batch_Room j45).bind fun r149 =>
        if r149 < 0 then
          some false
        else
          k2 j44 j45 (IntKind.i64.wrap (j25 + 1))
    else
      some false
  else
    some false

def law22_BatchActs.L4 (N : Nat) (x0 : Int) (j24 : S_batch_Batch) (j25 : Int) (y28 : S_law22_Act) (k2 : S_ref22_Batch → S_batch_Batch → Int → Option (Bool)) : Nat → S_ref22_Batch → Int → Int → Option (Bool)
  | 0, _, _, _ => none
  | m4 + 1, j55, j56, j57 =>
    if j57 < ((y28.Ids.length : Nat) : Int) then
      (idx y28.Ids j57).bind fun y63 =>
      (ref22_Batch_Back N j55 y63).bind fun r72 =>
      (some (IntKind.i64.wrap (j56 + r72.1))).bind fun e74 =>
      (law22_BatchActs.L4 N x0 j24 j25 y28 k2 m4) r72.2 e74 (IntKind.i64.wrap (j57 + 1))
    else
      (batch_Batch_Back N j24 y28.Ids).bind fun r60 =>
      if r60.1 ≠ j56 then
        some false
      else
        law22_BatchActs.J3 N x0 j25 k2 j55 r60.2

def law22_BatchActs.L5 (N : Nat) (x0 : Int) (j24 : S_batch_Batch) (j25 : Int) (y28 : S_law22_Act) (k2 : S_ref22_Batch → S_batch_Batch → Int → Option (Bool)) : Nat → S_ref22_Batch → Int → Int → Option (Bool)
  | 0, _, _, _ => none
  | m5 + 1, j91, j92, j93 =>
    if j93 < ((y28.Ids.length : Nat) : Int) then
      (idx y28.Ids j93).bind fun y99 =>
      (ref22_Batch_Remove N j91 y99).bind fun r108 =>
      (some (IntKind.i64.wrap (j92 + r108.1))).bind fun e110 =>
      (law22_BatchActs.L5 N x0 j24 j25 y28 k2 m5) r108.2 e110 (IntKind.i64.wrap (j93 + 1))
    else
      (batch_Batch_Remove N j24 y28.Ids).bind fun r96 =>
      if r96.1 ≠ j92 then
        some false
      else
        law22_BatchActs.J3 N x0 j25 k2 j91 r96.2

def law22_BatchActs.L2 (N : Nat) (x0 : Int) (x1 : (List S_law22_Act)) : Nat → S_ref22_Batch → S_batch_Batch → Int → Option (Bool)
  | 0, _, _, _ => none
  | m2 + 1, j23, j24, j25 =>
    if j25 < ((x1.length : Nat) : Int) then
      (idx x1 j25).bind fun y28 =>
      if ((y28.Ids.length : Nat) : Int) > 30 then
        some true
      else
        if y28.Kind = 0 then
          (batch_Batch_Add N j24 y28.Ids).bind fun r112 =>
          (ref22_Batch_Add N j23 y28.Ids).bind fun r114 =>
          if r112.1 ≠ r114.1 then
            some false
          else
            law22_BatchActs.J3 N x0 j25 (law22_BatchActs.L2 N x0 x1 m2) r114.2 r112.2
        else
          if y28.Kind = 1 then
            law22_BatchActs.L5 N x0 j24 j25 y28 (law22_BatchActs.L2 N x0 x1 m2) N j23 0 0
          else
            if y28.Kind = 2 then
              (batch_Batch_Pick N j24 y28.N).bind fun r76 =>
              (ref22_Batch_Pick N j23 (min y28.N 1000)).bind fun r82 =>
              (ref09_Ints N r76.1 r82.1).bind fun r88 =>
              if r88 = true then
                law22_BatchActs.J3 N x0 j25 (law22_BatchActs.L2 N x0 x1 m2) r82.2 r76.2
              else
                some false
            else
              if y28.Kind = 3 then
                law22_BatchActs.L4 N x0 j24 j25 y28 (law22_BatchActs.L2 N x0 x1 m2) N j23 0 0
              else
                if y28.Kind = 4 then
                  (batch_Batch_Rewind j24).bind fun r51 =>
                  (ref22_Batch_Rewind N j23).bind fun r53 =>
                  law22_BatchActs.J3 N x0 j25 (law22_BatchActs.L2 N x0 x1 m2) r53 r51
                else
                  law22_BatchActs.J3 N x0 j25 (law22_BatchActs.L2 N x0 x1 m2) j23 j24
    else
      some true

def law22_BatchActs.J1 (N : Nat) (x0 : Int) (x1 : (List S_law22_Act)) (r7 : ((Option S_batch_Batch) × Int)) (j10 : Bool) : Option (Bool) :=
  if j10 = true then
    optc r7.1 (
      some (decide (r7.2 = 2))) fun y153 =>
    some false
  else
    optc r7.1 (
      some false) fun y15 =>
    if r7.2 ≠ 0 then
      some false
    else
      law22_BatchActs.L2 N x0 x1 N (⟨x0, []⟩ : S_ref22_Batch) y15 0

def law22_BatchActs (N : Nat) (x0 : Int) (x1 : (List S_law22_Act)) : Option (Bool) :=
  (law22_awake N).bind fun r1 =>
  if r1 = true then
    if ((x1.length : Nat) : Int) > 80 then
      (law22_awake N).bind fun r157 =>
      some r157
    else
      (batch_New x0).bind fun r7 =>
      if x0 < 1 then
        law22_BatchActs.J1 N x0 x1 r7 true
      else
        law22_BatchActs.J1 N x0 x1 r7 (decide (x0 > 256))
  else
    (law22_awake N).bind fun r4 =>
    some r4

set_option maxHeartbeats 8000000 in
theorem law22_BatchActs_any {N : Nat} {x0 : Int} {x1 : (List S_law22_Act)} {ax1 : Option Addr} {nx1 : Nat} {qx1 : Nat} {P1 : HP} {Fr : List HP} {w : World} {r : Bool} {K : Value → World → Prop} (hrd1 : Reads P1 S_law22_Act.pr (.slice ax1 nx1 qx1) x1) (hc : Ctx w (P1 :: Fr)) (hp : law22_BatchActs N x0 x1 = some r)
    (k : ∀ w', Ctx w' (P1 :: Fr) → K (.bool r) w') : Calls Try.prog 5 #[.int .i64 x0, .slice ax1 nx1 qx1] w (Ret K) := by
 unfold law22_BatchActs at hp
 refine Center (args := [.int .i64 x0, .slice ax1 nx1 qx1]) (l := [(0, .int .i64 x0), (1, .slice ax1 nx1 qx1)]) Try.func5 Try.ntmps5 rfl rfl rfl ?_
 obtain ⟨hn1, _⟩ := Ctx.rdLen hc (k := 0) rfl rfl hrd1; subst hn1
 refine Wseq ?_
 refine Wreg ?_
 refine rs (v := .bool false) (av (v := .bool false) rfl) rfl ?_
 refine rn ?_
 refine qn ?_
 refine Wseq ?_
 refine Wseq ?_
 refine Wreg ?_
 replace hp := bind_some hp; obtain ⟨r1, hr1, hp⟩ := hp
 refine rc (cl Try.call6 rfl rfl) rfl ?_
 refine law22_awake_any hc hr1 ?_
 clear hc; intro w2 hc
 cases hb3 : r1
 · replace hp := gneg hp (by rw [hb3]; exact Bool.false_ne_true)
   subst hb3
   refine rs (v := .bool true) (ntf rfl) rfl ?_
   refine rs (v := .bool true) (mv (v := .bool true) rfl) rfl ?_
   refine r0 rfl ?_
   refine r0 rfl ?_
   refine r0 rfl ?_
   refine rs (v := .bool true) (pkt (v := .bool true) rfl rfl) rfl ?_
   refine rn ?_
   refine qn ?_
   refine Wct rfl ?_
   refine Wseq ?_
   refine Wreg ?_
   replace hp := bind_some hp; obtain ⟨r4, hr4, hp⟩ := hp
   refine rc (cl Try.call6 rfl rfl) rfl ?_
   refine law22_awake_any hc hr4 ?_
   clear hc; intro w5 hc
   refine rs (v := .bool r4) (av (v := .bool r4) rfl) rfl ?_
   refine rn ?_
   refine qn ?_
   refine Wret ?_
   refine qr ?_
   injection hp with hp; subst hp
   refine f1 (v := .bool r4) Try.results5 Try.ntmps5 rfl ?_
   exact ⟨_, rfl, k _ hc⟩
 · replace hp := gpos hp hb3
   subst hb3
   refine rs (v := .bool false) (ntt rfl) rfl ?_
   refine rs (v := .bool false) (mv (v := .bool false) rfl) rfl ?_
   refine rs (v := .slice ax1 x1.length qx1) (mv (v := .slice ax1 x1.length qx1) rfl) rfl ?_
   refine rs (v := .int .i64 ((x1.length : Nat) : Int)) (ln rfl Try.underlying38) rfl ?_
   refine rs (v := .bool (decide (((x1.length : Nat) : Int) > 80))) (gt' rfl rfl) rfl ?_
   refine rs (v := .bool (decide (((x1.length : Nat) : Int) > 80))) (pkf (v := .bool (decide (((x1.length : Nat) : Int) > 80))) rfl rfl) rfl ?_
   refine rn ?_
   refine qn ?_
   cases hb6 : (decide (((x1.length : Nat) : Int) > 80))
   · replace hp := gneg hp (of_decide_eq_false hb6)
     refine Wcf rfl ?_
     refine Wskip ?_
     refine qn ?_
     refine Wseq ?_
     refine Wreg ?_
     refine rs (v := .int .i64 x0) (mv (v := .int .i64 x0) rfl) rfl ?_
     replace hp := bind_some hp; obtain ⟨r7, hr7, hp⟩ := hp
     refine rc (cl Try.call7 rfl rfl) rfl ?_
     refine batch_New_any hc hr7 ?_
     clear hc; intro v8 w9 hc
     refine rs (v := .tuple #[v8, .int .i64 r7.2]) (mv (v := .tuple #[v8, .int .i64 r7.2]) rfl) rfl ?_
     refine rs (v := v8) (ext (v := v8) rfl rfl) rfl ?_
     refine rs (v := .int .i64 r7.2) (ext (v := .int .i64 r7.2) rfl rfl) rfl ?_
     refine rs (v := v8) (av (v := v8) rfl) rfl ?_
     refine rs (v := .int .i64 r7.2) (av (v := .int .i64 r7.2) rfl) rfl ?_
     refine rn ?_
     refine qn ?_
     refine Wseq ?_
     refine Wseqm [28, 29, 30, 31, 32, 33] [33] (fun vs w' => ∃ j10 : Bool, vs = [.bool j10] ∧ law22_BatchActs.J1 N x0 x1 r7 j10 = some r ∧ Ctx w' (PtO S_batch_Batch.hp v8 r7.1 :: P1 :: Fr)) ?_ ?_
     · refine Wreg ?_
       refine rs (v := .int .i64 x0) (mv (v := .int .i64 x0) rfl) rfl ?_
       refine rs (v := .bool (decide (x0 < 1))) (lt' rfl rfl) rfl ?_
       refine rs (v := .bool (decide (x0 < 1))) (mv (v := .bool (decide (x0 < 1))) rfl) rfl ?_
       cases hb11 : (decide (x0 < 1))
       · replace hp := gneg hp (of_decide_eq_false hb11)
         refine rs (v := .int .i64 x0) (mv (v := .int .i64 x0) rfl) rfl ?_
         refine rs (v := .bool (decide (x0 > 256))) (gt' rfl rfl) rfl ?_
         refine rs (v := .bool (decide (x0 > 256))) (pkf (v := .bool (decide (x0 > 256))) rfl rfl) rfl ?_
         refine rn ?_
         refine qn ?_
         exact ⟨⟨decide (x0 > 256), rfl, hp, hc⟩, (kl rfl kb)⟩
       · replace hp := gpos hp (of_decide_eq_true hb11)
         refine r0 rfl ?_
         refine r0 rfl ?_
         refine rs (v := .bool true) (pkt (v := .bool true) rfl rfl) rfl ?_
         refine rn ?_
         refine qn ?_
         exact ⟨⟨true, rfl, hp, hc⟩, (kl rfl kb)⟩
     · clear hp hc; intro vs u w12 hJ
       obtain ⟨j10, rfl, hp, hc⟩ := hJ
       unfold law22_BatchActs.J1 at hp
       cases hb13 : j10
       · replace hp := gneg hp (by rw [hb13]; exact Bool.false_ne_true)
         subst hb13
         refine Wcf rfl ?_
         refine Wskip ?_
         refine qn ?_
         refine Wseq ?_
         refine Wseq ?_
         refine Wreg ?_
         refine rs (v := v8) (mv (v := v8) rfl) rfl ?_
         cases hb14 : r7.1
         · replace hp := optN hp hb14
           rw [hb14] at hc
           replace hc := Ctx.ptoN hc; obtain ⟨u16, hc⟩ := hc; subst u16
           refine rs (v := .bool true) (ept Try.underlying24 rfl rfl) rfl ?_
           refine rs (v := .bool true) (mv (v := .bool true) rfl) rfl ?_
           refine r0 rfl ?_
           refine r0 rfl ?_
           refine rs (v := .bool true) (pkt (v := .bool true) rfl rfl) rfl ?_
           refine rn ?_
           refine qn ?_
           refine Wct rfl ?_
           refine Wseq ?_
           refine Wreg ?_
           refine rs (v := .bool false) (av (v := .bool false) rfl) rfl ?_
           refine rn ?_
           refine qn ?_
           refine Wret ?_
           refine qr ?_
           injection hp with hp; subst hp
           refine f1 (v := .bool false) Try.results5 Try.ntmps5 rfl ?_
           exact ⟨_, rfl, k _ hc⟩
         · rename_i y15
           replace hp := optS hp hb14
           rw [hb14] at hc
           replace hc := Ctx.ptoS hc; obtain ⟨b17, u18, hc⟩ := hc; subst u18
           refine rs (v := .bool false) (epf Try.underlying24 rfl rfl) rfl ?_
           refine rs (v := .bool false) (mv (v := .bool false) rfl) rfl ?_
           refine rs (v := .int .i64 r7.2) (mv (v := .int .i64 r7.2) rfl) rfl ?_
           refine rs (v := .bool (decide (r7.2 ≠ 0))) (ned rfl rfl) rfl ?_
           refine rs (v := .bool (decide (r7.2 ≠ 0))) (pkf (v := .bool (decide (r7.2 ≠ 0))) rfl rfl) rfl ?_
           refine rn ?_
           refine qn ?_
           cases hb19 : (decide (r7.2 ≠ 0))
           · replace hp := gneg hp (of_decide_eq_false hb19)
             refine Wcf rfl ?_
             refine Wskip ?_
             refine qn ?_
             refine Wseq ?_
             refine Wreg ?_
             refine rs (v := .int .i64 x0) (mv (v := .int .i64 x0) rfl) rfl ?_
             refine rs (v := .agg #[.int .i64 x0, .slice none 0 0]) (bd_42_0 rfl) rfl ?_
             refine rsE (Ctx.boxOp (cs := [.int .i64 x0, .slice none 0 0]) (v := .agg #[.int .i64 x0, .slice none 0 0]) hc rfl rfl) rfl ?_
             clear hc; rintro _ w22 ⟨b20, rfl, hc⟩
             refine rs (v := .pointer (some ⟨b20, 0, none⟩)) (av (v := .pointer (some ⟨b20, 0, none⟩)) rfl) rfl ?_
             refine rn ?_
             refine qn ?_
             refine Wseq ?_
             refine Wseq ?_
             refine Wreg ?_
             refine rs (v := .int .i64 0) (av (v := .int .i64 0) rfl) rfl ?_
             refine rn ?_
             refine qn ?_
             refine Wblk ?_
             replace hc := hc.nilOwn S_ref22_Member.pr 57
             replace hc := hc.pull 1 rfl rfl
             replace hc : Ctx w22 (S_ref22_Batch.hp b20 (⟨x0, []⟩ : S_ref22_Batch) :: S_batch_Batch.hp b17 y15 :: P1 :: Fr) := Ctx.exB _ _ (Ctx.sepB hc)
             refine Wloop [4, 8, 9, 10, 11, 12, 13, 14, 49, 50, 51, 52, 53, 54, 55, 56, 57, 58, 59, 60, 61, 62, 63, 64, 65, 66, 67, 68, 69, 70, 71, 72, 73, 74, 75, 76, 77, 78, 79, 80, 81, 82, 83, 84, 85, 86, 87, 88, 89, 90, 91, 92, 93, 94, 95, 96, 97, 98, 99, 100, 101, 102, 103, 104, 105, 106, 107, 108, 109, 110, 111, 112, 113, 114, 115, 116, 117, 118, 119, 120, 121, 122, 123, 124, 125, 126, 127, 128, 129, 130, 131, 132, 133, 134, 135, 136, 137, 138, 139, 140, 141, 142, 143, 144, 145, 146, 147, 148, 149, 150, 151, 152, 153, 154, 155, 156, 157, 158, 159, 160, 161, 162, 163, 164, 165, 166, 167, 168, 169, 170, 171, 172, 173] [8] (fun m vs w' => ∃ j23 : S_ref22_Batch, ∃ j24 : S_batch_Batch, ∃ j25 : Int, vs = [.int .i64 j25] ∧ law22_BatchActs.L2 N x0 x1 m j23 j24 j25 = some r ∧ Ctx w' (S_ref22_Batch.hp b20 j23 :: S_batch_Batch.hp b17 j24 :: P1 :: Fr)) N ?_ ?_
             · exact ⟨(⟨x0, []⟩ : S_ref22_Batch), y15, 0, rfl, hp, hc⟩
             · clear hp hc; intro m vs u w26 hJ
               obtain ⟨j23, j24, j25, rfl, hp, hc⟩ := hJ
               rcases m with _ | m2
               · cases (show none = some r from hp)
               rw [law22_BatchActs.L2] at hp
               refine Wseq ?_
               refine Wseq ?_
               refine Wreg ?_
               refine rs (v := .int .i64 j25) (mv (v := .int .i64 j25) rfl) rfl ?_
               refine rs (v := .slice ax1 x1.length qx1) (mv (v := .slice ax1 x1.length qx1) rfl) rfl ?_
               refine rs (v := .int .i64 ((x1.length : Nat) : Int)) (ln rfl Try.underlying38) rfl ?_
               refine rs (v := .bool (decide (j25 < ((x1.length : Nat) : Int)))) (lt' rfl rfl) rfl ?_
               refine rn ?_
               refine qn ?_
               cases hb27 : (decide (j25 < ((x1.length : Nat) : Int)))
               · replace hp := gneg hp (of_decide_eq_false hb27)
                 refine Wcf rfl ?_
                 refine Wexit ?_
                 refine qx ?_
                 refine qx ?_
                 refine be ?_
                 refine qn ?_
                 refine Wseq ?_
                 refine Wreg ?_
                 refine rs (v := .bool true) (av (v := .bool true) rfl) rfl ?_
                 refine rn ?_
                 refine qn ?_
                 refine Wret ?_
                 replace hc := hc.rem 1 rfl rfl
                 replace hc := hc.rem 0 rfl rfl
                 injection hp with hp; subst hp
                 refine f1 (v := .bool true) Try.results5 Try.ntmps5 rfl ?_
                 exact ⟨_, rfl, k _ hc⟩
               · replace hp := gpos hp (of_decide_eq_true hb27)
                 refine Wct rfl ?_
                 refine Wskip ?_
                 refine qn ?_
                 refine Wseq ?_
                 refine Wblk ?_
                 refine Wseq ?_
                 refine Wreg ?_
                 refine rs (v := .slice ax1 x1.length qx1) (mv (v := .slice ax1 x1.length qx1) rfl) rfl ?_
                 refine rs (v := .int .i64 j25) (mv (v := .int .i64 j25) rfl) rfl ?_
                 replace hp := bind_some hp; obtain ⟨y28, hy28, hp⟩ := hp
                 obtain ⟨b31, o32, u33, hi29, hi30⟩ := Ctx.rdAt hc (k := 2) rfl rfl hrd1 hy28
                 subst u33
                 refine rs (v := .pointer (some ⟨b31, o32 + (j25).toNat * 3, none⟩)) (ixx rfl rfl Try.underlying38 Try.sizeOf44 hi29 hi30 rfl) rfl ?_
                 replace hc := Ctx.rdCell hc (k := 2) rfl rfl hrd1 hy28; obtain ⟨cs34, hc, hcell35⟩ := hc
                 replace hc := S_law22_Act.op hc; obtain ⟨a37, q38, u36, hc⟩ := hc; subst u36
                 refine rs (v := .agg #[.int .i64 y28.Kind, .int .i64 y28.N, .slice a37 y28.Ids.length q38]) (ldg rfl Try.isAgg44 Try.sizeOf44 rfl (elCells hcell35 0 (vs := [.int .i64 y28.Kind, .int .i64 y28.N, .slice a37 y28.Ids.length q38]) rfl)) rfl ?_
                 refine rsE (Ctx.allocOp (cs := [.int .i64 0, .int .i64 0, .slice none 0 0]) hc Try.zeroValue44 rfl) rfl ?_
                 clear hc; rintro _ w41 ⟨b39, rfl, hc⟩
                 refine ruE (A := fun w' => Ctx w' (B b39 [.int .i64 y28.Kind, .int .i64 y28.N, .slice a37 y28.Ids.length q38] 44 :: Hold (pRo (pInt .i64)) [.slice a37 y28.Ids.length q38] y28.Ids :: S_ref22_Batch.hp b20 j23 :: S_batch_Batch.hp b17 j24 :: P1 :: Fr)) (Ctx.putAgg hc (k := 0) rfl rfl (vs := [.int .i64 y28.Kind, .int .i64 y28.N, .slice a37 y28.Ids.length q38]) rfl rfl rfl Try.sizeOf44 rfl rfl rfl) rfl ?_
                 clear hc; rintro w42 hc
                 refine rn ?_
                 refine qn ?_
                 refine Wseq ?_
                 refine Wseq ?_
                 refine Wreg ?_
                 refine rs (v := .pointer (some ⟨b39, 2, none⟩)) (fax 2 rfl Try.underlying44 rfl Try.sizeOf22 rfl rfl rfl) rfl ?_
                 refine rs (v := .slice a37 y28.Ids.length q38) (ld rfl Try.isAgg22 (Ctx.cell hc (k := 0) rfl rfl rfl)) rfl ?_
                 refine rs (v := .int .i64 ((y28.Ids.length : Nat) : Int)) (ln rfl Try.underlying22) rfl ?_
                 refine rs (v := .bool (decide (((y28.Ids.length : Nat) : Int) > 30))) (gt' rfl rfl) rfl ?_
                 refine rn ?_
                 refine qn ?_
                 cases hb43 : (decide (((y28.Ids.length : Nat) : Int) > 30))
                 · replace hp := gneg hp (of_decide_eq_false hb43)
                   refine Wcf rfl ?_
                   refine Wskip ?_
                   refine qn ?_
                   refine Wseq ?_
                   refine Wreg ?_
                   refine rs (v := .int .i64 0) (av (v := .int .i64 0) rfl) rfl ?_
                   refine rn ?_
                   refine qn ?_
                   refine Wseqm [4, 10, 11, 12, 63, 64, 65, 66, 67, 68, 69, 70, 71, 72, 73, 74, 75, 76, 77, 78, 79, 80, 81, 82, 83, 84, 85, 86, 87, 88, 89, 90, 91, 92, 93, 94, 95, 96, 97, 98, 99, 100, 101, 102, 103, 104, 105, 106, 107, 108, 109, 110, 111, 112, 113, 114, 115, 116, 117, 118, 119, 120, 121, 122, 123, 124, 125, 126, 127, 128, 129, 130, 131, 132, 133, 134, 135, 136, 137, 138, 139, 140, 141, 142] [] (fun vs w' => ∃ j44 : S_ref22_Batch, ∃ j45 : S_batch_Batch, vs = [] ∧ law22_BatchActs.J3 N x0 j25 (law22_BatchActs.L2 N x0 x1 m2) j44 j45 = some r ∧ Ctx w' (S_ref22_Batch.hp b20 j44 :: S_batch_Batch.hp b17 j45 :: P1 :: Fr)) ?_ ?_
                   · refine Wseq ?_
                     refine Wreg ?_
                     refine rs (v := .pointer (some ⟨b39, 0, none⟩)) (fax 0 rfl Try.underlying44 rfl Try.sizeOf3 rfl rfl rfl) rfl ?_
                     refine rs (v := .int .i64 y28.Kind) (ld rfl Try.isAgg3 (Ctx.cell hc (k := 0) rfl rfl rfl)) rfl ?_
                     refine rn ?_
                     refine qn ?_
                     refine Wblk ?_
                     refine Wseq ?_
                     refine Wreg ?_
                     refine rs (v := .bool (decide (y28.Kind = 0))) (eqd rfl rfl) rfl ?_
                     refine rs (v := .bool (decide (y28.Kind = 0))) (av (v := .bool (decide (y28.Kind = 0))) rfl) rfl ?_
                     refine rn ?_
                     refine qn ?_
                     cases hb46 : (decide (y28.Kind = 0))
                     · replace hp := gneg hp (of_decide_eq_false hb46)
                       refine Wcf rfl ?_
                       refine Wseq ?_
                       refine Wreg ?_
                       refine rs (v := .bool (decide (y28.Kind = 1))) (eqd rfl rfl) rfl ?_
                       refine rs (v := .bool (decide (y28.Kind = 1))) (av (v := .bool (decide (y28.Kind = 1))) rfl) rfl ?_
                       refine rn ?_
                       refine qn ?_
                       cases hb47 : (decide (y28.Kind = 1))
                       · replace hp := gneg hp (of_decide_eq_false hb47)
                         refine Wcf rfl ?_
                         refine Wseq ?_
                         refine Wreg ?_
                         refine rs (v := .bool (decide (y28.Kind = 2))) (eqd rfl rfl) rfl ?_
                         refine rs (v := .bool (decide (y28.Kind = 2))) (av (v := .bool (decide (y28.Kind = 2))) rfl) rfl ?_
                         refine rn ?_
                         refine qn ?_
                         cases hb48 : (decide (y28.Kind = 2))
                         · replace hp := gneg hp (of_decide_eq_false hb48)
                           refine Wcf rfl ?_
                           refine Wseq ?_
                           refine Wreg ?_
                           refine rs (v := .bool (decide (y28.Kind = 3))) (eqd rfl rfl) rfl ?_
                           refine rs (v := .bool (decide (y28.Kind = 3))) (av (v := .bool (decide (y28.Kind = 3))) rfl) rfl ?_
                           refine rn ?_
                           refine qn ?_
                           cases hb49 : (decide (y28.Kind = 3))
                           · replace hp := gneg hp (of_decide_eq_false hb49)
                             refine Wcf rfl ?_
                             refine Wseq ?_
                             refine Wreg ?_
                             refine rs (v := .bool (decide (y28.Kind = 4))) (eqd rfl rfl) rfl ?_
                             refine rs (v := .bool (decide (y28.Kind = 4))) (av (v := .bool (decide (y28.Kind = 4))) rfl) rfl ?_
                             refine rn ?_
                             refine qn ?_
                             cases hb50 : (decide (y28.Kind = 4))
                             · replace hp := gneg hp (of_decide_eq_false hb50)
                               refine Wcf rfl ?_
                               refine Wskip ?_
                               refine bn ?_
                               refine qn ?_
                               replace hc := hc.rem 1 rfl rfl
                               replace hc := hc.rem 0 rfl rfl
                               exact ⟨⟨j23, j24, rfl, hp, hc⟩, (kl rfl kb)⟩
                             · replace hp := gpos hp (of_decide_eq_true hb50)
                               refine Wct rfl ?_
                               refine Wseq ?_
                               refine Wreg ?_
                               refine rs (v := .pointer (some ⟨b17, 0, none⟩)) (mv (v := .pointer (some ⟨b17, 0, none⟩)) rfl) rfl ?_
                               replace hp := bind_some hp; obtain ⟨r51, hr51, hp⟩ := hp
                               replace hc := hc.pull 3 rfl rfl
                               refine rc (cl Try.call21 rfl rfl) rfl ?_
                               refine batch_Batch_Rewind_any hc hr51 ?_
                               clear hc; intro w52 hc
                               refine rn ?_
                               refine qn ?_
                               refine Wreg ?_
                               refine rs (v := .pointer (some ⟨b20, 0, none⟩)) (mv (v := .pointer (some ⟨b20, 0, none⟩)) rfl) rfl ?_
                               replace hp := bind_some hp; obtain ⟨r53, hr53, hp⟩ := hp
                               replace hc := hc.pull 3 rfl rfl
                               refine rc (cl Try.call22 rfl rfl) rfl ?_
                               refine ref22_Batch_Rewind_any hc hr53 ?_
                               clear hc; intro w54 hc
                               refine rn ?_
                               refine bn ?_
                               refine qn ?_
                               replace hc := hc.rem 3 rfl rfl
                               replace hc := hc.rem 2 rfl rfl
                               exact ⟨⟨r53, r51, rfl, hp, hc⟩, (kl rfl kb)⟩
                           · replace hp := gpos hp (of_decide_eq_true hb49)
                             refine Wct rfl ?_
                             refine Wseq ?_
                             refine Wseq ?_
                             refine Wreg ?_
                             refine rs (v := .int .i64 0) (av (v := .int .i64 0) rfl) rfl ?_
                             refine rn ?_
                             refine qn ?_
                             refine Wblk ?_
                             refine Wloop [10, 12, 115, 116, 117, 118, 119, 120, 121, 122, 123, 124, 125, 126, 127, 128, 129, 130] [10, 12] (fun m vs w' => ∃ j55 : S_ref22_Batch, ∃ j56 : Int, ∃ j57 : Int, vs = [.int .i64 j56, .int .i64 j57] ∧ law22_BatchActs.L4 N x0 j24 j25 y28 (law22_BatchActs.L2 N x0 x1 m2) m j55 j56 j57 = some r ∧ Ctx w' (B b39 [.int .i64 y28.Kind, .int .i64 y28.N, .slice a37 y28.Ids.length q38] 44 :: Hold (pRo (pInt .i64)) [.slice a37 y28.Ids.length q38] y28.Ids :: S_ref22_Batch.hp b20 j55 :: S_batch_Batch.hp b17 j24 :: P1 :: Fr)) N ?_ ?_
                             · exact ⟨j23, 0, 0, rfl, hp, hc⟩
                             · clear hp hc; intro m vs u w58 hJ
                               obtain ⟨j55, j56, j57, rfl, hp, hc⟩ := hJ
                               rcases m with _ | m4
                               · cases (show none = some r from hp)
                               rw [law22_BatchActs.L4] at hp
                               refine Wseq ?_
                               refine Wseq ?_
                               refine Wreg ?_
                               refine rs (v := .int .i64 j57) (mv (v := .int .i64 j57) rfl) rfl ?_
                               refine rs (v := .pointer (some ⟨b39, 2, none⟩)) (fax 2 rfl Try.underlying44 rfl Try.sizeOf22 rfl rfl rfl) rfl ?_
                               refine rs (v := .slice a37 y28.Ids.length q38) (ld rfl Try.isAgg22 (Ctx.cell hc (k := 0) rfl rfl rfl)) rfl ?_
                               refine rs (v := .int .i64 ((y28.Ids.length : Nat) : Int)) (ln rfl Try.underlying22) rfl ?_
                               refine rs (v := .bool (decide (j57 < ((y28.Ids.length : Nat) : Int)))) (lt' rfl rfl) rfl ?_
                               refine rn ?_
                               refine qn ?_
                               cases hb59 : (decide (j57 < ((y28.Ids.length : Nat) : Int)))
                               · replace hp := gneg hp (of_decide_eq_false hb59)
                                 refine Wcf rfl ?_
                                 refine Wexit ?_
                                 refine qx ?_
                                 refine qx ?_
                                 refine be ?_
                                 refine qn ?_
                                 refine Wseq ?_
                                 refine Wreg ?_
                                 refine rs (v := .pointer (some ⟨b17, 0, none⟩)) (mv (v := .pointer (some ⟨b17, 0, none⟩)) rfl) rfl ?_
                                 refine rs (v := .pointer (some ⟨b39, 2, none⟩)) (fax 2 rfl Try.underlying44 rfl Try.sizeOf22 rfl rfl rfl) rfl ?_
                                 refine rs (v := .slice a37 y28.Ids.length q38) (ld rfl Try.isAgg22 (Ctx.cell hc (k := 0) rfl rfl rfl)) rfl ?_
                                 replace hc := hc.dup (k := 1) rfl rfl
                                 replace hp := bind_some hp; obtain ⟨r60, hr60, hp⟩ := hp
                                 replace hc := hc.pull 4 rfl rfl
                                 refine rc (cl Try.call12 rfl rfl) rfl ?_
                                 refine batch_Batch_Back_any reads_ro hc hr60 ?_
                                 clear hc; intro w61 hc
                                 refine rs (v := .int .i64 j56) (mv (v := .int .i64 j56) rfl) rfl ?_
                                 refine rs (v := .bool (decide (r60.1 ≠ j56))) (ned rfl rfl) rfl ?_
                                 refine rn ?_
                                 refine qn ?_
                                 cases hb62 : (decide (r60.1 ≠ j56))
                                 · replace hp := gneg hp (of_decide_eq_false hb62)
                                   refine Wcf rfl ?_
                                   refine Wskip ?_
                                   refine bn ?_
                                   refine qn ?_
                                   replace hc := hc.rem 3 rfl rfl
                                   replace hc := hc.rem 2 rfl rfl
                                   replace hc := hc.rem 1 rfl rfl
                                   replace hc := hc.pull 2 rfl rfl
                                   replace hc := hc.pull 1 rfl rfl
                                   replace hc := hc.pull 2 rfl rfl
                                   exact ⟨⟨j55, r60.2, rfl, hp, hc⟩, (kl rfl (km rfl (kl rfl kb)))⟩
                                 · replace hp := gpos hp (of_decide_eq_true hb62)
                                   refine Wct rfl ?_
                                   refine Wseq ?_
                                   refine Wreg ?_
                                   refine rs (v := .bool false) (av (v := .bool false) rfl) rfl ?_
                                   refine rn ?_
                                   refine qn ?_
                                   refine Wret ?_
                                   refine br ?_
                                   refine qr ?_
                                   refine br ?_
                                   refine qr ?_
                                   refine qr ?_
                                   refine br ?_
                                   refine qr ?_
                                   replace hc := hc.rem 4 rfl rfl
                                   replace hc := hc.rem 3 rfl rfl
                                   replace hc := hc.rem 2 rfl rfl
                                   replace hc := hc.rem 1 rfl rfl
                                   replace hc := hc.rem 0 rfl rfl
                                   injection hp with hp; subst hp
                                   refine f1 (v := .bool false) Try.results5 Try.ntmps5 rfl ?_
                                   exact ⟨_, rfl, k _ hc⟩
                               · replace hp := gpos hp (of_decide_eq_true hb59)
                                 refine Wct rfl ?_
                                 refine Wskip ?_
                                 refine qn ?_
                                 refine Wseq ?_
                                 refine Wblk ?_
                                 refine Wreg ?_
                                 refine rs (v := .int .i64 j56) (mv (v := .int .i64 j56) rfl) rfl ?_
                                 refine rs (v := .pointer (some ⟨b20, 0, none⟩)) (mv (v := .pointer (some ⟨b20, 0, none⟩)) rfl) rfl ?_
                                 refine rs (v := .pointer (some ⟨b39, 2, none⟩)) (fax 2 rfl Try.underlying44 rfl Try.sizeOf22 rfl rfl rfl) rfl ?_
                                 refine rs (v := .slice a37 y28.Ids.length q38) (ld rfl Try.isAgg22 (Ctx.cell hc (k := 0) rfl rfl rfl)) rfl ?_
                                 refine rs (v := .int .i64 j57) (mv (v := .int .i64 j57) rfl) rfl ?_
                                 replace hp := bind_some hp; obtain ⟨y63, hy63, hp⟩ := hp
                                 obtain ⟨b66, o67, u68, hi64, hi65⟩ := Ctx.rdAt hc (k := 1) rfl rfl reads_ro hy63
                                 subst u68
                                 refine rs (v := .pointer (some ⟨b66, o67 + (j57).toNat * 1, none⟩)) (ixx rfl rfl Try.underlying22 Try.sizeOf3 hi64 hi65 rfl) rfl ?_
                                 replace hc := Ctx.rdCell hc (k := 1) rfl rfl reads_ro hy63; obtain ⟨cs69, hc, hcell70⟩ := hc
                                 replace hc := Ctx.holdC hc; obtain ⟨u71, hc⟩ := hc; subst u71
                                 refine rs (v := .int .i64 y63) (ld rfl Try.isAgg3 (hcell70 0 _ rfl)) rfl ?_
                                 replace hp := bind_some hp; obtain ⟨r72, hr72, hp⟩ := hp
                                 replace hc := hc.pull 2 rfl rfl
                                 refine rc (cl Try.call20 rfl rfl) rfl ?_
                                 refine ref22_Batch_Back_any hc hr72 ?_
                                 clear hc; intro w73 hc
                                 refine rs (v := .int .i64 (IntKind.i64.wrap (j56 + r72.1))) (adw rfl rfl) rfl ?_
                                 replace hp := bind_some hp; obtain ⟨e74, he74, hp⟩ := hp
                                 injection he74 with he74
                                 refine rs (v := .int .i64 e74) (av (v := .int .i64 e74) (by rw [← he74]; rfl)) rfl ?_
                                 refine rn ?_
                                 refine bn ?_
                                 refine qn ?_
                                 refine Wreg ?_
                                 refine rs (v := .int .i64 j57) (mv (v := .int .i64 j57) rfl) rfl ?_
                                 refine rs (v := .int .i64 (IntKind.i64.wrap (j57 + 1))) (adw rfl rfl) rfl ?_
                                 refine rs (v := .int .i64 (IntKind.i64.wrap (j57 + 1))) (av (v := .int .i64 (IntKind.i64.wrap (j57 + 1))) rfl) rfl ?_
                                 refine rn ?_
                                 refine qn ?_
                                 replace hc := hc.pull 4 rfl rfl
                                 replace hc := hc.pull 4 rfl rfl
                                 replace hc := hc.pull 2 rfl rfl
                                 replace hc := hc.pull 4 rfl rfl
                                 replace hc := hc.pull 4 rfl rfl
                                 exact ⟨m4, Nat.lt_succ_self _, ⟨r72.2, e74, (IntKind.i64.wrap (j57 + 1)), rfl, hp, hc⟩, (kl rfl k0)⟩
                         · replace hp := gpos hp (of_decide_eq_true hb48)
                           refine Wct rfl ?_
                           refine Wseq ?_
                           replace hc := hc.drew
                           have hF : ∀ j, free [0, 0, 2, 7, 0, 0, 32, 96, 255, 511, 1023] 0 j = true → (fun j w' => (j = 6 → w'.cell? ⟨b39, 1, none⟩ = some (.int .i64 y28.N)) ∧ True) j (World.drew w42) := fun j hj => ⟨fun _ => hc.cell (k := 0) rfl rfl rfl, trivial⟩
                           refine Wdrw (fun j w' => (j = 6 → w'.cell? ⟨b39, 1, none⟩ = some (.int .i64 y28.N)) ∧ True) [0, 0, 2, 7, 0, 0, 32, 96, 255, 511, 1023] 0 4 rfl (by kernel_rfl) (hF) ?_
                           generalize hw : World.drew w42 = w75 at *
                           clear hw
                           refine ds (v := .pointer (some ⟨b17, 0, none⟩)) rfl (fun w' hF => mv (v := .pointer (some ⟨b17, 0, none⟩)) rfl) rfl ?_
                           refine ds (v := .pointer (some ⟨b39, 1, none⟩)) rfl (fun w' hF => fax 1 rfl Try.underlying44 rfl Try.sizeOf3 rfl rfl rfl) rfl ?_
                           refine dx (v := .int .i64 y28.N) rfl (ld rfl Try.isAgg3 (Ctx.cell hc (k := 0) rfl rfl rfl)) rfl rfl ?_
                           replace hp := bind_some hp; obtain ⟨r76, hr76, hp⟩ := hp
                           replace hc := hc.pull 3 rfl rfl
                           refine dc (cl Try.call10 rfl rfl) rfl rfl ?_
                           refine batch_Batch_Pick_any hc hr76 ?_
                           clear hc; intro a77 n78 q79 w80 hc
                           obtain ⟨u81, _⟩ := Ctx.rdLen hc (k := 0) rfl rfl reads_own; subst u81
                           refine ⟨fun j hj hb => ⟨fun _ => hc.cell (k := 2) rfl rfl rfl, trivial⟩, ?_⟩
                           refine ds (v := .pointer (some ⟨b20, 0, none⟩)) rfl (fun w' hF => mv (v := .pointer (some ⟨b20, 0, none⟩)) rfl) rfl ?_
                           refine ds (v := .pointer (some ⟨b39, 1, none⟩)) rfl (fun w' hF => fax 1 rfl Try.underlying44 rfl Try.sizeOf3 rfl rfl rfl) rfl ?_
                           refine ds (v := .int .i64 y28.N) rfl (fun w' hF => ld rfl Try.isAgg3 ((hF.1 rfl))) rfl ?_
                           refine ds (v := .int .i64 (min y28.N 1000)) rfl (fun w' hF => bmn rfl rfl Try.underlying3) rfl ?_
                           replace hp := bind_some hp; obtain ⟨r82, hr82, hp⟩ := hp
                           replace hc := hc.pull 4 rfl rfl
                           refine dc (cl Try.call19 rfl rfl) rfl rfl ?_
                           refine ref22_Batch_Pick_any hc hr82 ?_
                           clear hc; intro a83 n84 q85 w86 hc
                           obtain ⟨u87, _⟩ := Ctx.rdLen hc (k := 0) rfl rfl reads_own; subst u87
                           refine ⟨fun j hj hb => ⟨fun e => (by subst e; exact absurd hj (by decide)), trivial⟩, ?_⟩
                           replace hp := bind_some hp; obtain ⟨r88, hr88, hp⟩ := hp
                           replace hc := hc.pull 2 rfl rfl
                           refine dc (cl Try.call14 rfl rfl) rfl rfl ?_
                           refine ref09_Ints_any reads_own reads_own hc hr88 ?_
                           clear hc; intro w89 hc
                           refine ⟨fun j hj hb => ⟨fun e => (by subst e; exact absurd hj (by decide)), trivial⟩, ?_⟩
                           cases hb90 : r88
                           · replace hp := gneg hp (by rw [hb90]; exact Bool.false_ne_true)
                             subst hb90
                             refine ds (v := .bool true) rfl (fun w' hF => ntf rfl) rfl ?_
                             refine dn ?_
                             refine qn ?_
                             refine Wct rfl ?_
                             refine Wseq ?_
                             refine Wreg ?_
                             refine rs (v := .bool false) (av (v := .bool false) rfl) rfl ?_
                             refine rn ?_
                             refine qn ?_
                             refine Wret ?_
                             refine br ?_
                             refine qr ?_
                             refine br ?_
                             refine qr ?_
                             refine qr ?_
                             refine br ?_
                             refine qr ?_
                             replace hc := hc.rem 5 rfl rfl
                             replace hc := hc.rem 4 rfl rfl
                             replace hc := hc.rem 3 rfl rfl
                             replace hc := hc.rem 2 rfl rfl
                             replace hc := hc.rem 1 rfl rfl
                             replace hc := hc.rem 0 rfl rfl
                             injection hp with hp; subst hp
                             refine f1 (v := .bool false) Try.results5 Try.ntmps5 rfl ?_
                             exact ⟨_, rfl, k _ hc⟩
                           · replace hp := gpos hp hb90
                             subst hb90
                             refine ds (v := .bool false) rfl (fun w' hF => ntt rfl) rfl ?_
                             refine dn ?_
                             refine qn ?_
                             refine Wcf rfl ?_
                             refine Wskip ?_
                             refine bn ?_
                             refine qn ?_
                             replace hc := hc.rem 5 rfl rfl
                             replace hc := hc.rem 4 rfl rfl
                             replace hc := hc.rem 1 rfl rfl
                             replace hc := hc.rem 0 rfl rfl
                             exact ⟨⟨r82.2, r76.2, rfl, hp, hc⟩, (kl rfl kb)⟩
                       · replace hp := gpos hp (of_decide_eq_true hb47)
                         refine Wct rfl ?_
                         refine Wseq ?_
                         refine Wseq ?_
                         refine Wreg ?_
                         refine rs (v := .int .i64 0) (av (v := .int .i64 0) rfl) rfl ?_
                         refine rn ?_
                         refine qn ?_
                         refine Wblk ?_
                         refine Wloop [10, 11, 78, 79, 80, 81, 82, 83, 84, 85, 86, 87, 88, 89, 90, 91, 92, 93] [10, 11] (fun m vs w' => ∃ j91 : S_ref22_Batch, ∃ j92 : Int, ∃ j93 : Int, vs = [.int .i64 j92, .int .i64 j93] ∧ law22_BatchActs.L5 N x0 j24 j25 y28 (law22_BatchActs.L2 N x0 x1 m2) m j91 j92 j93 = some r ∧ Ctx w' (B b39 [.int .i64 y28.Kind, .int .i64 y28.N, .slice a37 y28.Ids.length q38] 44 :: Hold (pRo (pInt .i64)) [.slice a37 y28.Ids.length q38] y28.Ids :: S_ref22_Batch.hp b20 j91 :: S_batch_Batch.hp b17 j24 :: P1 :: Fr)) N ?_ ?_
                         · exact ⟨j23, 0, 0, rfl, hp, hc⟩
                         · clear hp hc; intro m vs u w94 hJ
                           obtain ⟨j91, j92, j93, rfl, hp, hc⟩ := hJ
                           rcases m with _ | m5
                           · cases (show none = some r from hp)
                           rw [law22_BatchActs.L5] at hp
                           refine Wseq ?_
                           refine Wseq ?_
                           refine Wreg ?_
                           refine rs (v := .int .i64 j93) (mv (v := .int .i64 j93) rfl) rfl ?_
                           refine rs (v := .pointer (some ⟨b39, 2, none⟩)) (fax 2 rfl Try.underlying44 rfl Try.sizeOf22 rfl rfl rfl) rfl ?_
                           refine rs (v := .slice a37 y28.Ids.length q38) (ld rfl Try.isAgg22 (Ctx.cell hc (k := 0) rfl rfl rfl)) rfl ?_
                           refine rs (v := .int .i64 ((y28.Ids.length : Nat) : Int)) (ln rfl Try.underlying22) rfl ?_
                           refine rs (v := .bool (decide (j93 < ((y28.Ids.length : Nat) : Int)))) (lt' rfl rfl) rfl ?_
                           refine rn ?_
                           refine qn ?_
                           cases hb95 : (decide (j93 < ((y28.Ids.length : Nat) : Int)))
                           · replace hp := gneg hp (of_decide_eq_false hb95)
                             refine Wcf rfl ?_
                             refine Wexit ?_
                             refine qx ?_
                             refine qx ?_
                             refine be ?_
                             refine qn ?_
                             refine Wseq ?_
                             refine Wreg ?_
                             refine rs (v := .pointer (some ⟨b17, 0, none⟩)) (mv (v := .pointer (some ⟨b17, 0, none⟩)) rfl) rfl ?_
                             refine rs (v := .pointer (some ⟨b39, 2, none⟩)) (fax 2 rfl Try.underlying44 rfl Try.sizeOf22 rfl rfl rfl) rfl ?_
                             refine rs (v := .slice a37 y28.Ids.length q38) (ld rfl Try.isAgg22 (Ctx.cell hc (k := 0) rfl rfl rfl)) rfl ?_
                             replace hc := hc.dup (k := 1) rfl rfl
                             replace hp := bind_some hp; obtain ⟨r96, hr96, hp⟩ := hp
                             replace hc := hc.pull 4 rfl rfl
                             refine rc (cl Try.call15 rfl rfl) rfl ?_
                             refine batch_Batch_Remove_any reads_ro hc hr96 ?_
                             clear hc; intro w97 hc
                             refine rs (v := .int .i64 j92) (mv (v := .int .i64 j92) rfl) rfl ?_
                             refine rs (v := .bool (decide (r96.1 ≠ j92))) (ned rfl rfl) rfl ?_
                             refine rn ?_
                             refine qn ?_
                             cases hb98 : (decide (r96.1 ≠ j92))
                             · replace hp := gneg hp (of_decide_eq_false hb98)
                               refine Wcf rfl ?_
                               refine Wskip ?_
                               refine bn ?_
                               refine qn ?_
                               replace hc := hc.rem 3 rfl rfl
                               replace hc := hc.rem 2 rfl rfl
                               replace hc := hc.rem 1 rfl rfl
                               replace hc := hc.pull 2 rfl rfl
                               replace hc := hc.pull 1 rfl rfl
                               replace hc := hc.pull 2 rfl rfl
                               exact ⟨⟨j91, r96.2, rfl, hp, hc⟩, (kl rfl (km rfl (kl rfl kb)))⟩
                             · replace hp := gpos hp (of_decide_eq_true hb98)
                               refine Wct rfl ?_
                               refine Wseq ?_
                               refine Wreg ?_
                               refine rs (v := .bool false) (av (v := .bool false) rfl) rfl ?_
                               refine rn ?_
                               refine qn ?_
                               refine Wret ?_
                               refine br ?_
                               refine qr ?_
                               refine br ?_
                               refine qr ?_
                               refine qr ?_
                               refine br ?_
                               refine qr ?_
                               replace hc := hc.rem 4 rfl rfl
                               replace hc := hc.rem 3 rfl rfl
                               replace hc := hc.rem 2 rfl rfl
                               replace hc := hc.rem 1 rfl rfl
                               replace hc := hc.rem 0 rfl rfl
                               injection hp with hp; subst hp
                               refine f1 (v := .bool false) Try.results5 Try.ntmps5 rfl ?_
                               exact ⟨_, rfl, k _ hc⟩
                           · replace hp := gpos hp (of_decide_eq_true hb95)
                             refine Wct rfl ?_
                             refine Wskip ?_
                             refine qn ?_
                             refine Wseq ?_
                             refine Wblk ?_
                             refine Wreg ?_
                             refine rs (v := .int .i64 j92) (mv (v := .int .i64 j92) rfl) rfl ?_
                             refine rs (v := .pointer (some ⟨b20, 0, none⟩)) (mv (v := .pointer (some ⟨b20, 0, none⟩)) rfl) rfl ?_
                             refine rs (v := .pointer (some ⟨b39, 2, none⟩)) (fax 2 rfl Try.underlying44 rfl Try.sizeOf22 rfl rfl rfl) rfl ?_
                             refine rs (v := .slice a37 y28.Ids.length q38) (ld rfl Try.isAgg22 (Ctx.cell hc (k := 0) rfl rfl rfl)) rfl ?_
                             refine rs (v := .int .i64 j93) (mv (v := .int .i64 j93) rfl) rfl ?_
                             replace hp := bind_some hp; obtain ⟨y99, hy99, hp⟩ := hp
                             obtain ⟨b102, o103, u104, hi100, hi101⟩ := Ctx.rdAt hc (k := 1) rfl rfl reads_ro hy99
                             subst u104
                             refine rs (v := .pointer (some ⟨b102, o103 + (j93).toNat * 1, none⟩)) (ixx rfl rfl Try.underlying22 Try.sizeOf3 hi100 hi101 rfl) rfl ?_
                             replace hc := Ctx.rdCell hc (k := 1) rfl rfl reads_ro hy99; obtain ⟨cs105, hc, hcell106⟩ := hc
                             replace hc := Ctx.holdC hc; obtain ⟨u107, hc⟩ := hc; subst u107
                             refine rs (v := .int .i64 y99) (ld rfl Try.isAgg3 (hcell106 0 _ rfl)) rfl ?_
                             replace hp := bind_some hp; obtain ⟨r108, hr108, hp⟩ := hp
                             replace hc := hc.pull 2 rfl rfl
                             refine rc (cl Try.call18 rfl rfl) rfl ?_
                             refine ref22_Batch_Remove_any hc hr108 ?_
                             clear hc; intro w109 hc
                             refine rs (v := .int .i64 (IntKind.i64.wrap (j92 + r108.1))) (adw rfl rfl) rfl ?_
                             replace hp := bind_some hp; obtain ⟨e110, he110, hp⟩ := hp
                             injection he110 with he110
                             refine rs (v := .int .i64 e110) (av (v := .int .i64 e110) (by rw [← he110]; rfl)) rfl ?_
                             refine rn ?_
                             refine bn ?_
                             refine qn ?_
                             refine Wreg ?_
                             refine rs (v := .int .i64 j93) (mv (v := .int .i64 j93) rfl) rfl ?_
                             refine rs (v := .int .i64 (IntKind.i64.wrap (j93 + 1))) (adw rfl rfl) rfl ?_
                             refine rs (v := .int .i64 (IntKind.i64.wrap (j93 + 1))) (av (v := .int .i64 (IntKind.i64.wrap (j93 + 1))) rfl) rfl ?_
                             refine rn ?_
                             refine qn ?_
                             replace hc := hc.pull 4 rfl rfl
                             replace hc := hc.pull 4 rfl rfl
                             replace hc := hc.pull 2 rfl rfl
                             replace hc := hc.pull 4 rfl rfl
                             replace hc := hc.pull 4 rfl rfl
                             exact ⟨m5, Nat.lt_succ_self _, ⟨r108.2, e110, (IntKind.i64.wrap (j93 + 1)), rfl, hp, hc⟩, (kl rfl k0)⟩
                     · replace hp := gpos hp (of_decide_eq_true hb46)
                       refine Wct rfl ?_
                       refine Wseq ?_
                       replace hc := hc.drew
                       have hF : ∀ j, free [0, 0, 2, 7, 0, 0, 32, 127, 255] 0 j = true → (fun j w' => (j = 6 → w'.cell? ⟨b39, 2, none⟩ = some (.slice a37 y28.Ids.length q38)) ∧ True) j (World.drew w42) := fun j hj => ⟨fun _ => hc.cell (k := 0) rfl rfl rfl, trivial⟩
                       refine Wdrw (fun j w' => (j = 6 → w'.cell? ⟨b39, 2, none⟩ = some (.slice a37 y28.Ids.length q38)) ∧ True) [0, 0, 2, 7, 0, 0, 32, 127, 255] 0 4 rfl (by kernel_rfl) (hF) ?_
                       generalize hw : World.drew w42 = w111 at *
                       clear hw
                       refine ds (v := .pointer (some ⟨b17, 0, none⟩)) rfl (fun w' hF => mv (v := .pointer (some ⟨b17, 0, none⟩)) rfl) rfl ?_
                       refine ds (v := .pointer (some ⟨b39, 2, none⟩)) rfl (fun w' hF => fax 2 rfl Try.underlying44 rfl Try.sizeOf22 rfl rfl rfl) rfl ?_
                       refine dx (v := .slice a37 y28.Ids.length q38) rfl (ld rfl Try.isAgg22 (Ctx.cell hc (k := 0) rfl rfl rfl)) rfl rfl ?_
                       replace hc := hc.dup (k := 1) rfl rfl
                       replace hp := bind_some hp; obtain ⟨r112, hr112, hp⟩ := hp
                       replace hc := hc.pull 4 rfl rfl
                       refine dc (cl Try.call8 rfl rfl) rfl rfl ?_
                       refine batch_Batch_Add_any reads_ro hc hr112 ?_
                       clear hc; intro w113 hc
                       refine ⟨fun j hj hb => ⟨fun _ => hc.cell (k := 2) rfl rfl rfl, trivial⟩, ?_⟩
                       refine ds (v := .pointer (some ⟨b20, 0, none⟩)) rfl (fun w' hF => mv (v := .pointer (some ⟨b20, 0, none⟩)) rfl) rfl ?_
                       refine ds (v := .pointer (some ⟨b39, 2, none⟩)) rfl (fun w' hF => fax 2 rfl Try.underlying44 rfl Try.sizeOf22 rfl rfl rfl) rfl ?_
                       refine ds (v := .slice a37 y28.Ids.length q38) rfl (fun w' hF => ld rfl Try.isAgg22 ((hF.1 rfl))) rfl ?_
                       replace hc := hc.dup (k := 3) rfl rfl
                       replace hp := bind_some hp; obtain ⟨r114, hr114, hp⟩ := hp
                       replace hc := hc.pull 5 rfl rfl
                       refine dc (cl Try.call17 rfl rfl) rfl rfl ?_
                       refine ref22_Batch_Add_any reads_ro hc hr114 ?_
                       clear hc; intro w115 hc
                       refine ⟨fun j hj hb => ⟨fun e => (by subst e; exact absurd hj (by decide)), trivial⟩, ?_⟩
                       refine ds (v := .bool (decide (r112.1 ≠ r114.1))) rfl (fun w' hF => ned rfl rfl) rfl ?_
                       refine dn ?_
                       refine qn ?_
                       cases hb116 : (decide (r112.1 ≠ r114.1))
                       · replace hp := gneg hp (of_decide_eq_false hb116)
                         refine Wcf rfl ?_
                         refine Wskip ?_
                         refine bn ?_
                         refine qn ?_
                         replace hc := hc.rem 5 rfl rfl
                         replace hc := hc.rem 4 rfl rfl
                         replace hc := hc.rem 3 rfl rfl
                         replace hc := hc.rem 1 rfl rfl
                         exact ⟨⟨r114.2, r112.2, rfl, hp, hc⟩, (kl rfl kb)⟩
                       · replace hp := gpos hp (of_decide_eq_true hb116)
                         refine Wct rfl ?_
                         refine Wseq ?_
                         refine Wreg ?_
                         refine rs (v := .bool false) (av (v := .bool false) rfl) rfl ?_
                         refine rn ?_
                         refine qn ?_
                         refine Wret ?_
                         refine br ?_
                         refine qr ?_
                         refine br ?_
                         refine qr ?_
                         refine qr ?_
                         refine br ?_
                         refine qr ?_
                         replace hc := hc.rem 5 rfl rfl
                         replace hc := hc.rem 4 rfl rfl
                         replace hc := hc.rem 3 rfl rfl
                         replace hc := hc.rem 2 rfl rfl
                         replace hc := hc.rem 1 rfl rfl
                         replace hc := hc.rem 0 rfl rfl
                         injection hp with hp; subst hp
                         refine f1 (v := .bool false) Try.results5 Try.ntmps5 rfl ?_
                         exact ⟨_, rfl, k _ hc⟩
                   · clear hp hc; intro vs u w117 hJ
                     obtain ⟨j44, j45, rfl, hp, hc⟩ := hJ
                     unfold law22_BatchActs.J3 at hp
                     refine Wseq ?_
                     refine Wreg ?_
                     refine rs (v := .pointer (some ⟨b20, 0, none⟩)) (mv (v := .pointer (some ⟨b20, 0, none⟩)) rfl) rfl ?_
                     replace hp := bind_some hp; obtain ⟨r118, hr118, hp⟩ := hp
                     refine rc (cl Try.call23 rfl rfl) rfl ?_
                     refine ref22_Batch_Lists_any hc hr118 ?_
                     clear hc; intro a119 n120 q121 a122 n123 q124 w125 hc
                     obtain ⟨u126, _⟩ := Ctx.rdLen hc (k := 0) rfl rfl reads_own; subst u126
                     obtain ⟨u127, _⟩ := Ctx.rdLen hc (k := 1) rfl rfl reads_own; subst u127
                     refine rs (v := .tuple #[.slice a119 r118.1.length q121, .slice a122 r118.2.length q124]) (mv (v := .tuple #[.slice a119 r118.1.length q121, .slice a122 r118.2.length q124]) rfl) rfl ?_
                     refine rs (v := .slice a119 r118.1.length q121) (ext (v := .slice a119 r118.1.length q121) rfl rfl) rfl ?_
                     refine rs (v := .slice a122 r118.2.length q124) (ext (v := .slice a122 r118.2.length q124) rfl rfl) rfl ?_
                     refine rs (v := .slice a119 r118.1.length q121) (av (v := .slice a119 r118.1.length q121) rfl) rfl ?_
                     refine rs (v := .slice a122 r118.2.length q124) (av (v := .slice a122 r118.2.length q124) rfl) rfl ?_
                     refine rn ?_
                     refine qn ?_
                     refine Wseq ?_
                     refine Wreg ?_
                     refine rs (v := .pointer (some ⟨b17, 0, none⟩)) (mv (v := .pointer (some ⟨b17, 0, none⟩)) rfl) rfl ?_
                     replace hp := bind_some hp; obtain ⟨r128, hr128, hp⟩ := hp
                     replace hc := hc.pull 3 rfl rfl
                     refine rc (cl Try.call13 rfl rfl) rfl ?_
                     refine batch_Batch_Members_any hc hr128 ?_
                     clear hc; intro a129 n130 q131 w132 hc
                     obtain ⟨u133, _⟩ := Ctx.rdLen hc (k := 0) rfl rfl reads_own; subst u133
                     refine rs (v := .slice a119 r118.1.length q121) (mv (v := .slice a119 r118.1.length q121) rfl) rfl ?_
                     replace hp := bind_some hp; obtain ⟨r134, hr134, hp⟩ := hp
                     replace hc := hc.pull 2 rfl rfl
                     replace hc := hc.pull 1 rfl rfl
                     refine rc (cl Try.call14 rfl rfl) rfl ?_
                     refine ref09_Ints_any reads_own reads_own hc hr134 ?_
                     clear hc; intro w135 hc
                     cases hb136 : r134
                     · replace hp := gneg hp (by rw [hb136]; exact Bool.false_ne_true)
                       subst hb136
                       refine rs (v := .bool true) (ntf rfl) rfl ?_
                       refine rs (v := .bool true) (mv (v := .bool true) rfl) rfl ?_
                       refine r0 rfl ?_
                       refine r0 rfl ?_
                       refine r0 rfl ?_
                       refine r0 rfl ?_
                       refine r0 rfl ?_
                       refine rs (v := .bool true) (pkt (v := .bool true) rfl rfl) rfl ?_
                       refine rs (v := .bool true) (mv (v := .bool true) rfl) rfl ?_
                       refine r0 rfl ?_
                       refine r0 rfl ?_
                       refine r0 rfl ?_
                       refine r0 rfl ?_
                       refine r0 rfl ?_
                       refine r0 rfl ?_
                       refine r0 rfl ?_
                       refine rs (v := .bool true) (pkt (v := .bool true) rfl rfl) rfl ?_
                       refine rs (v := .bool true) (mv (v := .bool true) rfl) rfl ?_
                       refine r0 rfl ?_
                       refine r0 rfl ?_
                       refine r0 rfl ?_
                       refine rs (v := .bool true) (pkt (v := .bool true) rfl rfl) rfl ?_
                       refine rn ?_
                       refine qn ?_
                       refine Wct rfl ?_
                       refine Wseq ?_
                       refine Wreg ?_
                       refine rs (v := .bool false) (av (v := .bool false) rfl) rfl ?_
                       refine rn ?_
                       refine qn ?_
                       refine Wret ?_
                       refine br ?_
                       refine qr ?_
                       refine qr ?_
                       refine br ?_
                       refine qr ?_
                       replace hc := hc.rem 4 rfl rfl
                       replace hc := hc.rem 3 rfl rfl
                       replace hc := hc.rem 2 rfl rfl
                       replace hc := hc.rem 1 rfl rfl
                       replace hc := hc.rem 0 rfl rfl
                       injection hp with hp; subst hp
                       refine f1 (v := .bool false) Try.results5 Try.ntmps5 rfl ?_
                       exact ⟨_, rfl, k _ hc⟩
                     · replace hp := gpos hp hb136
                       subst hb136
                       refine rs (v := .bool false) (ntt rfl) rfl ?_
                       refine rs (v := .bool false) (mv (v := .bool false) rfl) rfl ?_
                       refine rs (v := .pointer (some ⟨b17, 0, none⟩)) (mv (v := .pointer (some ⟨b17, 0, none⟩)) rfl) rfl ?_
                       replace hp := bind_some hp; obtain ⟨r137, hr137, hp⟩ := hp
                       replace hc := hc.pull 2 rfl rfl
                       refine rc (cl Try.call9 rfl rfl) rfl ?_
                       refine batch_Batch_In_any hc hr137 ?_
                       clear hc; intro a138 n139 q140 w141 hc
                       obtain ⟨u142, _⟩ := Ctx.rdLen hc (k := 0) rfl rfl reads_own; subst u142
                       refine rs (v := .slice a122 r118.2.length q124) (mv (v := .slice a122 r118.2.length q124) rfl) rfl ?_
                       replace hp := bind_some hp; obtain ⟨r143, hr143, hp⟩ := hp
                       replace hc := hc.pull 4 rfl rfl
                       replace hc := hc.pull 1 rfl rfl
                       refine rc (cl Try.call14 rfl rfl) rfl ?_
                       refine ref09_Ints_any reads_own reads_own hc hr143 ?_
                       clear hc; intro w144 hc
                       cases hb145 : r143
                       · replace hp := gneg hp (by rw [hb145]; exact Bool.false_ne_true)
                         subst hb145
                         refine rs (v := .bool true) (ntf rfl) rfl ?_
                         refine rs (v := .bool true) (pkf (v := .bool true) rfl rfl) rfl ?_
                         refine rs (v := .bool true) (mv (v := .bool true) rfl) rfl ?_
                         refine r0 rfl ?_
                         refine r0 rfl ?_
                         refine r0 rfl ?_
                         refine r0 rfl ?_
                         refine r0 rfl ?_
                         refine r0 rfl ?_
                         refine r0 rfl ?_
                         refine rs (v := .bool true) (pkt (v := .bool true) rfl rfl) rfl ?_
                         refine rs (v := .bool true) (mv (v := .bool true) rfl) rfl ?_
                         refine r0 rfl ?_
                         refine r0 rfl ?_
                         refine r0 rfl ?_
                         refine rs (v := .bool true) (pkt (v := .bool true) rfl rfl) rfl ?_
                         refine rn ?_
                         refine qn ?_
                         refine Wct rfl ?_
                         refine Wseq ?_
                         refine Wreg ?_
                         refine rs (v := .bool false) (av (v := .bool false) rfl) rfl ?_
                         refine rn ?_
                         refine qn ?_
                         refine Wret ?_
                         refine br ?_
                         refine qr ?_
                         refine qr ?_
                         refine br ?_
                         refine qr ?_
                         replace hc := hc.rem 5 rfl rfl
                         replace hc := hc.rem 4 rfl rfl
                         replace hc := hc.rem 3 rfl rfl
                         replace hc := hc.rem 2 rfl rfl
                         replace hc := hc.rem 1 rfl rfl
                         replace hc := hc.rem 0 rfl rfl
                         injection hp with hp; subst hp
                         refine f1 (v := .bool false) Try.results5 Try.ntmps5 rfl ?_
                         exact ⟨_, rfl, k _ hc⟩
                       · replace hp := gpos hp hb145
                         subst hb145
                         refine rs (v := .bool false) (ntt rfl) rfl ?_
                         refine rs (v := .bool false) (pkf (v := .bool false) rfl rfl) rfl ?_
                         refine rs (v := .bool false) (mv (v := .bool false) rfl) rfl ?_
                         refine rs (v := .pointer (some ⟨b17, 0, none⟩)) (mv (v := .pointer (some ⟨b17, 0, none⟩)) rfl) rfl ?_
                         replace hp := bind_some hp; obtain ⟨r146, hr146, hp⟩ := hp
                         replace hc := hc.pull 2 rfl rfl
                         refine rc (cl Try.call16 rfl rfl) rfl ?_
                         refine batch_Batch_Room_any hc hr146 ?_
                         clear hc; intro w147 hc
                         refine rs (v := .int .i64 x0) (mv (v := .int .i64 x0) rfl) rfl ?_
                         refine rs (v := .slice a119 r118.1.length q121) (mv (v := .slice a119 r118.1.length q121) rfl) rfl ?_
                         refine rs (v := .int .i64 ((r118.1.length : Nat) : Int)) (ln rfl Try.underlying22) rfl ?_
                         refine rs (v := .int .i64 (IntKind.i64.wrap (x0 - ((r118.1.length : Nat) : Int)))) (sbw rfl rfl) rfl ?_
                         refine rs (v := .bool (decide (r146 ≠ (IntKind.i64.wrap (x0 - ((r118.1.length : Nat) : Int)))))) (ned rfl rfl) rfl ?_
                         refine rs (v := .bool (decide (r146 ≠ (IntKind.i64.wrap (x0 - ((r118.1.length : Nat) : Int)))))) (pkf (v := .bool (decide (r146 ≠ (IntKind.i64.wrap (x0 - ((r118.1.length : Nat) : Int)))))) rfl rfl) rfl ?_
                         refine rs (v := .bool (decide (r146 ≠ (IntKind.i64.wrap (x0 - ((r118.1.length : Nat) : Int)))))) (mv (v := .bool (decide (r146 ≠ (IntKind.i64.wrap (x0 - ((r118.1.length : Nat) : Int)))))) rfl) rfl ?_
                         cases hb148 : (decide (r146 ≠ (IntKind.i64.wrap (x0 - ((r118.1.length : Nat) : Int)))))
                         · replace hp := gneg hp (of_decide_eq_false hb148)
                           refine rs (v := .pointer (some ⟨b17, 0, none⟩)) (mv (v := .pointer (some ⟨b17, 0, none⟩)) rfl) rfl ?_
                           replace hp := bind_some hp; obtain ⟨r149, hr149, hp⟩ := hp
                           refine rc (cl Try.call16 rfl rfl) rfl ?_
                           refine batch_Batch_Room_any hc hr149 ?_
                           clear hc; intro w150 hc
                           refine rs (v := .bool (decide (r149 < 0))) (lt' rfl rfl) rfl ?_
                           refine rs (v := .bool (decide (r149 < 0))) (pkf (v := .bool (decide (r149 < 0))) rfl rfl) rfl ?_
                           refine rn ?_
                           refine qn ?_
                           cases hb151 : (decide (r149 < 0))
                           · replace hp := gneg hp (of_decide_eq_false hb151)
                             refine Wcf rfl ?_
                             refine Wskip ?_
                             refine bn ?_
                             refine qn ?_
                             refine Wreg ?_
                             refine rs (v := .int .i64 j25) (mv (v := .int .i64 j25) rfl) rfl ?_
                             refine rs (v := .int .i64 (IntKind.i64.wrap (j25 + 1))) (adw rfl rfl) rfl ?_
                             refine rs (v := .int .i64 (IntKind.i64.wrap (j25 + 1))) (av (v := .int .i64 (IntKind.i64.wrap (j25 + 1))) rfl) rfl ?_
                             refine rn ?_
                             refine qn ?_
                             replace hc := hc.rem 4 rfl rfl
                             replace hc := hc.rem 3 rfl rfl
                             replace hc := hc.rem 2 rfl rfl
                             replace hc := hc.rem 1 rfl rfl
                             replace hc := hc.pull 2 rfl rfl
                             replace hc := hc.pull 1 rfl rfl
                             replace hc := hc.pull 2 rfl rfl
                             exact ⟨m2, Nat.lt_succ_self _, ⟨j44, j45, (IntKind.i64.wrap (j25 + 1)), rfl, hp, hc⟩, (kl rfl (km rfl (kl rfl k0)))⟩
                           · replace hp := gpos hp (of_decide_eq_true hb151)
                             refine Wct rfl ?_
                             refine Wseq ?_
                             refine Wreg ?_
                             refine rs (v := .bool false) (av (v := .bool false) rfl) rfl ?_
                             refine rn ?_
                             refine qn ?_
                             refine Wret ?_
                             refine br ?_
                             refine qr ?_
                             refine qr ?_
                             refine br ?_
                             refine qr ?_
                             replace hc := hc.rem 5 rfl rfl
                             replace hc := hc.rem 4 rfl rfl
                             replace hc := hc.rem 3 rfl rfl
                             replace hc := hc.rem 2 rfl rfl
                             replace hc := hc.rem 1 rfl rfl
                             replace hc := hc.rem 0 rfl rfl
                             injection hp with hp; subst hp
                             refine f1 (v := .bool false) Try.results5 Try.ntmps5 rfl ?_
                             exact ⟨_, rfl, k _ hc⟩
                         · replace hp := gpos hp (of_decide_eq_true hb148)
                           refine r0 rfl ?_
                           refine r0 rfl ?_
                           refine r0 rfl ?_
                           refine rs (v := .bool true) (pkt (v := .bool true) rfl rfl) rfl ?_
                           refine rn ?_
                           refine qn ?_
                           refine Wct rfl ?_
                           refine Wseq ?_
                           refine Wreg ?_
                           refine rs (v := .bool false) (av (v := .bool false) rfl) rfl ?_
                           refine rn ?_
                           refine qn ?_
                           refine Wret ?_
                           refine br ?_
                           refine qr ?_
                           refine qr ?_
                           refine br ?_
                           refine qr ?_
                           replace hc := hc.rem 5 rfl rfl
                           replace hc := hc.rem 4 rfl rfl
                           replace hc := hc.rem 3 rfl rfl
                           replace hc := hc.rem 2 rfl rfl
                           replace hc := hc.rem 1 rfl rfl
                           replace hc := hc.rem 0 rfl rfl
                           injection hp with hp; subst hp
                           refine f1 (v := .bool false) Try.results5 Try.ntmps5 rfl ?_
                           exact ⟨_, rfl, k _ hc⟩
                 · replace hp := gpos hp (of_decide_eq_true hb43)
                   refine Wct rfl ?_
                   refine Wseq ?_
                   refine Wreg ?_
                   refine rs (v := .bool true) (av (v := .bool true) rfl) rfl ?_
                   refine rn ?_
                   refine qn ?_
                   refine Wret ?_
                   refine qr ?_
                   refine br ?_
                   refine qr ?_
                   refine qr ?_
                   refine br ?_
                   refine qr ?_
                   replace hc := hc.rem 3 rfl rfl
                   replace hc := hc.rem 2 rfl rfl
                   replace hc := hc.rem 1 rfl rfl
                   replace hc := hc.rem 0 rfl rfl
                   injection hp with hp; subst hp
                   refine f1 (v := .bool true) Try.results5 Try.ntmps5 rfl ?_
                   exact ⟨_, rfl, k _ hc⟩
           · replace hp := gpos hp (of_decide_eq_true hb19)
             refine Wct rfl ?_
             refine Wseq ?_
             refine Wreg ?_
             refine rs (v := .bool false) (av (v := .bool false) rfl) rfl ?_
             refine rn ?_
             refine qn ?_
             refine Wret ?_
             refine qr ?_
             replace hc := hc.rem 0 rfl rfl
             injection hp with hp; subst hp
             refine f1 (v := .bool false) Try.results5 Try.ntmps5 rfl ?_
             exact ⟨_, rfl, k _ hc⟩
       · replace hp := gpos hp hb13
         subst hb13
         refine Wct rfl ?_
         refine Wseq ?_
         refine Wreg ?_
         refine rs (v := v8) (mv (v := v8) rfl) rfl ?_
         cases hb152 : r7.1
         · replace hp := optN hp hb152
           rw [hb152] at hc
           replace hc := Ctx.ptoN hc; obtain ⟨u154, hc⟩ := hc; subst u154
           refine rs (v := .bool true) (ept Try.underlying24 rfl rfl) rfl ?_
           refine rs (v := .bool true) (mv (v := .bool true) rfl) rfl ?_
           refine rs (v := .int .i64 r7.2) (mv (v := .int .i64 r7.2) rfl) rfl ?_
           refine rs (v := .bool (decide (r7.2 = 2))) (eqd rfl rfl) rfl ?_
           refine rs (v := .bool (decide (r7.2 = 2))) (pkt (v := .bool (decide (r7.2 = 2))) rfl rfl) rfl ?_
           refine rs (v := .bool (decide (r7.2 = 2))) (av (v := .bool (decide (r7.2 = 2))) rfl) rfl ?_
           refine rn ?_
           refine qn ?_
           refine Wret ?_
           refine qr ?_
           injection hp with hp; subst hp
           refine f1 (v := .bool (decide (r7.2 = 2))) Try.results5 Try.ntmps5 rfl ?_
           exact ⟨_, rfl, k _ hc⟩
         · rename_i y153
           replace hp := optS hp hb152
           rw [hb152] at hc
           replace hc := Ctx.ptoS hc; obtain ⟨b155, u156, hc⟩ := hc; subst u156
           refine rs (v := .bool false) (epf Try.underlying24 rfl rfl) rfl ?_
           refine rs (v := .bool false) (mv (v := .bool false) rfl) rfl ?_
           refine r0 rfl ?_
           refine r0 rfl ?_
           refine rs (v := .bool false) (pkf (v := .bool false) rfl rfl) rfl ?_
           refine rs (v := .bool false) (av (v := .bool false) rfl) rfl ?_
           refine rn ?_
           refine qn ?_
           refine Wret ?_
           refine qr ?_
           replace hc := hc.rem 0 rfl rfl
           injection hp with hp; subst hp
           refine f1 (v := .bool false) Try.results5 Try.ntmps5 rfl ?_
           exact ⟨_, rfl, k _ hc⟩
   · replace hp := gpos hp (of_decide_eq_true hb6)
     refine Wct rfl ?_
     refine Wseq ?_
     refine Wreg ?_
     replace hp := bind_some hp; obtain ⟨r157, hr157, hp⟩ := hp
     refine rc (cl Try.call6 rfl rfl) rfl ?_
     refine law22_awake_any hc hr157 ?_
     clear hc; intro w158 hc
     refine rs (v := .bool r157) (av (v := .bool r157) rfl) rfl ?_
     refine rn ?_
     refine qn ?_
     refine Wret ?_
     refine qr ?_
     injection hp with hp; subst hp
     refine f1 (v := .bool r157) Try.results5 Try.ntmps5 rfl ?_
     exact ⟨_, rfl, k _ hc⟩

-- FN peloton/pelotonlaw22.BatchKeeps
def law22_BatchKeeps.J3 (j79 : Int) (k2 : (List Int) → Int → Option (Bool)) (j97 : (List Int)) : Option (Bool) :=
  k2 j97 (IntKind.i64.wrap (j79 + 1))

def law22_BatchKeeps.J4 (z60 : (List Int)) (j75 : (List Int)) (j79 : Int) (k2 : (List Int) → Int → Option (Bool)) (j101 : Bool) : Option (Bool) :=
  if j101 = true then
    (idx z60 j79).bind fun y116 =>
    (app j75 ([y116])).bind fun z127 =>
    law22_BatchKeeps.J3 j79 k2 z127
  else
    law22_BatchKeeps.J3 j79 k2 j75

def law22_BatchKeeps.L2 (N : Nat) (x2 : (List Int)) (r28 : ((List Int) × S_batch_Batch)) (z60 : (List Int)) : Nat → (List Int) → Int → Option (Bool)
  | 0, _, _ => none
  | m2 + 1, j75, j79 =>
    if j79 < ((z60.length : Nat) : Int) then
      (idx z60 j79).bind fun y102 =>
      (law22_has N x2 y102).bind fun r111 =>
      if r111 = true then
        law22_BatchKeeps.J4 z60 j75 j79 (law22_BatchKeeps.L2 N x2 r28 z60 m2) false
      else
        law22_BatchKeeps.J4 z60 j75 j79 (law22_BatchKeeps.L2 N x2 r28 z60 m2) true
    else
      (batch_Batch_Remove N r28.2 x2).bind fun r83 =>
      if r83.1 = (IntKind.i64.wrap (((z60.length : Nat) : Int) - ((j75.length : Nat) : Int))) then
        (batch_Batch_Members r83.2).bind fun r86 =>
        (ref09_Ints N r86 j75).bind fun r92 =>
        if r92 = true then
          (batch_Batch_Room r83.2).bind fun r95 =>
          some (decide (r95 = (IntKind.i64.wrap (40 - ((j75.length : Nat) : Int)))))
        else
          some false
      else
        some false

def law22_BatchKeeps.J5 (N : Nat) (x0 : (List Int)) (j17 : S_batch_Batch) (j22 : Int) (k1 : S_batch_Batch → (List Int) → Int → Option (Bool)) (j135 : (List Int)) (j139 : Int) : Option (Bool) :=
  (idx x0 j22).bind fun y171 =>
  (batch_Batch_Add N j17 ([y171])).bind fun r182 =>
  if r182.1 ≠ j139 then
    some false
  else
    k1 r182.2 j135 (IntKind.i64.wrap (j22 + 1))

def law22_BatchKeeps.L1 (N : Nat) (x0 : (List Int)) (x1 : Int) (x2 : (List Int)) : Nat → S_batch_Batch → (List Int) → Int → Option (Bool)
  | 0, _, _, _ => none
  | m1 + 1, j17, j18, j22 =>
    if j22 < ((x0.length : Nat) : Int) then
      (idx x0 j22).bind fun y140 =>
      (law22_has N j18 y140).bind fun r149 =>
      if r149 = true then
        law22_BatchKeeps.J5 N x0 j17 j22 (law22_BatchKeeps.L1 N x0 x1 x2 m1) j18 210
      else
        (idx x0 j22).bind fun y152 =>
        (app j18 ([y152])).bind fun z163 =>
        law22_BatchKeeps.J5 N x0 j17 j22 (law22_BatchKeeps.L1 N x0 x1 x2 m1) z163 0
    else
      (some (max (min x1 ((j18.length : Nat) : Int)) 0)).bind fun e26 =>
      (batch_Batch_Pick N j17 x1).bind fun r28 =>
      chk (0 ≤ e26 ∧ e26 ≤ ((j18.length : Nat) : Int)) <|
      (ref09_Ints N r28.1 (j18.take (e26).toNat)).bind fun r38 =>
      if r38 = true then
        chk (0 ≤ e26 ∧ e26 ≤ ((j18.length : Nat) : Int) ∧ ((j18.length : Nat) : Int) ≤ ((j18.length : Nat) : Int)) <|
        (app ([]) ((j18.take (((j18.length : Nat) : Int)).toNat).drop (e26).toNat)).bind fun z50 =>
        chk (0 ≤ e26 ∧ e26 ≤ ((j18.length : Nat) : Int)) <|
        (app z50 (j18.take (e26).toNat)).bind fun z60 =>
        (batch_Batch_Members r28.2).bind fun r66 =>
        (ref09_Ints N r66 z60).bind fun r72 =>
        if r72 = true then
          law22_BatchKeeps.L2 N x2 r28 z60 N ([]) 0
        else
          some false
      else
        some false

def law22_BatchKeeps (N : Nat) (x0 : (List Int)) (x1 : Int) (x2 : (List Int)) : Option (Bool) :=
  (law22_awake N).bind fun r1 =>
  if r1 = true then
    if ((x0.length : Nat) : Int) > 40 then
      (law22_awake N).bind fun r187 =>
      some r187
    else
      if ((x2.length : Nat) : Int) > 20 then
        (law22_awake N).bind fun r185 =>
        some r185
      else
        (batch_New 40).bind fun r8 =>
        optc r8.1 (
          some false) fun y12 =>
        if r8.2 ≠ 0 then
          some false
        else
          law22_BatchKeeps.L1 N x0 x1 x2 N y12 ([]) 0
  else
    (law22_awake N).bind fun r4 =>
    some r4

set_option maxHeartbeats 8000000 in
theorem law22_BatchKeeps_any {N : Nat} {x0 : (List Int)} {ax0 : Option Addr} {nx0 : Nat} {qx0 : Nat} {P0 : HP} {x1 : Int} {x2 : (List Int)} {ax2 : Option Addr} {nx2 : Nat} {qx2 : Nat} {P2 : HP} {Fr : List HP} {w : World} {r : Bool} {K : Value → World → Prop} (hrd0 : Reads P0 (pInt .i64) (.slice ax0 nx0 qx0) x0) (hrd2 : Reads P2 (pInt .i64) (.slice ax2 nx2 qx2) x2) (hc : Ctx w (P0 :: P2 :: Fr)) (hp : law22_BatchKeeps N x0 x1 x2 = some r)
    (k : ∀ w', Ctx w' (P0 :: P2 :: Fr) → K (.bool r) w') : Calls Try.prog 4 #[.slice ax0 nx0 qx0, .int .i64 x1, .slice ax2 nx2 qx2] w (Ret K) := by
 unfold law22_BatchKeeps at hp
 refine Center (args := [.slice ax0 nx0 qx0, .int .i64 x1, .slice ax2 nx2 qx2]) (l := [(0, .slice ax0 nx0 qx0), (1, .int .i64 x1), (2, .slice ax2 nx2 qx2)]) Try.func4 Try.ntmps4 rfl rfl rfl ?_
 obtain ⟨hn0, _⟩ := Ctx.rdLen hc (k := 0) rfl rfl hrd0; subst hn0
 obtain ⟨hn2, _⟩ := Ctx.rdLen hc (k := 1) rfl rfl hrd2; subst hn2
 refine Wseq ?_
 refine Wreg ?_
 refine rs (v := .bool false) (av (v := .bool false) rfl) rfl ?_
 refine rn ?_
 refine qn ?_
 refine Wseq ?_
 refine Wseq ?_
 refine Wreg ?_
 replace hp := bind_some hp; obtain ⟨r1, hr1, hp⟩ := hp
 refine rc (cl Try.call6 rfl rfl) rfl ?_
 refine law22_awake_any hc hr1 ?_
 clear hc; intro w2 hc
 cases hb3 : r1
 · replace hp := gneg hp (by rw [hb3]; exact Bool.false_ne_true)
   subst hb3
   refine rs (v := .bool true) (ntf rfl) rfl ?_
   refine rs (v := .bool true) (mv (v := .bool true) rfl) rfl ?_
   refine r0 rfl ?_
   refine r0 rfl ?_
   refine r0 rfl ?_
   refine rs (v := .bool true) (pkt (v := .bool true) rfl rfl) rfl ?_
   refine rs (v := .bool true) (mv (v := .bool true) rfl) rfl ?_
   refine r0 rfl ?_
   refine r0 rfl ?_
   refine r0 rfl ?_
   refine rs (v := .bool true) (pkt (v := .bool true) rfl rfl) rfl ?_
   refine rn ?_
   refine qn ?_
   refine Wct rfl ?_
   refine Wseq ?_
   refine Wreg ?_
   replace hp := bind_some hp; obtain ⟨r4, hr4, hp⟩ := hp
   refine rc (cl Try.call6 rfl rfl) rfl ?_
   refine law22_awake_any hc hr4 ?_
   clear hc; intro w5 hc
   refine rs (v := .bool r4) (av (v := .bool r4) rfl) rfl ?_
   refine rn ?_
   refine qn ?_
   refine Wret ?_
   refine qr ?_
   injection hp with hp; subst hp
   refine f1 (v := .bool r4) Try.results4 Try.ntmps4 rfl ?_
   exact ⟨_, rfl, k _ hc⟩
 · replace hp := gpos hp hb3
   subst hb3
   refine rs (v := .bool false) (ntt rfl) rfl ?_
   refine rs (v := .bool false) (mv (v := .bool false) rfl) rfl ?_
   refine rs (v := .slice ax0 x0.length qx0) (mv (v := .slice ax0 x0.length qx0) rfl) rfl ?_
   refine rs (v := .int .i64 ((x0.length : Nat) : Int)) (ln rfl Try.underlying22) rfl ?_
   refine rs (v := .bool (decide (((x0.length : Nat) : Int) > 40))) (gt' rfl rfl) rfl ?_
   refine rs (v := .bool (decide (((x0.length : Nat) : Int) > 40))) (pkf (v := .bool (decide (((x0.length : Nat) : Int) > 40))) rfl rfl) rfl ?_
   refine rs (v := .bool (decide (((x0.length : Nat) : Int) > 40))) (mv (v := .bool (decide (((x0.length : Nat) : Int) > 40))) rfl) rfl ?_
   cases hb6 : (decide (((x0.length : Nat) : Int) > 40))
   · replace hp := gneg hp (of_decide_eq_false hb6)
     refine rs (v := .slice ax2 x2.length qx2) (mv (v := .slice ax2 x2.length qx2) rfl) rfl ?_
     refine rs (v := .int .i64 ((x2.length : Nat) : Int)) (ln rfl Try.underlying22) rfl ?_
     refine rs (v := .bool (decide (((x2.length : Nat) : Int) > 20))) (gt' rfl rfl) rfl ?_
     refine rs (v := .bool (decide (((x2.length : Nat) : Int) > 20))) (pkf (v := .bool (decide (((x2.length : Nat) : Int) > 20))) rfl rfl) rfl ?_
     refine rn ?_
     refine qn ?_
     cases hb7 : (decide (((x2.length : Nat) : Int) > 20))
     · replace hp := gneg hp (of_decide_eq_false hb7)
       refine Wcf rfl ?_
       refine Wskip ?_
       refine qn ?_
       refine Wseq ?_
       refine Wreg ?_
       replace hp := bind_some hp; obtain ⟨r8, hr8, hp⟩ := hp
       refine rc (cl Try.call7 rfl rfl) rfl ?_
       refine batch_New_any hc hr8 ?_
       clear hc; intro v9 w10 hc
       refine rs (v := .tuple #[v9, .int .i64 r8.2]) (mv (v := .tuple #[v9, .int .i64 r8.2]) rfl) rfl ?_
       refine rs (v := v9) (ext (v := v9) rfl rfl) rfl ?_
       refine rs (v := .int .i64 r8.2) (ext (v := .int .i64 r8.2) rfl rfl) rfl ?_
       refine rs (v := v9) (av (v := v9) rfl) rfl ?_
       refine rs (v := .int .i64 r8.2) (av (v := .int .i64 r8.2) rfl) rfl ?_
       refine rn ?_
       refine qn ?_
       refine Wseq ?_
       refine Wseq ?_
       refine Wreg ?_
       refine rs (v := v9) (mv (v := v9) rfl) rfl ?_
       cases hb11 : r8.1
       · replace hp := optN hp hb11
         rw [hb11] at hc
         replace hc := Ctx.ptoN hc; obtain ⟨u13, hc⟩ := hc; subst u13
         refine rs (v := .bool true) (ept Try.underlying24 rfl rfl) rfl ?_
         refine rs (v := .bool true) (mv (v := .bool true) rfl) rfl ?_
         refine r0 rfl ?_
         refine r0 rfl ?_
         refine rs (v := .bool true) (pkt (v := .bool true) rfl rfl) rfl ?_
         refine rn ?_
         refine qn ?_
         refine Wct rfl ?_
         refine Wseq ?_
         refine Wreg ?_
         refine rs (v := .bool false) (av (v := .bool false) rfl) rfl ?_
         refine rn ?_
         refine qn ?_
         refine Wret ?_
         refine qr ?_
         injection hp with hp; subst hp
         refine f1 (v := .bool false) Try.results4 Try.ntmps4 rfl ?_
         exact ⟨_, rfl, k _ hc⟩
       · rename_i y12
         replace hp := optS hp hb11
         rw [hb11] at hc
         replace hc := Ctx.ptoS hc; obtain ⟨b14, u15, hc⟩ := hc; subst u15
         refine rs (v := .bool false) (epf Try.underlying24 rfl rfl) rfl ?_
         refine rs (v := .bool false) (mv (v := .bool false) rfl) rfl ?_
         refine rs (v := .int .i64 r8.2) (mv (v := .int .i64 r8.2) rfl) rfl ?_
         refine rs (v := .bool (decide (r8.2 ≠ 0))) (ned rfl rfl) rfl ?_
         refine rs (v := .bool (decide (r8.2 ≠ 0))) (pkf (v := .bool (decide (r8.2 ≠ 0))) rfl rfl) rfl ?_
         refine rn ?_
         refine qn ?_
         cases hb16 : (decide (r8.2 ≠ 0))
         · replace hp := gneg hp (of_decide_eq_false hb16)
           refine Wcf rfl ?_
           refine Wskip ?_
           refine qn ?_
           refine Wseq ?_
           refine Wreg ?_
           refine rs (v := .slice none 0 0) (av (v := .slice none 0 0) rfl) rfl ?_
           refine rn ?_
           refine qn ?_
           refine Wseq ?_
           refine Wseq ?_
           refine Wreg ?_
           refine rs (v := .int .i64 0) (av (v := .int .i64 0) rfl) rfl ?_
           refine rn ?_
           refine qn ?_
           refine Wblk ?_
           replace hc := hc.nilOwn (pInt .i64) 3
           replace hc := hc.pull 3 rfl rfl
           replace hc := hc.pull 3 rfl rfl
           replace hc := hc.pull 3 rfl rfl
           refine Wloop [6, 9, 10, 11, 38, 39, 40, 41, 42, 43, 44, 45, 46, 47, 48, 49, 50, 51, 52, 53, 54, 55, 56, 57, 58, 59, 60, 61, 62, 63, 64, 65] [9, 10] (fun m vs w' => ∃ j17 : S_batch_Batch, ∃ j18 : (List Int), ∃ j22 : Int, ∃ a19 : Option Addr, ∃ n20 : Nat, ∃ q21 : Nat, vs = [.slice a19 n20 q21, .int .i64 j22] ∧ law22_BatchKeeps.L1 N x0 x1 x2 m j17 j18 j22 = some r ∧ Ctx w' (S_batch_Batch.hp b14 j17 :: P0 :: P2 :: Own (pInt .i64) 3 (.slice a19 n20 q21) j18 :: Fr)) N ?_ ?_
           · exact ⟨y12, [], 0, none, 0, 0, rfl, hp, hc⟩
           · clear hp hc; intro m vs u w23 hJ
             obtain ⟨j17, j18, j22, a19, n20, q21, rfl, hp, hc⟩ := hJ
             obtain ⟨u24, _⟩ := Ctx.rdLen hc (k := 3) rfl rfl reads_own; subst u24
             rcases m with _ | m1
             · cases (show none = some r from hp)
             rw [law22_BatchKeeps.L1] at hp
             refine Wseq ?_
             refine Wseq ?_
             refine Wreg ?_
             refine rs (v := .int .i64 j22) (mv (v := .int .i64 j22) rfl) rfl ?_
             refine rs (v := .slice ax0 x0.length qx0) (mv (v := .slice ax0 x0.length qx0) rfl) rfl ?_
             refine rs (v := .int .i64 ((x0.length : Nat) : Int)) (ln rfl Try.underlying22) rfl ?_
             refine rs (v := .bool (decide (j22 < ((x0.length : Nat) : Int)))) (lt' rfl rfl) rfl ?_
             refine rn ?_
             refine qn ?_
             cases hb25 : (decide (j22 < ((x0.length : Nat) : Int)))
             · replace hp := gneg hp (of_decide_eq_false hb25)
               refine Wcf rfl ?_
               refine Wexit ?_
               refine qx ?_
               refine qx ?_
               refine be ?_
               refine qn ?_
               refine Wseq ?_
               refine Wreg ?_
               refine rs (v := .int .i64 x1) (mv (v := .int .i64 x1) rfl) rfl ?_
               refine rs (v := .slice a19 j18.length q21) (mv (v := .slice a19 j18.length q21) rfl) rfl ?_
               refine rs (v := .int .i64 ((j18.length : Nat) : Int)) (ln rfl Try.underlying22) rfl ?_
               refine rs (v := .int .i64 (min x1 ((j18.length : Nat) : Int))) (bmn rfl rfl Try.underlying3) rfl ?_
               refine rs (v := .int .i64 (max (min x1 ((j18.length : Nat) : Int)) 0)) (bmx rfl rfl Try.underlying3) rfl ?_
               replace hp := bind_some hp; obtain ⟨e26, he26, hp⟩ := hp
               injection he26 with he26
               refine rs (v := .int .i64 e26) (av (v := .int .i64 e26) (by rw [← he26]; rfl)) rfl ?_
               refine rn ?_
               refine qn ?_
               refine Wseq ?_
               refine Wseq ?_
               replace hc := hc.drew
               refine Wdrw (fun j w' => True) [0, 0, 3, 0, 0, 24, 63, 127] 0 0 rfl (by kernel_rfl) (fun _ _ => trivial) ?_
               generalize hw : World.drew w23 = w27 at *
               clear hw
               refine ds (v := .pointer (some ⟨b14, 0, none⟩)) rfl (fun w' hF => mv (v := .pointer (some ⟨b14, 0, none⟩)) rfl) rfl ?_
               refine ds (v := .int .i64 x1) rfl (fun w' hF => mv (v := .int .i64 x1) rfl) rfl ?_
               replace hp := bind_some hp; obtain ⟨r28, hr28, hp⟩ := hp
               refine dc (cl Try.call10 rfl rfl) rfl rfl ?_
               refine batch_Batch_Pick_any hc hr28 ?_
               clear hc; intro a29 n30 q31 w32 hc
               obtain ⟨u33, _⟩ := Ctx.rdLen hc (k := 0) rfl rfl reads_own; subst u33
               refine ⟨fun j hj hb => trivial, ?_⟩
               refine ds (v := .slice a19 j18.length q21) rfl (fun w' hF => mv (v := .slice a19 j18.length q21) rfl) rfl ?_
               refine ds (v := .int .i64 e26) rfl (fun w' hF => mv (v := .int .i64 e26) rfl) rfl ?_
               replace hp := chk_some hp; obtain ⟨hg34, hp⟩ := hp
               obtain ⟨hl35, hq36⟩ := Ctx.rdLen hc (k := 4) rfl rfl reads_own
               have rd37 := reads_pre (hv := e26) (reads_own : Reads (Own (pInt .i64) 3 (.slice a19 j18.length q21) j18) (pInt .i64) (.slice a19 j18.length q21) j18) (by omega) hq36 hl35
               refine ds (v := .slice a19 ((e26).toNat) q21) rfl (fun w' hF => run_sub0 (hv := e26) rfl ⟨_, rfl⟩ Try.underlying22 Try.sizeOf3 hg34 hq36) rfl ?_
               replace hp := bind_some hp; obtain ⟨r38, hr38, hp⟩ := hp
               replace hc := hc.pull 4 rfl rfl
               replace hc := hc.pull 1 rfl rfl
               refine dc (cl Try.call14 rfl rfl) rfl rfl ?_
               refine ref09_Ints_any reads_own rd37 hc hr38 ?_
               clear hc; intro w39 hc
               refine ⟨fun j hj hb => trivial, ?_⟩
               cases hb40 : r38
               · replace hp := gneg hp (by rw [hb40]; exact Bool.false_ne_true)
                 subst hb40
                 refine ds (v := .bool true) rfl (fun w' hF => ntf rfl) rfl ?_
                 refine dn ?_
                 refine qn ?_
                 refine Wct rfl ?_
                 refine Wseq ?_
                 refine Wreg ?_
                 refine rs (v := .bool false) (av (v := .bool false) rfl) rfl ?_
                 refine rn ?_
                 refine qn ?_
                 refine Wret ?_
                 refine qr ?_
                 replace hc := hc.rem 2 rfl rfl
                 replace hc := hc.rem 1 rfl rfl
                 replace hc := hc.rem 0 rfl rfl
                 injection hp with hp; subst hp
                 refine f1 (v := .bool false) Try.results4 Try.ntmps4 rfl ?_
                 exact ⟨_, rfl, k _ hc⟩
               · replace hp := gpos hp hb40
                 subst hb40
                 refine ds (v := .bool false) rfl (fun w' hF => ntt rfl) rfl ?_
                 refine dn ?_
                 refine qn ?_
                 refine Wcf rfl ?_
                 refine Wskip ?_
                 refine qn ?_
                 refine Wseq ?_
                 replace hc := hc.drew
                 refine Wdrw (fun j w' => True) [0, 0, 0, 6, 15, 0, 0, 96, 255, 511] 0 0 rfl (by kernel_rfl) (fun _ _ => trivial) ?_
                 generalize hw : World.drew w39 = w41 at *
                 clear hw
                 refine deE (Ctx.builtOp (css := []) (xs := ([] : List Int)) (E := (pInt .i64)) hc Try.underlying22 Try.sizeOf3 Try.zeroValue3 rfl rfl rfl rfl rfl rfl rfl rfl) rfl rfl ?_
                 clear hc; rintro _ w43 ⟨a42, rfl, hc⟩
                 refine ⟨fun j hj hb => trivial, ?_⟩
                 refine ds (v := .slice a19 j18.length q21) rfl (fun w' hF => mv (v := .slice a19 j18.length q21) rfl) rfl ?_
                 refine ds (v := .int .i64 e26) rfl (fun w' hF => mv (v := .int .i64 e26) rfl) rfl ?_
                 replace hp := chk_some hp; obtain ⟨hg44, hp⟩ := hp
                 obtain ⟨hl48, hq49⟩ := Ctx.rdLen hc (k := 2) rfl rfl reads_own
                 have rd47 := reads_sub (lo := (e26).toNat) (hi := (((j18.length : Nat) : Int)).toNat) ((reads_own : Reads (Own (pInt .i64) 3 (.slice a19 j18.length q21) j18) (pInt .i64) (.slice a19 j18.length q21) j18)) (by omega) (by omega)
                 refine ds (v := .slice (if q21 = (e26).toNat then a19 else Option.map (fun x => x.add ((e26).toNat * 1)) a19) ((((j18.length : Nat) : Int)).toNat - (e26).toNat) (q21 - (e26).toNat)) rfl (fun w' hF => run_sub (li := some e26) (hi' := none) rfl ⟨_, rfl⟩ trivial Try.underlying22 Try.sizeOf3 hg44 hq49) rfl ?_
                 replace hp := bind_some hp; obtain ⟨z50, hz50, hp⟩ := hp
                 obtain ⟨hg51, e52⟩ := app_some hz50
                 refine deE (Ctx.append hc (k := 0) rfl rfl (k2 := 2) rfl rfl rd47 Try.underlying22 (i := Try.t3) rfl rfl rfl rfl rfl rfl rfl rfl hg51) rfl rfl ?_
                 clear hc; rintro _ w55 ⟨a53, q54, rfl, hc⟩
                 rw [← e52] at hc ⊢
                 refine ⟨fun j hj hb => trivial, ?_⟩
                 refine ds (v := .slice a19 j18.length q21) rfl (fun w' hF => mv (v := .slice a19 j18.length q21) rfl) rfl ?_
                 refine ds (v := .int .i64 e26) rfl (fun w' hF => mv (v := .int .i64 e26) rfl) rfl ?_
                 replace hp := chk_some hp; obtain ⟨hg56, hp⟩ := hp
                 obtain ⟨hl57, hq58⟩ := Ctx.rdLen hc (k := 2) rfl rfl reads_own
                 have rd59 := reads_pre (hv := e26) (reads_own : Reads (Own (pInt .i64) 3 (.slice a19 j18.length q21) j18) (pInt .i64) (.slice a19 j18.length q21) j18) (by omega) hq58 hl57
                 refine ds (v := .slice a19 ((e26).toNat) q21) rfl (fun w' hF => run_sub0 (hv := e26) rfl ⟨_, rfl⟩ Try.underlying22 Try.sizeOf3 hg56 hq58) rfl ?_
                 replace hp := bind_some hp; obtain ⟨z60, hz60, hp⟩ := hp
                 obtain ⟨hg61, e62⟩ := app_some hz60
                 refine deE (Ctx.append hc (k := 0) rfl rfl (k2 := 2) rfl rfl rd59 Try.underlying22 (i := Try.t3) rfl rfl rfl rfl rfl rfl rfl rfl hg61) rfl rfl ?_
                 clear hc; rintro _ w65 ⟨a63, q64, rfl, hc⟩
                 rw [← e62] at hc ⊢
                 refine ⟨fun j hj hb => trivial, ?_⟩
                 refine ds (v := .slice a63 z60.length q64) rfl (fun w' hF => av (v := .slice a63 z60.length q64) rfl) rfl ?_
                 refine dn ?_
                 refine qn ?_
                 refine Wseq ?_
                 refine Wseq ?_
                 refine Wreg ?_
                 refine rs (v := .pointer (some ⟨b14, 0, none⟩)) (mv (v := .pointer (some ⟨b14, 0, none⟩)) rfl) rfl ?_
                 replace hp := bind_some hp; obtain ⟨r66, hr66, hp⟩ := hp
                 replace hc := hc.pull 3 rfl rfl
                 refine rc (cl Try.call13 rfl rfl) rfl ?_
                 refine batch_Batch_Members_any hc hr66 ?_
                 clear hc; intro a67 n68 q69 w70 hc
                 obtain ⟨u71, _⟩ := Ctx.rdLen hc (k := 0) rfl rfl reads_own; subst u71
                 refine rs (v := .slice a63 z60.length q64) (mv (v := .slice a63 z60.length q64) rfl) rfl ?_
                 replace hp := bind_some hp; obtain ⟨r72, hr72, hp⟩ := hp
                 replace hc := hc.pull 2 rfl rfl
                 replace hc := hc.pull 1 rfl rfl
                 refine rc (cl Try.call14 rfl rfl) rfl ?_
                 refine ref09_Ints_any reads_own reads_own hc hr72 ?_
                 clear hc; intro w73 hc
                 cases hb74 : r72
                 · replace hp := gneg hp (by rw [hb74]; exact Bool.false_ne_true)
                   subst hb74
                   refine rs (v := .bool true) (ntf rfl) rfl ?_
                   refine rn ?_
                   refine qn ?_
                   refine Wct rfl ?_
                   refine Wseq ?_
                   refine Wreg ?_
                   refine rs (v := .bool false) (av (v := .bool false) rfl) rfl ?_
                   refine rn ?_
                   refine qn ?_
                   refine Wret ?_
                   refine qr ?_
                   replace hc := hc.rem 4 rfl rfl
                   replace hc := hc.rem 3 rfl rfl
                   replace hc := hc.rem 2 rfl rfl
                   replace hc := hc.rem 1 rfl rfl
                   replace hc := hc.rem 0 rfl rfl
                   injection hp with hp; subst hp
                   refine f1 (v := .bool false) Try.results4 Try.ntmps4 rfl ?_
                   exact ⟨_, rfl, k _ hc⟩
                 · replace hp := gpos hp hb74
                   subst hb74
                   refine rs (v := .bool false) (ntt rfl) rfl ?_
                   refine rn ?_
                   refine qn ?_
                   refine Wcf rfl ?_
                   refine Wskip ?_
                   refine qn ?_
                   refine Wseq ?_
                   refine Wreg ?_
                   refine rs (v := .slice none 0 0) (av (v := .slice none 0 0) rfl) rfl ?_
                   refine rn ?_
                   refine qn ?_
                   refine Wseq ?_
                   refine Wseq ?_
                   refine Wreg ?_
                   refine rs (v := .int .i64 0) (av (v := .int .i64 0) rfl) rfl ?_
                   refine rn ?_
                   refine qn ?_
                   refine Wblk ?_
                   replace hc := hc.nilOwn (pInt .i64) 3
                   replace hc := hc.rem 5 rfl rfl
                   replace hc := hc.rem 4 rfl rfl
                   replace hc := hc.rem 1 rfl rfl
                   replace hc := hc.pull 4 rfl rfl
                   replace hc := hc.pull 4 rfl rfl
                   replace hc := hc.pull 4 rfl rfl
                   replace hc := hc.pull 4 rfl rfl
                   refine Wloop [13, 14, 93, 94, 95, 96, 97, 98, 99, 100, 101, 102, 103, 104, 105, 106, 107, 108, 109, 110, 111, 112] [13, 14] (fun m vs w' => ∃ j75 : (List Int), ∃ j79 : Int, ∃ a76 : Option Addr, ∃ n77 : Nat, ∃ q78 : Nat, vs = [.slice a76 n77 q78, .int .i64 j79] ∧ law22_BatchKeeps.L2 N x2 r28 z60 m j75 j79 = some r ∧ Ctx w' (Own (pInt .i64) 3 (.slice a63 z60.length q64) z60 :: S_batch_Batch.hp b14 r28.2 :: P0 :: P2 :: Own (pInt .i64) 3 (.slice a76 n77 q78) j75 :: Fr)) N ?_ ?_
                   · exact ⟨[], 0, none, 0, 0, rfl, hp, hc⟩
                   · clear hp hc; intro m vs u w80 hJ
                     obtain ⟨j75, j79, a76, n77, q78, rfl, hp, hc⟩ := hJ
                     obtain ⟨u81, _⟩ := Ctx.rdLen hc (k := 4) rfl rfl reads_own; subst u81
                     rcases m with _ | m2
                     · cases (show none = some r from hp)
                     rw [law22_BatchKeeps.L2] at hp
                     refine Wseq ?_
                     refine Wseq ?_
                     refine Wreg ?_
                     refine rs (v := .int .i64 j79) (mv (v := .int .i64 j79) rfl) rfl ?_
                     refine rs (v := .slice a63 z60.length q64) (mv (v := .slice a63 z60.length q64) rfl) rfl ?_
                     refine rs (v := .int .i64 ((z60.length : Nat) : Int)) (ln rfl Try.underlying22) rfl ?_
                     refine rs (v := .bool (decide (j79 < ((z60.length : Nat) : Int)))) (lt' rfl rfl) rfl ?_
                     refine rn ?_
                     refine qn ?_
                     cases hb82 : (decide (j79 < ((z60.length : Nat) : Int)))
                     · replace hp := gneg hp (of_decide_eq_false hb82)
                       refine Wcf rfl ?_
                       refine Wexit ?_
                       refine qx ?_
                       refine qx ?_
                       refine be ?_
                       refine qn ?_
                       refine Wseq ?_
                       refine Wreg ?_
                       refine rs (v := .pointer (some ⟨b14, 0, none⟩)) (mv (v := .pointer (some ⟨b14, 0, none⟩)) rfl) rfl ?_
                       refine rs (v := .slice ax2 x2.length qx2) (mv (v := .slice ax2 x2.length qx2) rfl) rfl ?_
                       replace hp := bind_some hp; obtain ⟨r83, hr83, hp⟩ := hp
                       replace hc := hc.pull 3 rfl rfl
                       replace hc := hc.pull 2 rfl rfl
                       refine rc (cl Try.call15 rfl rfl) rfl ?_
                       refine batch_Batch_Remove_any hrd2 hc hr83 ?_
                       clear hc; intro w84 hc
                       refine rs (v := .slice a63 z60.length q64) (mv (v := .slice a63 z60.length q64) rfl) rfl ?_
                       refine rs (v := .int .i64 ((z60.length : Nat) : Int)) (ln rfl Try.underlying22) rfl ?_
                       refine rs (v := .slice a76 j75.length q78) (mv (v := .slice a76 j75.length q78) rfl) rfl ?_
                       refine rs (v := .int .i64 ((j75.length : Nat) : Int)) (ln rfl Try.underlying22) rfl ?_
                       refine rs (v := .int .i64 (IntKind.i64.wrap (((z60.length : Nat) : Int) - ((j75.length : Nat) : Int)))) (sbw rfl rfl) rfl ?_
                       refine rs (v := .bool (decide (r83.1 = (IntKind.i64.wrap (((z60.length : Nat) : Int) - ((j75.length : Nat) : Int)))))) (eqd rfl rfl) rfl ?_
                       refine rs (v := .bool (decide (r83.1 = (IntKind.i64.wrap (((z60.length : Nat) : Int) - ((j75.length : Nat) : Int)))))) (mv (v := .bool (decide (r83.1 = (IntKind.i64.wrap (((z60.length : Nat) : Int) - ((j75.length : Nat) : Int)))))) rfl) rfl ?_
                       cases hb85 : (decide (r83.1 = (IntKind.i64.wrap (((z60.length : Nat) : Int) - ((j75.length : Nat) : Int)))))
                       · replace hp := gneg hp (of_decide_eq_false hb85)
                         refine r0 rfl ?_
                         refine r0 rfl ?_
                         refine r0 rfl ?_
                         refine r0 rfl ?_
                         refine rs (v := .bool false) (pkf (v := .bool false) rfl rfl) rfl ?_
                         refine rs (v := .bool false) (mv (v := .bool false) rfl) rfl ?_
                         refine r0 rfl ?_
                         refine r0 rfl ?_
                         refine r0 rfl ?_
                         refine r0 rfl ?_
                         refine r0 rfl ?_
                         refine r0 rfl ?_
                         refine rs (v := .bool false) (pkf (v := .bool false) rfl rfl) rfl ?_
                         refine rs (v := .bool false) (av (v := .bool false) rfl) rfl ?_
                         refine rn ?_
                         refine qn ?_
                         refine Wret ?_
                         replace hc := hc.rem 4 rfl rfl
                         replace hc := hc.rem 2 rfl rfl
                         replace hc := hc.rem 0 rfl rfl
                         replace hc := hc.pull 1 rfl rfl
                         injection hp with hp; subst hp
                         refine f1 (v := .bool false) Try.results4 Try.ntmps4 rfl ?_
                         exact ⟨_, rfl, k _ hc⟩
                       · replace hp := gpos hp (of_decide_eq_true hb85)
                         refine rs (v := .pointer (some ⟨b14, 0, none⟩)) (mv (v := .pointer (some ⟨b14, 0, none⟩)) rfl) rfl ?_
                         replace hp := bind_some hp; obtain ⟨r86, hr86, hp⟩ := hp
                         refine rc (cl Try.call13 rfl rfl) rfl ?_
                         refine batch_Batch_Members_any hc hr86 ?_
                         clear hc; intro a87 n88 q89 w90 hc
                         obtain ⟨u91, _⟩ := Ctx.rdLen hc (k := 0) rfl rfl reads_own; subst u91
                         refine rs (v := .slice a76 j75.length q78) (mv (v := .slice a76 j75.length q78) rfl) rfl ?_
                         replace hp := bind_some hp; obtain ⟨r92, hr92, hp⟩ := hp
                         replace hc := hc.pull 5 rfl rfl
                         replace hc := hc.pull 1 rfl rfl
                         refine rc (cl Try.call14 rfl rfl) rfl ?_
                         refine ref09_Ints_any reads_own reads_own hc hr92 ?_
                         clear hc; intro w93 hc
                         refine rs (v := .bool r92) (pkt (v := .bool r92) rfl rfl) rfl ?_
                         refine rs (v := .bool r92) (mv (v := .bool r92) rfl) rfl ?_
                         cases hb94 : r92
                         · replace hp := gneg hp (by rw [hb94]; exact Bool.false_ne_true)
                           subst hb94
                           refine r0 rfl ?_
                           refine r0 rfl ?_
                           refine r0 rfl ?_
                           refine r0 rfl ?_
                           refine r0 rfl ?_
                           refine r0 rfl ?_
                           refine rs (v := .bool false) (pkf (v := .bool false) rfl rfl) rfl ?_
                           refine rs (v := .bool false) (av (v := .bool false) rfl) rfl ?_
                           refine rn ?_
                           refine qn ?_
                           refine Wret ?_
                           replace hc := hc.rem 4 rfl rfl
                           replace hc := hc.rem 2 rfl rfl
                           replace hc := hc.rem 1 rfl rfl
                           replace hc := hc.rem 0 rfl rfl
                           replace hc := hc.pull 1 rfl rfl
                           injection hp with hp; subst hp
                           refine f1 (v := .bool false) Try.results4 Try.ntmps4 rfl ?_
                           exact ⟨_, rfl, k _ hc⟩
                         · replace hp := gpos hp hb94
                           subst hb94
                           refine rs (v := .pointer (some ⟨b14, 0, none⟩)) (mv (v := .pointer (some ⟨b14, 0, none⟩)) rfl) rfl ?_
                           replace hp := bind_some hp; obtain ⟨r95, hr95, hp⟩ := hp
                           replace hc := hc.pull 2 rfl rfl
                           refine rc (cl Try.call16 rfl rfl) rfl ?_
                           refine batch_Batch_Room_any hc hr95 ?_
                           clear hc; intro w96 hc
                           refine rs (v := .slice a76 j75.length q78) (mv (v := .slice a76 j75.length q78) rfl) rfl ?_
                           refine rs (v := .int .i64 ((j75.length : Nat) : Int)) (ln rfl Try.underlying22) rfl ?_
                           refine rs (v := .int .i64 (IntKind.i64.wrap (40 - ((j75.length : Nat) : Int)))) (sbw rfl rfl) rfl ?_
                           refine rs (v := .bool (decide (r95 = (IntKind.i64.wrap (40 - ((j75.length : Nat) : Int)))))) (eqd rfl rfl) rfl ?_
                           refine rs (v := .bool (decide (r95 = (IntKind.i64.wrap (40 - ((j75.length : Nat) : Int)))))) (pkt (v := .bool (decide (r95 = (IntKind.i64.wrap (40 - ((j75.length : Nat) : Int)))))) rfl rfl) rfl ?_
                           refine rs (v := .bool (decide (r95 = (IntKind.i64.wrap (40 - ((j75.length : Nat) : Int)))))) (av (v := .bool (decide (r95 = (IntKind.i64.wrap (40 - ((j75.length : Nat) : Int)))))) rfl) rfl ?_
                           refine rn ?_
                           refine qn ?_
                           refine Wret ?_
                           replace hc := hc.rem 4 rfl rfl
                           replace hc := hc.rem 2 rfl rfl
                           replace hc := hc.rem 1 rfl rfl
                           replace hc := hc.rem 0 rfl rfl
                           replace hc := hc.pull 1 rfl rfl
                           injection hp with hp; subst hp
                           refine f1 (v := .bool (decide (r95 = (IntKind.i64.wrap (40 - ((j75.length : Nat) : Int)))))) Try.results4 Try.ntmps4 rfl ?_
                           exact ⟨_, rfl, k _ hc⟩
                     · replace hp := gpos hp (of_decide_eq_true hb82)
                       refine Wct rfl ?_
                       refine Wskip ?_
                       refine qn ?_
                       refine Wseqm [13, 99, 100, 101, 102, 103, 104, 105, 106, 107, 108, 109, 110, 111, 112] [13] (fun vs w' => ∃ j97 : (List Int), ∃ a98 : Option Addr, ∃ n99 : Nat, ∃ q100 : Nat, vs = [.slice a98 n99 q100] ∧ law22_BatchKeeps.J3 j79 (law22_BatchKeeps.L2 N x2 r28 z60 m2) j97 = some r ∧ Ctx w' (Own (pInt .i64) 3 (.slice a63 z60.length q64) z60 :: S_batch_Batch.hp b14 r28.2 :: P0 :: P2 :: Own (pInt .i64) 3 (.slice a98 n99 q100) j97 :: Fr)) ?_ ?_
                       · refine Wblk ?_
                         refine Wseqm [99, 100, 101, 102, 103, 104, 105] [105] (fun vs w' => ∃ j101 : Bool, vs = [.bool j101] ∧ law22_BatchKeeps.J4 z60 j75 j79 (law22_BatchKeeps.L2 N x2 r28 z60 m2) j101 = some r ∧ Ctx w' (Own (pInt .i64) 3 (.slice a63 z60.length q64) z60 :: S_batch_Batch.hp b14 r28.2 :: P0 :: P2 :: Own (pInt .i64) 3 (.slice a76 j75.length q78) j75 :: Fr)) ?_ ?_
                         · refine Wreg ?_
                           refine rs (v := .slice ax2 x2.length qx2) (mv (v := .slice ax2 x2.length qx2) rfl) rfl ?_
                           refine rs (v := .slice a63 z60.length q64) (mv (v := .slice a63 z60.length q64) rfl) rfl ?_
                           refine rs (v := .int .i64 j79) (mv (v := .int .i64 j79) rfl) rfl ?_
                           replace hp := bind_some hp; obtain ⟨y102, hy102, hp⟩ := hp
                           obtain ⟨b105, o106, u107, hi103, hi104⟩ := Ctx.rdAt hc (k := 0) rfl rfl reads_own hy102
                           subst u107
                           refine rs (v := .pointer (some ⟨b105, o106 + (j79).toNat * 1, none⟩)) (ixx rfl rfl Try.underlying22 Try.sizeOf3 hi103 hi104 rfl) rfl ?_
                           replace hc := Ctx.rdCell hc (k := 0) rfl rfl reads_own hy102; obtain ⟨cs108, hc, hcell109⟩ := hc
                           replace hc := Ctx.holdC hc; obtain ⟨u110, hc⟩ := hc; subst u110
                           refine rs (v := .int .i64 y102) (ld rfl Try.isAgg3 (hcell109 0 _ rfl)) rfl ?_
                           replace hp := bind_some hp; obtain ⟨r111, hr111, hp⟩ := hp
                           replace hc := hc.pull 3 rfl rfl
                           refine rc (cl Try.call11 rfl rfl) rfl ?_
                           refine law22_has_any hrd2 hc hr111 ?_
                           clear hc; intro w112 hc
                           cases hb113 : r111
                           · replace hp := gneg hp (by rw [hb113]; exact Bool.false_ne_true)
                             subst hb113
                             refine rs (v := .bool true) (ntf rfl) rfl ?_
                             refine rn ?_
                             refine qn ?_
                             replace hc := hc.pull 4 rfl rfl
                             replace hc := hc.pull 1 rfl rfl
                             replace hc := hc.pull 4 rfl rfl
                             replace hc := hc.pull 4 rfl rfl
                             replace hc := hc.pull 4 rfl rfl
                             exact ⟨⟨true, rfl, hp, hc⟩, (kl rfl kb)⟩
                           · replace hp := gpos hp hb113
                             subst hb113
                             refine rs (v := .bool false) (ntt rfl) rfl ?_
                             refine rn ?_
                             refine qn ?_
                             replace hc := hc.pull 4 rfl rfl
                             replace hc := hc.pull 1 rfl rfl
                             replace hc := hc.pull 4 rfl rfl
                             replace hc := hc.pull 4 rfl rfl
                             replace hc := hc.pull 4 rfl rfl
                             exact ⟨⟨false, rfl, hp, hc⟩, (kl rfl kb)⟩
                         · clear hp hc; intro vs u w114 hJ
                           obtain ⟨j101, rfl, hp, hc⟩ := hJ
                           unfold law22_BatchKeeps.J4 at hp
                           cases hb115 : j101
                           · replace hp := gneg hp (by rw [hb115]; exact Bool.false_ne_true)
                             subst hb115
                             refine Wcf rfl ?_
                             refine Wskip ?_
                             refine bn ?_
                             refine qn ?_
                             exact ⟨⟨j75, a76, j75.length, q78, rfl, hp, hc⟩, (kl rfl (km rfl (kl rfl kb)))⟩
                           · replace hp := gpos hp hb115
                             subst hb115
                             refine Wct rfl ?_
                             refine Wreg ?_
                             refine rs (v := .slice a76 j75.length q78) (mv (v := .slice a76 j75.length q78) rfl) rfl ?_
                             refine rs (v := .slice a63 z60.length q64) (mv (v := .slice a63 z60.length q64) rfl) rfl ?_
                             refine rs (v := .int .i64 j79) (mv (v := .int .i64 j79) rfl) rfl ?_
                             replace hp := bind_some hp; obtain ⟨y116, hy116, hp⟩ := hp
                             obtain ⟨b119, o120, u121, hi117, hi118⟩ := Ctx.rdAt hc (k := 0) rfl rfl reads_own hy116
                             subst u121
                             refine rs (v := .pointer (some ⟨b119, o120 + (j79).toNat * 1, none⟩)) (ixx rfl rfl Try.underlying22 Try.sizeOf3 hi117 hi118 rfl) rfl ?_
                             replace hc := Ctx.rdCell hc (k := 0) rfl rfl reads_own hy116; obtain ⟨cs122, hc, hcell123⟩ := hc
                             replace hc := Ctx.holdC hc; obtain ⟨u124, hc⟩ := hc; subst u124
                             refine rs (v := .int .i64 y116) (ld rfl Try.isAgg3 (hcell123 0 _ rfl)) rfl ?_
                             replace hc : Ctx w114 (Hold (pInt .i64) [.int .i64 y116] y116 :: Own (pInt .i64) 3 (.slice (some ⟨b119, o120, none⟩) z60.length q64) z60 :: S_batch_Batch.hp b14 r28.2 :: P0 :: P2 :: Own (pInt .i64) 3 (.slice a76 j75.length q78) j75 :: Fr) := hc.add _ fun _ _ _ => ⟨rfl, rfl⟩
                             refine rsE (Ctx.builtOp (css := [[.int .i64 y116]]) (xs := ([y116] : List Int)) (E := (pInt .i64)) hc Try.underlying22 Try.sizeOf3 Try.zeroValue3 rfl rfl rfl rfl rfl rfl rfl rfl) rfl ?_
                             clear hc; rintro _ w126 ⟨a125, rfl, hc⟩
                             replace hp := bind_some hp; obtain ⟨z127, hz127, hp⟩ := hp
                             obtain ⟨hg128, e129⟩ := app_some hz127
                             refine rsE (Ctx.append hc (k := 5) rfl rfl (k2 := 0) rfl rfl reads_own Try.underlying22 (i := Try.t3) rfl rfl rfl rfl rfl rfl rfl rfl hg128) rfl ?_
                             clear hc; rintro _ w132 ⟨a130, q131, rfl, hc⟩
                             rw [← e129] at hc ⊢
                             refine rs (v := .slice a130 z127.length q131) (av (v := .slice a130 z127.length q131) rfl) rfl ?_
                             refine rn ?_
                             refine bn ?_
                             refine qn ?_
                             replace hc := hc.rem 0 rfl rfl
                             exact ⟨⟨z127, a130, z127.length, q131, rfl, hp, hc⟩, (kl rfl (km rfl (kl rfl kb)))⟩
                       · clear hp hc; intro vs u w133 hJ
                         obtain ⟨j97, a98, n99, q100, rfl, hp, hc⟩ := hJ
                         obtain ⟨u134, _⟩ := Ctx.rdLen hc (k := 4) rfl rfl reads_own; subst u134
                         unfold law22_BatchKeeps.J3 at hp
                         refine Wreg ?_
                         refine rs (v := .int .i64 j79) (mv (v := .int .i64 j79) rfl) rfl ?_
                         refine rs (v := .int .i64 (IntKind.i64.wrap (j79 + 1))) (adw rfl rfl) rfl ?_
                         refine rs (v := .int .i64 (IntKind.i64.wrap (j79 + 1))) (av (v := .int .i64 (IntKind.i64.wrap (j79 + 1))) rfl) rfl ?_
                         refine rn ?_
                         refine qn ?_
                         exact ⟨m2, Nat.lt_succ_self _, ⟨j97, (IntKind.i64.wrap (j79 + 1)), a98, j97.length, q100, rfl, hp, hc⟩, (kl rfl (km rfl (kl rfl k0)))⟩
             · replace hp := gpos hp (of_decide_eq_true hb25)
               refine Wct rfl ?_
               refine Wskip ?_
               refine qn ?_
               refine Wseq ?_
               refine Wblk ?_
               refine Wseq ?_
               refine Wreg ?_
               refine rs (v := .int .i64 0) (av (v := .int .i64 0) rfl) rfl ?_
               refine rn ?_
               refine qn ?_
               refine Wseqm [9, 11, 44, 45, 46, 47, 48, 49, 50, 51, 52, 53, 54, 55, 56] [9, 11] (fun vs w' => ∃ j135 : (List Int), ∃ j139 : Int, ∃ a136 : Option Addr, ∃ n137 : Nat, ∃ q138 : Nat, vs = [.slice a136 n137 q138, .int .i64 j139] ∧ law22_BatchKeeps.J5 N x0 j17 j22 (law22_BatchKeeps.L1 N x0 x1 x2 m1) j135 j139 = some r ∧ Ctx w' (S_batch_Batch.hp b14 j17 :: P0 :: P2 :: Own (pInt .i64) 3 (.slice a136 n137 q138) j135 :: Fr)) ?_ ?_
               · refine Wseq ?_
                 refine Wreg ?_
                 refine rs (v := .slice a19 j18.length q21) (mv (v := .slice a19 j18.length q21) rfl) rfl ?_
                 refine rs (v := .slice ax0 x0.length qx0) (mv (v := .slice ax0 x0.length qx0) rfl) rfl ?_
                 refine rs (v := .int .i64 j22) (mv (v := .int .i64 j22) rfl) rfl ?_
                 replace hp := bind_some hp; obtain ⟨y140, hy140, hp⟩ := hp
                 obtain ⟨b143, o144, u145, hi141, hi142⟩ := Ctx.rdAt hc (k := 1) rfl rfl hrd0 hy140
                 subst u145
                 refine rs (v := .pointer (some ⟨b143, o144 + (j22).toNat * 1, none⟩)) (ixx rfl rfl Try.underlying22 Try.sizeOf3 hi141 hi142 rfl) rfl ?_
                 replace hc := Ctx.rdCell hc (k := 1) rfl rfl hrd0 hy140; obtain ⟨cs146, hc, hcell147⟩ := hc
                 replace hc := Ctx.holdC hc; obtain ⟨u148, hc⟩ := hc; subst u148
                 refine rs (v := .int .i64 y140) (ld rfl Try.isAgg3 (hcell147 0 _ rfl)) rfl ?_
                 replace hp := bind_some hp; obtain ⟨r149, hr149, hp⟩ := hp
                 replace hc := hc.pull 3 rfl rfl
                 refine rc (cl Try.call11 rfl rfl) rfl ?_
                 refine law22_has_any reads_own hc hr149 ?_
                 clear hc; intro w150 hc
                 refine rn ?_
                 refine qn ?_
                 cases hb151 : r149
                 · replace hp := gneg hp (by rw [hb151]; exact Bool.false_ne_true)
                   subst hb151
                   refine Wcf rfl ?_
                   refine Wreg ?_
                   refine rs (v := .slice a19 j18.length q21) (mv (v := .slice a19 j18.length q21) rfl) rfl ?_
                   refine rs (v := .slice (some ⟨b143, o144, none⟩) x0.length qx0) (mv (v := .slice (some ⟨b143, o144, none⟩) x0.length qx0) rfl) rfl ?_
                   refine rs (v := .int .i64 j22) (mv (v := .int .i64 j22) rfl) rfl ?_
                   replace hp := bind_some hp; obtain ⟨y152, hy152, hp⟩ := hp
                   obtain ⟨b155, o156, u157, hi153, hi154⟩ := Ctx.rdAt hc (k := 2) rfl rfl hrd0 hy152
                   clear u157
                   refine rs (v := .pointer (some ⟨b143, o144 + (j22).toNat * 1, none⟩)) (ixx rfl rfl Try.underlying22 Try.sizeOf3 hi153 hi154 rfl) rfl ?_
                   replace hc := Ctx.rdCell hc (k := 2) rfl rfl hrd0 hy152; obtain ⟨cs158, hc, hcell159⟩ := hc
                   replace hc := Ctx.holdC hc; obtain ⟨u160, hc⟩ := hc; subst u160
                   refine rs (v := .int .i64 y152) (ld rfl Try.isAgg3 (hcell159 0 _ rfl)) rfl ?_
                   replace hc : Ctx w150 (Hold (pInt .i64) [.int .i64 y152] y152 :: Own (pInt .i64) 3 (.slice a19 j18.length q21) j18 :: S_batch_Batch.hp b14 j17 :: P0 :: P2 :: Fr) := hc.add _ fun _ _ _ => ⟨rfl, rfl⟩
                   refine rsE (Ctx.builtOp (css := [[.int .i64 y152]]) (xs := ([y152] : List Int)) (E := (pInt .i64)) hc Try.underlying22 Try.sizeOf3 Try.zeroValue3 rfl rfl rfl rfl rfl rfl rfl rfl) rfl ?_
                   clear hc; rintro _ w162 ⟨a161, rfl, hc⟩
                   replace hp := bind_some hp; obtain ⟨z163, hz163, hp⟩ := hp
                   obtain ⟨hg164, e165⟩ := app_some hz163
                   refine rsE (Ctx.append hc (k := 1) rfl rfl (k2 := 0) rfl rfl reads_own Try.underlying22 (i := Try.t3) rfl rfl rfl rfl rfl rfl rfl rfl hg164) rfl ?_
                   clear hc; rintro _ w168 ⟨a166, q167, rfl, hc⟩
                   rw [← e165] at hc ⊢
                   refine rs (v := .slice a166 z163.length q167) (av (v := .slice a166 z163.length q167) rfl) rfl ?_
                   refine rn ?_
                   refine qn ?_
                   replace hc := hc.rem 0 rfl rfl
                   replace hc := hc.pull 3 rfl rfl
                   replace hc := hc.pull 3 rfl rfl
                   replace hc := hc.pull 3 rfl rfl
                   exact ⟨⟨z163, 0, a166, z163.length, q167, rfl, hp, hc⟩, (kl rfl kb)⟩
                 · replace hp := gpos hp hb151
                   subst hb151
                   refine Wct rfl ?_
                   refine Wreg ?_
                   refine rs (v := .int .i64 210) (av (v := .int .i64 210) rfl) rfl ?_
                   refine rn ?_
                   refine qn ?_
                   replace hc := hc.pull 3 rfl rfl
                   replace hc := hc.pull 3 rfl rfl
                   replace hc := hc.pull 3 rfl rfl
                   exact ⟨⟨j18, 210, a19, j18.length, q21, rfl, hp, hc⟩, (kl rfl kb)⟩
               · clear hp hc; intro vs u w169 hJ
                 obtain ⟨j135, j139, a136, n137, q138, rfl, hp, hc⟩ := hJ
                 obtain ⟨u170, _⟩ := Ctx.rdLen hc (k := 3) rfl rfl reads_own; subst u170
                 unfold law22_BatchKeeps.J5 at hp
                 refine Wseq ?_
                 refine Wreg ?_
                 refine rs (v := .pointer (some ⟨b14, 0, none⟩)) (mv (v := .pointer (some ⟨b14, 0, none⟩)) rfl) rfl ?_
                 refine rs (v := .slice ax0 x0.length qx0) (mv (v := .slice ax0 x0.length qx0) rfl) rfl ?_
                 refine rs (v := .int .i64 j22) (mv (v := .int .i64 j22) rfl) rfl ?_
                 replace hp := bind_some hp; obtain ⟨y171, hy171, hp⟩ := hp
                 obtain ⟨b174, o175, u176, hi172, hi173⟩ := Ctx.rdAt hc (k := 1) rfl rfl hrd0 hy171
                 subst u176
                 refine rs (v := .pointer (some ⟨b174, o175 + (j22).toNat * 1, none⟩)) (ixx rfl rfl Try.underlying22 Try.sizeOf3 hi172 hi173 rfl) rfl ?_
                 replace hc := Ctx.rdCell hc (k := 1) rfl rfl hrd0 hy171; obtain ⟨cs177, hc, hcell178⟩ := hc
                 replace hc := Ctx.holdC hc; obtain ⟨u179, hc⟩ := hc; subst u179
                 refine rs (v := .int .i64 y171) (ld rfl Try.isAgg3 (hcell178 0 _ rfl)) rfl ?_
                 replace hc : Ctx w169 (Hold (pInt .i64) [.int .i64 y171] y171 :: S_batch_Batch.hp b14 j17 :: P0 :: P2 :: Own (pInt .i64) 3 (.slice a136 j135.length q138) j135 :: Fr) := hc.add _ fun _ _ _ => ⟨rfl, rfl⟩
                 refine rsE (Ctx.builtOp (css := [[.int .i64 y171]]) (xs := ([y171] : List Int)) (E := (pInt .i64)) hc Try.underlying22 Try.sizeOf3 Try.zeroValue3 rfl rfl rfl rfl rfl rfl rfl rfl) rfl ?_
                 clear hc; rintro _ w181 ⟨a180, rfl, hc⟩
                 replace hp := bind_some hp; obtain ⟨r182, hr182, hp⟩ := hp
                 replace hc := hc.pull 1 rfl rfl
                 refine rc (cl Try.call8 rfl rfl) rfl ?_
                 refine batch_Batch_Add_any reads_own hc hr182 ?_
                 clear hc; intro w183 hc
                 refine rs (v := .int .i64 j139) (mv (v := .int .i64 j139) rfl) rfl ?_
                 refine rs (v := .bool (decide (r182.1 ≠ j139))) (ned rfl rfl) rfl ?_
                 refine rn ?_
                 refine qn ?_
                 cases hb184 : (decide (r182.1 ≠ j139))
                 · replace hp := gneg hp (of_decide_eq_false hb184)
                   refine Wcf rfl ?_
                   refine Wskip ?_
                   refine bn ?_
                   refine qn ?_
                   refine Wreg ?_
                   refine rs (v := .int .i64 j22) (mv (v := .int .i64 j22) rfl) rfl ?_
                   refine rs (v := .int .i64 (IntKind.i64.wrap (j22 + 1))) (adw rfl rfl) rfl ?_
                   refine rs (v := .int .i64 (IntKind.i64.wrap (j22 + 1))) (av (v := .int .i64 (IntKind.i64.wrap (j22 + 1))) rfl) rfl ?_
                   refine rn ?_
                   refine qn ?_
                   replace hc := hc.rem 1 rfl rfl
                   exact ⟨m1, Nat.lt_succ_self _, ⟨r182.2, j135, (IntKind.i64.wrap (j22 + 1)), a136, j135.length, q138, rfl, hp, hc⟩, (kl rfl (km rfl (kl rfl k0)))⟩
                 · replace hp := gpos hp (of_decide_eq_true hb184)
                   refine Wct rfl ?_
                   refine Wseq ?_
                   refine Wreg ?_
                   refine rs (v := .bool false) (av (v := .bool false) rfl) rfl ?_
                   refine rn ?_
                   refine qn ?_
                   refine Wret ?_
                   refine br ?_
                   refine qr ?_
                   refine qr ?_
                   refine br ?_
                   refine qr ?_
                   replace hc := hc.rem 4 rfl rfl
                   replace hc := hc.rem 1 rfl rfl
                   replace hc := hc.rem 0 rfl rfl
                   injection hp with hp; subst hp
                   refine f1 (v := .bool false) Try.results4 Try.ntmps4 rfl ?_
                   exact ⟨_, rfl, k _ hc⟩
         · replace hp := gpos hp (of_decide_eq_true hb16)
           refine Wct rfl ?_
           refine Wseq ?_
           refine Wreg ?_
           refine rs (v := .bool false) (av (v := .bool false) rfl) rfl ?_
           refine rn ?_
           refine qn ?_
           refine Wret ?_
           refine qr ?_
           replace hc := hc.rem 0 rfl rfl
           injection hp with hp; subst hp
           refine f1 (v := .bool false) Try.results4 Try.ntmps4 rfl ?_
           exact ⟨_, rfl, k _ hc⟩
     · replace hp := gpos hp (of_decide_eq_true hb7)
       refine Wct rfl ?_
       refine Wseq ?_
       refine Wreg ?_
       replace hp := bind_some hp; obtain ⟨r185, hr185, hp⟩ := hp
       refine rc (cl Try.call6 rfl rfl) rfl ?_
       refine law22_awake_any hc hr185 ?_
       clear hc; intro w186 hc
       refine rs (v := .bool r185) (av (v := .bool r185) rfl) rfl ?_
       refine rn ?_
       refine qn ?_
       refine Wret ?_
       refine qr ?_
       injection hp with hp; subst hp
       refine f1 (v := .bool r185) Try.results4 Try.ntmps4 rfl ?_
       exact ⟨_, rfl, k _ hc⟩
   · replace hp := gpos hp (of_decide_eq_true hb6)
     refine r0 rfl ?_
     refine r0 rfl ?_
     refine r0 rfl ?_
     refine rs (v := .bool true) (pkt (v := .bool true) rfl rfl) rfl ?_
     refine rn ?_
     refine qn ?_
     refine Wct rfl ?_
     refine Wseq ?_
     refine Wreg ?_
     replace hp := bind_some hp; obtain ⟨r187, hr187, hp⟩ := hp
     refine rc (cl Try.call6 rfl rfl) rfl ?_
     refine law22_awake_any hc hr187 ?_
     clear hc; intro w188 hc
     refine rs (v := .bool r187) (av (v := .bool r187) rfl) rfl ?_
     refine rn ?_
     refine qn ?_
     refine Wret ?_
     refine qr ?_
     injection hp with hp; subst hp
     refine f1 (v := .bool r187) Try.results4 Try.ntmps4 rfl ?_
     exact ⟨_, rfl, k _ hc⟩

-- FN peloton/pelotonlaw22.BatchFair
def law22_BatchFair.J3 (j29 : Int) (k2 : (List (List Int)) → S_batch_Batch → Int → Option (Bool)) (j38 : (List (List Int))) (j39 : S_batch_Batch) : Option (Bool) :=
  k2 j38 j39 (IntKind.i64.wrap (j29 + 1))

def law22_BatchFair.J5 (N : Nat) (x2 : (List Int)) (j29 : Int) (j52 : (List (List Int))) (r56 : ((List Int))) (k2 : (List (List Int)) → S_batch_Batch → Int → Option (Bool)) (j62 : S_batch_Batch) : Option (Bool) :=
  (idx x2 j29).bind fun y89 =>
  if (Int.tmod y89 3) = 0 then
    (batch_Batch_Back N j62 r56).bind fun r99 =>
    law22_BatchFair.J3 j29 k2 j52 r99.2
  else
    law22_BatchFair.J3 j29 k2 j52 j62

def law22_BatchFair.J6 (j53 : Int) (k4 : (List (List Int)) → Int → Option (Bool)) (j101 : (List (List Int))) : Option (Bool) :=
  k4 j101 (IntKind.i64.wrap (j53 + 1))

def law22_BatchFair.L8 (e7 : Int) (r46 : ((List Int) × S_batch_Batch)) (j53 : Int) (k4 : (List (List Int)) → Int → Option (Bool)) : Nat → (List (List Int)) → Int → Option (Bool)
  | 0, _, _ => none
  | m8 + 1, j110, j111 =>
    if j111 < ((r46.1.length : Nat) : Int) then
      (idx r46.1 j111).bind fun y114 =>
      if y114 < 0 then
        some false
      else
        (idx r46.1 j111).bind fun y124 =>
        if y124 ≥ e7 then
          some false
        else
          (idx j110 j53).bind fun y134 =>
          (idx r46.1 j111).bind fun y155 =>
          (idx y134 y155).bind fun y164 =>
          (idx y134 y155).bind fun y173 =>
          (idx r46.1 j111).bind fun y186 =>
          (idx (y134.set (y155).toNat (IntKind.i64.wrap (y164 + 1))) y186).bind fun y195 =>
          if y195 > 1 then
            some false
          else
            (law22_BatchFair.L8 e7 r46 j53 k4 m8) (j110.set (j53).toNat (y134.set (y155).toNat (IntKind.i64.wrap (y164 + 1)))) (IntKind.i64.wrap (j111 + 1))
    else
      law22_BatchFair.J6 j53 k4 j110

def law22_BatchFair.J7 (N : Nat) (e7 : Int) (r46 : ((List Int) × S_batch_Batch)) (j52 : (List (List Int))) (j53 : Int) (k4 : (List (List Int)) → Int → Option (Bool)) (j102 : Bool) : Option (Bool) :=
  if j102 = true then
    chk (0 ≤ e7 ∧ e7 ≤ 4294967296) <|
    (idx j52 j53).bind fun y210 =>
    law22_BatchFair.J6 j53 k4 (j52.set (j53).toNat (List.replicate (e7).toNat 0))
  else
    law22_BatchFair.L8 e7 r46 j53 k4 N j52 0

def law22_BatchFair.L4 (N : Nat) (x2 : (List Int)) (e7 : Int) (j29 : Int) (r40 : ((List Int))) (r46 : ((List Int) × S_batch_Batch)) (k2 : (List (List Int)) → S_batch_Batch → Int → Option (Bool)) : Nat → (List (List Int)) → Int → Option (Bool)
  | 0, _, _ => none
  | m4 + 1, j52, j53 =>
    if j53 < e7 then
      (law22_has N r40 j53).bind fun r103 =>
      if r103 = true then
        law22_BatchFair.J7 N e7 r46 j52 j53 (law22_BatchFair.L4 N x2 e7 j29 r40 r46 k2 m4) true
      else
        (law22_has N r46.1 j53).bind fun r106 =>
        law22_BatchFair.J7 N e7 r46 j52 j53 (law22_BatchFair.L4 N x2 e7 j29 r40 r46 k2 m4) r106
    else
      (batch_Batch_In N r46.2).bind fun r56 =>
      if ((r56.length : Nat) : Int) > 0 then
        (idx x2 j29).bind fun y64 =>
        chk (((r56.length : Nat) : Int) ≠ 0) <|
        chk (((r56.length : Nat) : Int) ≠ 0) <|
        (idx r56 (Int.tmod (IntKind.i64.wrap ((Int.tmod y64 ((r56.length : Nat) : Int)) + ((r56.length : Nat) : Int))) ((r56.length : Nat) : Int))).bind fun y75 =>
        (batch_Batch_Back N r46.2 ([y75])).bind fun r86 =>
        law22_BatchFair.J5 N x2 j29 j52 r56 k2 r86.2
      else
        law22_BatchFair.J5 N x2 j29 j52 r56 k2 r46.2

def law22_BatchFair.L2 (N : Nat) (x2 : (List Int)) (e7 : Int) (e8 : Int) : Nat → (List (List Int)) → S_batch_Batch → Int → Option (Bool)
  | 0, _, _, _ => none
  | m2 + 1, j27, j28, j29 =>
    if j29 < ((x2.length : Nat) : Int) then
      (batch_Batch_In N j28).bind fun r40 =>
      (batch_Batch_Pick N j28 e8).bind fun r46 =>
      law22_BatchFair.L4 N x2 e7 j29 r40 r46 (law22_BatchFair.L2 N x2 e7 e8 m2) N j27 0
    else
      (batch_Batch_Members j28).bind fun r32 =>
      some (decide (((r32.length : Nat) : Int) = e7))

def law22_BatchFair.L1 (N : Nat) (x2 : (List Int)) (e7 : Int) (e8 : Int) : Nat → (List (List Int)) → S_batch_Batch → Int → Option (Bool)
  | 0, _, _, _ => none
  | m1 + 1, j22, j23, j24 =>
    if j24 < e7 then
      chk (0 ≤ e7 ∧ e7 ≤ 4294967296) <|
      (idx j22 j24).bind fun y236 =>
      (batch_Batch_Add N j23 ([j24])).bind fun r257 =>
      if r257.1 ≠ 0 then
        some false
      else
        (law22_BatchFair.L1 N x2 e7 e8 m1) (j22.set (j24).toNat (List.replicate (e7).toNat 0)) r257.2 (IntKind.i64.wrap (j24 + 1))
    else
      law22_BatchFair.L2 N x2 e7 e8 N j22 j23 0

def law22_BatchFair (N : Nat) (x0 : Int) (x1 : Int) (x2 : (List Int)) : Option (Bool) :=
  (law22_awake N).bind fun r1 =>
  if r1 = true then
    if ((x2.length : Nat) : Int) > 100 then
      (law22_awake N).bind fun r260 =>
      some r260
    else
      (some (IntKind.i64.wrap (1 + (Int.tmod (IntKind.i64.wrap ((Int.tmod x0 20) + 20)) 20)))).bind fun e7 =>
      (some (IntKind.i64.wrap (1 + (Int.tmod (IntKind.i64.wrap ((Int.tmod x1 5) + 5)) 5)))).bind fun e8 =>
      (batch_New 20).bind fun r9 =>
      optc r9.1 (
        some false) fun y13 =>
      if r9.2 ≠ 0 then
        some false
      else
        chk (0 ≤ e7 ∧ e7 ≤ 4294967296) <|
        law22_BatchFair.L1 N x2 e7 e8 N (List.replicate (e7).toNat []) y13 0
  else
    (law22_awake N).bind fun r4 =>
    some r4

set_option maxHeartbeats 8000000 in
theorem law22_BatchFair_any {N : Nat} {x0 : Int} {x1 : Int} {x2 : (List Int)} {ax2 : Option Addr} {nx2 : Nat} {qx2 : Nat} {P2 : HP} {Fr : List HP} {w : World} {r : Bool} {K : Value → World → Prop} (hrd2 : Reads P2 (pInt .i64) (.slice ax2 nx2 qx2) x2) (hc : Ctx w (P2 :: Fr)) (hp : law22_BatchFair N x0 x1 x2 = some r)
    (k : ∀ w', Ctx w' (P2 :: Fr) → K (.bool r) w') : Calls Try.prog 3 #[.int .i64 x0, .int .i64 x1, .slice ax2 nx2 qx2] w (Ret K) := by
 unfold law22_BatchFair at hp
 refine Center (args := [.int .i64 x0, .int .i64 x1, .slice ax2 nx2 qx2]) (l := [(0, .int .i64 x0), (1, .int .i64 x1), (2, .slice ax2 nx2 qx2)]) Try.func3 Try.ntmps3 rfl rfl rfl ?_
 obtain ⟨hn2, _⟩ := Ctx.rdLen hc (k := 0) rfl rfl hrd2; subst hn2
 refine Wseq ?_
 refine Wreg ?_
 refine rs (v := .bool false) (av (v := .bool false) rfl) rfl ?_
 refine rn ?_
 refine qn ?_
 refine Wseq ?_
 refine Wseq ?_
 refine Wreg ?_
 replace hp := bind_some hp; obtain ⟨r1, hr1, hp⟩ := hp
 refine rc (cl Try.call6 rfl rfl) rfl ?_
 refine law22_awake_any hc hr1 ?_
 clear hc; intro w2 hc
 cases hb3 : r1
 · replace hp := gneg hp (by rw [hb3]; exact Bool.false_ne_true)
   subst hb3
   refine rs (v := .bool true) (ntf rfl) rfl ?_
   refine rs (v := .bool true) (mv (v := .bool true) rfl) rfl ?_
   refine r0 rfl ?_
   refine r0 rfl ?_
   refine r0 rfl ?_
   refine rs (v := .bool true) (pkt (v := .bool true) rfl rfl) rfl ?_
   refine rn ?_
   refine qn ?_
   refine Wct rfl ?_
   refine Wseq ?_
   refine Wreg ?_
   replace hp := bind_some hp; obtain ⟨r4, hr4, hp⟩ := hp
   refine rc (cl Try.call6 rfl rfl) rfl ?_
   refine law22_awake_any hc hr4 ?_
   clear hc; intro w5 hc
   refine rs (v := .bool r4) (av (v := .bool r4) rfl) rfl ?_
   refine rn ?_
   refine qn ?_
   refine Wret ?_
   refine qr ?_
   injection hp with hp; subst hp
   refine f1 (v := .bool r4) Try.results3 Try.ntmps3 rfl ?_
   exact ⟨_, rfl, k _ hc⟩
 · replace hp := gpos hp hb3
   subst hb3
   refine rs (v := .bool false) (ntt rfl) rfl ?_
   refine rs (v := .bool false) (mv (v := .bool false) rfl) rfl ?_
   refine rs (v := .slice ax2 x2.length qx2) (mv (v := .slice ax2 x2.length qx2) rfl) rfl ?_
   refine rs (v := .int .i64 ((x2.length : Nat) : Int)) (ln rfl Try.underlying22) rfl ?_
   refine rs (v := .bool (decide (((x2.length : Nat) : Int) > 100))) (gt' rfl rfl) rfl ?_
   refine rs (v := .bool (decide (((x2.length : Nat) : Int) > 100))) (pkf (v := .bool (decide (((x2.length : Nat) : Int) > 100))) rfl rfl) rfl ?_
   refine rn ?_
   refine qn ?_
   cases hb6 : (decide (((x2.length : Nat) : Int) > 100))
   · replace hp := gneg hp (of_decide_eq_false hb6)
     refine Wcf rfl ?_
     refine Wskip ?_
     refine qn ?_
     refine Wseq ?_
     refine Wreg ?_
     refine rs (v := .int .i64 x0) (mv (v := .int .i64 x0) rfl) rfl ?_
     refine rs (v := .int .i64 (Int.tmod x0 20)) (rm rfl rfl (by decide)) rfl ?_
     refine rs (v := .int .i64 (IntKind.i64.wrap ((Int.tmod x0 20) + 20))) (adw rfl rfl) rfl ?_
     refine rs (v := .int .i64 (Int.tmod (IntKind.i64.wrap ((Int.tmod x0 20) + 20)) 20)) (rm rfl rfl (by decide)) rfl ?_
     refine rs (v := .int .i64 (IntKind.i64.wrap (1 + (Int.tmod (IntKind.i64.wrap ((Int.tmod x0 20) + 20)) 20)))) (adw rfl rfl) rfl ?_
     replace hp := bind_some hp; obtain ⟨e7, he7, hp⟩ := hp
     injection he7 with he7
     refine rs (v := .int .i64 e7) (av (v := .int .i64 e7) (by rw [← he7]; rfl)) rfl ?_
     refine rn ?_
     refine qn ?_
     refine Wseq ?_
     refine Wreg ?_
     refine rs (v := .int .i64 x1) (mv (v := .int .i64 x1) rfl) rfl ?_
     refine rs (v := .int .i64 (Int.tmod x1 5)) (rm rfl rfl (by decide)) rfl ?_
     refine rs (v := .int .i64 (IntKind.i64.wrap ((Int.tmod x1 5) + 5))) (adw rfl rfl) rfl ?_
     refine rs (v := .int .i64 (Int.tmod (IntKind.i64.wrap ((Int.tmod x1 5) + 5)) 5)) (rm rfl rfl (by decide)) rfl ?_
     refine rs (v := .int .i64 (IntKind.i64.wrap (1 + (Int.tmod (IntKind.i64.wrap ((Int.tmod x1 5) + 5)) 5)))) (adw rfl rfl) rfl ?_
     replace hp := bind_some hp; obtain ⟨e8, he8, hp⟩ := hp
     injection he8 with he8
     refine rs (v := .int .i64 e8) (av (v := .int .i64 e8) (by rw [← he8]; rfl)) rfl ?_
     refine rn ?_
     refine qn ?_
     refine Wseq ?_
     refine Wreg ?_
     replace hp := bind_some hp; obtain ⟨r9, hr9, hp⟩ := hp
     refine rc (cl Try.call7 rfl rfl) rfl ?_
     refine batch_New_any hc hr9 ?_
     clear hc; intro v10 w11 hc
     refine rs (v := .tuple #[v10, .int .i64 r9.2]) (mv (v := .tuple #[v10, .int .i64 r9.2]) rfl) rfl ?_
     refine rs (v := v10) (ext (v := v10) rfl rfl) rfl ?_
     refine rs (v := .int .i64 r9.2) (ext (v := .int .i64 r9.2) rfl rfl) rfl ?_
     refine rs (v := v10) (av (v := v10) rfl) rfl ?_
     refine rs (v := .int .i64 r9.2) (av (v := .int .i64 r9.2) rfl) rfl ?_
     refine rn ?_
     refine qn ?_
     refine Wseq ?_
     refine Wseq ?_
     refine Wreg ?_
     refine rs (v := v10) (mv (v := v10) rfl) rfl ?_
     cases hb12 : r9.1
     · replace hp := optN hp hb12
       rw [hb12] at hc
       replace hc := Ctx.ptoN hc; obtain ⟨u14, hc⟩ := hc; subst u14
       refine rs (v := .bool true) (ept Try.underlying24 rfl rfl) rfl ?_
       refine rs (v := .bool true) (mv (v := .bool true) rfl) rfl ?_
       refine r0 rfl ?_
       refine r0 rfl ?_
       refine rs (v := .bool true) (pkt (v := .bool true) rfl rfl) rfl ?_
       refine rn ?_
       refine qn ?_
       refine Wct rfl ?_
       refine Wseq ?_
       refine Wreg ?_
       refine rs (v := .bool false) (av (v := .bool false) rfl) rfl ?_
       refine rn ?_
       refine qn ?_
       refine Wret ?_
       refine qr ?_
       injection hp with hp; subst hp
       refine f1 (v := .bool false) Try.results3 Try.ntmps3 rfl ?_
       exact ⟨_, rfl, k _ hc⟩
     · rename_i y13
       replace hp := optS hp hb12
       rw [hb12] at hc
       replace hc := Ctx.ptoS hc; obtain ⟨b15, u16, hc⟩ := hc; subst u16
       refine rs (v := .bool false) (epf Try.underlying24 rfl rfl) rfl ?_
       refine rs (v := .bool false) (mv (v := .bool false) rfl) rfl ?_
       refine rs (v := .int .i64 r9.2) (mv (v := .int .i64 r9.2) rfl) rfl ?_
       refine rs (v := .bool (decide (r9.2 ≠ 0))) (ned rfl rfl) rfl ?_
       refine rs (v := .bool (decide (r9.2 ≠ 0))) (pkf (v := .bool (decide (r9.2 ≠ 0))) rfl rfl) rfl ?_
       refine rn ?_
       refine qn ?_
       cases hb17 : (decide (r9.2 ≠ 0))
       · replace hp := gneg hp (of_decide_eq_false hb17)
         refine Wcf rfl ?_
         refine Wskip ?_
         refine qn ?_
         refine Wseq ?_
         refine Wreg ?_
         refine rs (v := .int .i64 e7) (mv (v := .int .i64 e7) rfl) rfl ?_
         replace hp := chk_some hp; obtain ⟨hg18, hp⟩ := hp
         have hm20 : ((e7).toNat : Int) = e7 := Int.toNat_of_nonneg hg18.1
         refine rsE (Ctx.make (n := (e7).toNat) (E := pAny 1) (x0 := [.slice none 0 0]) hc (by rw [hm20]; rfl) (by rw [hm20]; rfl) Try.underlying28 (i := Try.t22) rfl rfl rfl rfl rfl rfl (fun _ _ => ⟨rfl, rfl, fun v hv => by rw [List.mem_singleton] at hv; rw [hv]; rfl⟩) (by omega)) rfl ?_
         clear hc; rintro _ w21 ⟨a19, rfl, hc⟩
         replace hc := Ctx.bigRep (V := (vOwn (pInt .i64) 3).r) (a := [.slice none 0 0]) (b := []) vOwn_nil (e7).toNat hc
         replace hc : Ctx w21 (OwnV (vOwn (pInt .i64) 3) 22 (.slice a19 ((e7).toNat) ((e7).toNat)) (List.replicate (e7).toNat []) :: S_batch_Batch.hp b15 y13 :: P2 :: Fr) := Ctx.ownVB hc.swap
         refine rs (v := .slice a19 ((e7).toNat) ((e7).toNat)) (av (v := .slice a19 ((e7).toNat) ((e7).toNat)) rfl) rfl ?_
         refine rn ?_
         refine qn ?_
         refine Wseq ?_
         refine Wseq ?_
         refine Wreg ?_
         refine rs (v := .int .i64 0) (av (v := .int .i64 0) rfl) rfl ?_
         refine rn ?_
         refine qn ?_
         refine Wblk ?_
         refine Wloop [6, 12, 48, 49, 50, 51, 52, 53, 54, 55, 56, 57, 58, 59, 60, 61, 62] [12] (fun m vs w' => ∃ j22 : (List (List Int)), ∃ j23 : S_batch_Batch, ∃ j24 : Int, vs = [.int .i64 j24] ∧ law22_BatchFair.L1 N x2 e7 e8 m j22 j23 j24 = some r ∧ Ctx w' (OwnV (vOwn (pInt .i64) 3) 22 (.slice a19 ((e7).toNat) ((e7).toNat)) j22 :: S_batch_Batch.hp b15 j23 :: P2 :: Fr)) N ?_ ?_
         · exact ⟨(List.replicate (e7).toNat []), y13, 0, rfl, hp, hc⟩
         · clear hp hc; intro m vs u w25 hJ
           obtain ⟨j22, j23, j24, rfl, hp, hc⟩ := hJ
           rcases m with _ | m1
           · cases (show none = some r from hp)
           rw [law22_BatchFair.L1] at hp
           refine Wseq ?_
           refine Wseq ?_
           refine Wreg ?_
           refine rs (v := .int .i64 j24) (mv (v := .int .i64 j24) rfl) rfl ?_
           refine rs (v := .int .i64 e7) (mv (v := .int .i64 e7) rfl) rfl ?_
           refine rs (v := .bool (decide (j24 < e7))) (lt' rfl rfl) rfl ?_
           refine rn ?_
           refine qn ?_
           cases hb26 : (decide (j24 < e7))
           · replace hp := gneg hp (of_decide_eq_false hb26)
             refine Wcf rfl ?_
             refine Wexit ?_
             refine qx ?_
             refine qx ?_
             refine be ?_
             refine qn ?_
             refine Wseq ?_
             refine Wseq ?_
             refine Wreg ?_
             refine rs (v := .int .i64 0) (av (v := .int .i64 0) rfl) rfl ?_
             refine rn ?_
             refine qn ?_
             refine Wblk ?_
             refine Wloop [6, 13, 14, 15, 16, 17, 63, 64, 65, 66, 67, 68, 69, 70, 71, 72, 73, 74, 75, 76, 77, 78, 79, 80, 81, 82, 83, 84, 85, 86, 87, 88, 89, 90, 91, 92, 93, 94, 95, 96, 97, 98, 99, 100, 101, 102, 103, 104, 105, 106, 107, 108, 109, 110, 111, 112, 113, 114, 115, 116, 117, 118, 119, 120, 121, 122, 123, 124, 125, 126, 127, 128, 129, 130, 131, 132, 133, 134, 135, 136, 137, 138, 139, 140, 141, 142, 143, 144, 145, 146, 147, 148, 149, 150, 151, 152, 153, 154, 155, 156, 157, 158, 159, 160, 161, 162, 163, 164, 165, 166] [13] (fun m vs w' => ∃ j27 : (List (List Int)), ∃ j28 : S_batch_Batch, ∃ j29 : Int, vs = [.int .i64 j29] ∧ law22_BatchFair.L2 N x2 e7 e8 m j27 j28 j29 = some r ∧ Ctx w' (OwnV (vOwn (pInt .i64) 3) 22 (.slice a19 ((e7).toNat) ((e7).toNat)) j27 :: S_batch_Batch.hp b15 j28 :: P2 :: Fr)) N ?_ ?_
             · exact ⟨j22, j23, 0, rfl, hp, hc⟩
             · clear hp hc; intro m vs u w30 hJ
               obtain ⟨j27, j28, j29, rfl, hp, hc⟩ := hJ
               rcases m with _ | m2
               · cases (show none = some r from hp)
               rw [law22_BatchFair.L2] at hp
               refine Wseq ?_
               refine Wseq ?_
               refine Wreg ?_
               refine rs (v := .int .i64 j29) (mv (v := .int .i64 j29) rfl) rfl ?_
               refine rs (v := .slice ax2 x2.length qx2) (mv (v := .slice ax2 x2.length qx2) rfl) rfl ?_
               refine rs (v := .int .i64 ((x2.length : Nat) : Int)) (ln rfl Try.underlying22) rfl ?_
               refine rs (v := .bool (decide (j29 < ((x2.length : Nat) : Int)))) (lt' rfl rfl) rfl ?_
               refine rn ?_
               refine qn ?_
               cases hb31 : (decide (j29 < ((x2.length : Nat) : Int)))
               · replace hp := gneg hp (of_decide_eq_false hb31)
                 refine Wcf rfl ?_
                 refine Wexit ?_
                 refine qx ?_
                 refine qx ?_
                 refine be ?_
                 refine qn ?_
                 refine Wseq ?_
                 refine Wreg ?_
                 refine rs (v := .pointer (some ⟨b15, 0, none⟩)) (mv (v := .pointer (some ⟨b15, 0, none⟩)) rfl) rfl ?_
                 replace hp := bind_some hp; obtain ⟨r32, hr32, hp⟩ := hp
                 replace hc := hc.pull 1 rfl rfl
                 refine rc (cl Try.call13 rfl rfl) rfl ?_
                 refine batch_Batch_Members_any hc hr32 ?_
                 clear hc; intro a33 n34 q35 w36 hc
                 obtain ⟨u37, _⟩ := Ctx.rdLen hc (k := 0) rfl rfl reads_own; subst u37
                 refine rs (v := .int .i64 ((r32.length : Nat) : Int)) (ln rfl Try.underlying22) rfl ?_
                 refine rs (v := .int .i64 e7) (mv (v := .int .i64 e7) rfl) rfl ?_
                 refine rs (v := .bool (decide (((r32.length : Nat) : Int) = e7))) (eqd rfl rfl) rfl ?_
                 refine rs (v := .bool (decide (((r32.length : Nat) : Int) = e7))) (av (v := .bool (decide (((r32.length : Nat) : Int) = e7))) rfl) rfl ?_
                 refine rn ?_
                 refine qn ?_
                 refine Wret ?_
                 replace hc := hc.rem 2 rfl rfl
                 replace hc := hc.rem 1 rfl rfl
                 replace hc := hc.rem 0 rfl rfl
                 injection hp with hp; subst hp
                 refine f1 (v := .bool (decide (((r32.length : Nat) : Int) = e7))) Try.results3 Try.ntmps3 rfl ?_
                 exact ⟨_, rfl, k _ hc⟩
               · replace hp := gpos hp (of_decide_eq_true hb31)
                 refine Wct rfl ?_
                 refine Wskip ?_
                 refine qn ?_
                 refine Wseqm [6, 14, 15, 16, 17, 69, 70, 71, 72, 73, 74, 75, 76, 77, 78, 79, 80, 81, 82, 83, 84, 85, 86, 87, 88, 89, 90, 91, 92, 93, 94, 95, 96, 97, 98, 99, 100, 101, 102, 103, 104, 105, 106, 107, 108, 109, 110, 111, 112, 113, 114, 115, 116, 117, 118, 119, 120, 121, 122, 123, 124, 125, 126, 127, 128, 129, 130, 131, 132, 133, 134, 135, 136, 137, 138, 139, 140, 141, 142, 143, 144, 145, 146, 147, 148, 149, 150, 151, 152, 153, 154, 155, 156, 157, 158, 159, 160, 161, 162, 163, 164, 165, 166] [] (fun vs w' => ∃ j38 : (List (List Int)), ∃ j39 : S_batch_Batch, vs = [] ∧ law22_BatchFair.J3 j29 (law22_BatchFair.L2 N x2 e7 e8 m2) j38 j39 = some r ∧ Ctx w' (OwnV (vOwn (pInt .i64) 3) 22 (.slice a19 ((e7).toNat) ((e7).toNat)) j38 :: S_batch_Batch.hp b15 j39 :: P2 :: Fr)) ?_ ?_
                 · refine Wblk ?_
                   refine Wseq ?_
                   refine Wreg ?_
                   refine rs (v := .pointer (some ⟨b15, 0, none⟩)) (mv (v := .pointer (some ⟨b15, 0, none⟩)) rfl) rfl ?_
                   replace hp := bind_some hp; obtain ⟨r40, hr40, hp⟩ := hp
                   replace hc := hc.pull 1 rfl rfl
                   refine rc (cl Try.call9 rfl rfl) rfl ?_
                   refine batch_Batch_In_any hc hr40 ?_
                   clear hc; intro a41 n42 q43 w44 hc
                   obtain ⟨u45, _⟩ := Ctx.rdLen hc (k := 0) rfl rfl reads_own; subst u45
                   refine rs (v := .slice a41 r40.length q43) (av (v := .slice a41 r40.length q43) rfl) rfl ?_
                   refine rn ?_
                   refine qn ?_
                   refine Wseq ?_
                   refine Wreg ?_
                   refine rs (v := .pointer (some ⟨b15, 0, none⟩)) (mv (v := .pointer (some ⟨b15, 0, none⟩)) rfl) rfl ?_
                   refine rs (v := .int .i64 e8) (mv (v := .int .i64 e8) rfl) rfl ?_
                   replace hp := bind_some hp; obtain ⟨r46, hr46, hp⟩ := hp
                   replace hc := hc.pull 1 rfl rfl
                   refine rc (cl Try.call10 rfl rfl) rfl ?_
                   refine batch_Batch_Pick_any hc hr46 ?_
                   clear hc; intro a47 n48 q49 w50 hc
                   obtain ⟨u51, _⟩ := Ctx.rdLen hc (k := 0) rfl rfl reads_own; subst u51
                   refine rs (v := .slice a47 r46.1.length q49) (av (v := .slice a47 r46.1.length q49) rfl) rfl ?_
                   refine rn ?_
                   refine qn ?_
                   refine Wseq ?_
                   refine Wseq ?_
                   refine Wreg ?_
                   refine rs (v := .int .i64 0) (av (v := .int .i64 0) rfl) rfl ?_
                   refine rn ?_
                   refine qn ?_
                   refine Wblk ?_
                   refine Wloop [6, 16, 17, 74, 75, 76, 77, 78, 79, 80, 81, 82, 83, 84, 85, 86, 87, 88, 89, 90, 91, 92, 93, 94, 95, 96, 97, 98, 99, 100, 101, 102, 103, 104, 105, 106, 107, 108, 109, 110, 111, 112, 113, 114, 115, 116, 117, 118, 119, 120, 121, 122, 123, 124, 125, 126, 127, 128, 129, 130, 131, 132, 133] [16] (fun m vs w' => ∃ j52 : (List (List Int)), ∃ j53 : Int, vs = [.int .i64 j53] ∧ law22_BatchFair.L4 N x2 e7 j29 r40 r46 (law22_BatchFair.L2 N x2 e7 e8 m2) m j52 j53 = some r ∧ Ctx w' (Own (pInt .i64) 3 (.slice a47 r46.1.length q49) r46.1 :: S_batch_Batch.hp b15 r46.2 :: Own (pInt .i64) 3 (.slice a41 r40.length q43) r40 :: OwnV (vOwn (pInt .i64) 3) 22 (.slice a19 ((e7).toNat) ((e7).toNat)) j52 :: P2 :: Fr)) N ?_ ?_
                   · exact ⟨j27, 0, rfl, hp, hc⟩
                   · clear hp hc; intro m vs u w54 hJ
                     obtain ⟨j52, j53, rfl, hp, hc⟩ := hJ
                     rcases m with _ | m4
                     · cases (show none = some r from hp)
                     rw [law22_BatchFair.L4] at hp
                     refine Wseq ?_
                     refine Wseq ?_
                     refine Wreg ?_
                     refine rs (v := .int .i64 j53) (mv (v := .int .i64 j53) rfl) rfl ?_
                     refine rs (v := .int .i64 e7) (mv (v := .int .i64 e7) rfl) rfl ?_
                     refine rs (v := .bool (decide (j53 < e7))) (lt' rfl rfl) rfl ?_
                     refine rn ?_
                     refine qn ?_
                     cases hb55 : (decide (j53 < e7))
                     · replace hp := gneg hp (of_decide_eq_false hb55)
                       refine Wcf rfl ?_
                       refine Wexit ?_
                       refine qx ?_
                       refine qx ?_
                       refine be ?_
                       refine qn ?_
                       refine Wseq ?_
                       refine Wreg ?_
                       refine rs (v := .pointer (some ⟨b15, 0, none⟩)) (mv (v := .pointer (some ⟨b15, 0, none⟩)) rfl) rfl ?_
                       replace hp := bind_some hp; obtain ⟨r56, hr56, hp⟩ := hp
                       replace hc := hc.pull 1 rfl rfl
                       refine rc (cl Try.call9 rfl rfl) rfl ?_
                       refine batch_Batch_In_any hc hr56 ?_
                       clear hc; intro a57 n58 q59 w60 hc
                       obtain ⟨u61, _⟩ := Ctx.rdLen hc (k := 0) rfl rfl reads_own; subst u61
                       refine rs (v := .slice a57 r56.length q59) (av (v := .slice a57 r56.length q59) rfl) rfl ?_
                       refine rn ?_
                       refine qn ?_
                       refine Wseqm [136, 137, 138, 139, 140, 141, 142, 143, 144, 145, 146, 147, 148, 149, 150, 151, 152, 153, 154, 155, 156, 157] [] (fun vs w' => ∃ j62 : S_batch_Batch, vs = [] ∧ law22_BatchFair.J5 N x2 j29 j52 r56 (law22_BatchFair.L2 N x2 e7 e8 m2) j62 = some r ∧ Ctx w' (Own (pInt .i64) 3 (.slice a57 r56.length q59) r56 :: S_batch_Batch.hp b15 j62 :: OwnV (vOwn (pInt .i64) 3) 22 (.slice a19 ((e7).toNat) ((e7).toNat)) j52 :: P2 :: Fr)) ?_ ?_
                       · refine Wseq ?_
                         refine Wreg ?_
                         refine rs (v := .slice a57 r56.length q59) (mv (v := .slice a57 r56.length q59) rfl) rfl ?_
                         refine rs (v := .int .i64 ((r56.length : Nat) : Int)) (ln rfl Try.underlying22) rfl ?_
                         refine rs (v := .bool (decide (((r56.length : Nat) : Int) > 0))) (gt' rfl rfl) rfl ?_
                         refine rn ?_
                         refine qn ?_
                         cases hb63 : (decide (((r56.length : Nat) : Int) > 0))
                         · replace hp := gneg hp (of_decide_eq_false hb63)
                           refine Wcf rfl ?_
                           refine Wskip ?_
                           refine qn ?_
                           replace hc := hc.rem 3 rfl rfl
                           replace hc := hc.rem 2 rfl rfl
                           exact ⟨⟨r46.2, rfl, hp, hc⟩, (kl rfl kb)⟩
                         · replace hp := gpos hp (of_decide_eq_true hb63)
                           refine Wct rfl ?_
                           refine Wreg ?_
                           refine rs (v := .pointer (some ⟨b15, 0, none⟩)) (mv (v := .pointer (some ⟨b15, 0, none⟩)) rfl) rfl ?_
                           refine rs (v := .slice a57 r56.length q59) (mv (v := .slice a57 r56.length q59) rfl) rfl ?_
                           refine rs (v := .slice ax2 x2.length qx2) (mv (v := .slice ax2 x2.length qx2) rfl) rfl ?_
                           refine rs (v := .int .i64 j29) (mv (v := .int .i64 j29) rfl) rfl ?_
                           replace hp := bind_some hp; obtain ⟨y64, hy64, hp⟩ := hp
                           obtain ⟨b67, o68, u69, hi65, hi66⟩ := Ctx.rdAt hc (k := 5) rfl rfl hrd2 hy64
                           subst u69
                           refine rs (v := .pointer (some ⟨b67, o68 + (j29).toNat * 1, none⟩)) (ixx rfl rfl Try.underlying22 Try.sizeOf3 hi65 hi66 rfl) rfl ?_
                           replace hc := Ctx.rdCell hc (k := 5) rfl rfl hrd2 hy64; obtain ⟨cs70, hc, hcell71⟩ := hc
                           replace hc := Ctx.holdC hc; obtain ⟨u72, hc⟩ := hc; subst u72
                           refine rs (v := .int .i64 y64) (ld rfl Try.isAgg3 (hcell71 0 _ rfl)) rfl ?_
                           refine rs (v := .slice a57 r56.length q59) (mv (v := .slice a57 r56.length q59) rfl) rfl ?_
                           refine rs (v := .int .i64 ((r56.length : Nat) : Int)) (ln rfl Try.underlying22) rfl ?_
                           replace hp := chk_some hp; obtain ⟨hg73, hp⟩ := hp
                           refine rs (v := .int .i64 (Int.tmod y64 ((r56.length : Nat) : Int))) (rm rfl rfl hg73) rfl ?_
                           refine rs (v := .slice a57 r56.length q59) (mv (v := .slice a57 r56.length q59) rfl) rfl ?_
                           refine rs (v := .int .i64 ((r56.length : Nat) : Int)) (ln rfl Try.underlying22) rfl ?_
                           refine rs (v := .int .i64 (IntKind.i64.wrap ((Int.tmod y64 ((r56.length : Nat) : Int)) + ((r56.length : Nat) : Int)))) (adw rfl rfl) rfl ?_
                           refine rs (v := .slice a57 r56.length q59) (mv (v := .slice a57 r56.length q59) rfl) rfl ?_
                           refine rs (v := .int .i64 ((r56.length : Nat) : Int)) (ln rfl Try.underlying22) rfl ?_
                           replace hp := chk_some hp; obtain ⟨hg74, hp⟩ := hp
                           refine rs (v := .int .i64 (Int.tmod (IntKind.i64.wrap ((Int.tmod y64 ((r56.length : Nat) : Int)) + ((r56.length : Nat) : Int))) ((r56.length : Nat) : Int))) (rm rfl rfl hg74) rfl ?_
                           replace hp := bind_some hp; obtain ⟨y75, hy75, hp⟩ := hp
                           obtain ⟨b78, o79, u80, hi76, hi77⟩ := Ctx.rdAt hc (k := 0) rfl rfl reads_own hy75
                           subst u80
                           refine rs (v := .pointer (some ⟨b78, o79 + ((Int.tmod (IntKind.i64.wrap ((Int.tmod y64 ((r56.length : Nat) : Int)) + ((r56.length : Nat) : Int))) ((r56.length : Nat) : Int))).toNat * 1, none⟩)) (ixx rfl rfl Try.underlying22 Try.sizeOf3 hi76 hi77 rfl) rfl ?_
                           replace hc := Ctx.rdCell hc (k := 0) rfl rfl reads_own hy75; obtain ⟨cs81, hc, hcell82⟩ := hc
                           replace hc := Ctx.holdC hc; obtain ⟨u83, hc⟩ := hc; subst u83
                           refine rs (v := .int .i64 y75) (ld rfl Try.isAgg3 (hcell82 0 _ rfl)) rfl ?_
                           replace hc : Ctx w60 (Hold (pInt .i64) [.int .i64 y75] y75 :: Own (pInt .i64) 3 (.slice (some ⟨b78, o79, none⟩) r56.length q59) r56 :: S_batch_Batch.hp b15 r46.2 :: Own (pInt .i64) 3 (.slice a47 r46.1.length q49) r46.1 :: Own (pInt .i64) 3 (.slice a41 r40.length q43) r40 :: OwnV (vOwn (pInt .i64) 3) 22 (.slice a19 ((e7).toNat) ((e7).toNat)) j52 :: P2 :: Fr) := hc.add _ fun _ _ _ => ⟨rfl, rfl⟩
                           refine rsE (Ctx.builtOp (css := [[.int .i64 y75]]) (xs := ([y75] : List Int)) (E := (pInt .i64)) hc Try.underlying22 Try.sizeOf3 Try.zeroValue3 rfl rfl rfl rfl rfl rfl rfl rfl) rfl ?_
                           clear hc; rintro _ w85 ⟨a84, rfl, hc⟩
                           replace hp := bind_some hp; obtain ⟨r86, hr86, hp⟩ := hp
                           replace hc := hc.pull 2 rfl rfl
                           refine rc (cl Try.call12 rfl rfl) rfl ?_
                           refine batch_Batch_Back_any reads_own hc hr86 ?_
                           clear hc; intro w87 hc
                           refine rn ?_
                           refine qn ?_
                           replace hc := hc.rem 4 rfl rfl
                           replace hc := hc.rem 3 rfl rfl
                           replace hc := hc.rem 1 rfl rfl
                           replace hc := hc.pull 3 rfl rfl
                           replace hc := hc.pull 3 rfl rfl
                           replace hc := hc.pull 2 rfl rfl
                           replace hc := hc.pull 3 rfl rfl
                           exact ⟨⟨r86.2, rfl, hp, hc⟩, (kl rfl kb)⟩
                       · clear hp hc; intro vs u w88 hJ
                         obtain ⟨j62, rfl, hp, hc⟩ := hJ
                         unfold law22_BatchFair.J5 at hp
                         refine Wseq ?_
                         refine Wreg ?_
                         refine rs (v := .slice ax2 x2.length qx2) (mv (v := .slice ax2 x2.length qx2) rfl) rfl ?_
                         refine rs (v := .int .i64 j29) (mv (v := .int .i64 j29) rfl) rfl ?_
                         replace hp := bind_some hp; obtain ⟨y89, hy89, hp⟩ := hp
                         obtain ⟨b92, o93, u94, hi90, hi91⟩ := Ctx.rdAt hc (k := 3) rfl rfl hrd2 hy89
                         subst u94
                         refine rs (v := .pointer (some ⟨b92, o93 + (j29).toNat * 1, none⟩)) (ixx rfl rfl Try.underlying22 Try.sizeOf3 hi90 hi91 rfl) rfl ?_
                         replace hc := Ctx.rdCell hc (k := 3) rfl rfl hrd2 hy89; obtain ⟨cs95, hc, hcell96⟩ := hc
                         replace hc := Ctx.holdC hc; obtain ⟨u97, hc⟩ := hc; subst u97
                         refine rs (v := .int .i64 y89) (ld rfl Try.isAgg3 (hcell96 0 _ rfl)) rfl ?_
                         refine rs (v := .int .i64 (Int.tmod y89 3)) (rm rfl rfl (by decide)) rfl ?_
                         refine rs (v := .bool (decide ((Int.tmod y89 3) = 0))) (eqd rfl rfl) rfl ?_
                         refine rn ?_
                         refine qn ?_
                         cases hb98 : (decide ((Int.tmod y89 3) = 0))
                         · replace hp := gneg hp (of_decide_eq_false hb98)
                           refine Wcf rfl ?_
                           refine Wskip ?_
                           refine bn ?_
                           refine qn ?_
                           replace hc := hc.rem 0 rfl rfl
                           replace hc := hc.pull 2 rfl rfl
                           replace hc := hc.pull 1 rfl rfl
                           replace hc := hc.pull 2 rfl rfl
                           exact ⟨⟨j52, j62, rfl, hp, hc⟩, (kl rfl (km rfl (kl rfl (km rfl (kl rfl kb)))))⟩
                         · replace hp := gpos hp (of_decide_eq_true hb98)
                           refine Wct rfl ?_
                           refine Wreg ?_
                           refine rs (v := .pointer (some ⟨b15, 0, none⟩)) (mv (v := .pointer (some ⟨b15, 0, none⟩)) rfl) rfl ?_
                           refine rs (v := .slice a57 r56.length q59) (mv (v := .slice a57 r56.length q59) rfl) rfl ?_
                           replace hp := bind_some hp; obtain ⟨r99, hr99, hp⟩ := hp
                           replace hc := hc.pull 1 rfl rfl
                           refine rc (cl Try.call12 rfl rfl) rfl ?_
                           refine batch_Batch_Back_any reads_own hc hr99 ?_
                           clear hc; intro w100 hc
                           refine rn ?_
                           refine bn ?_
                           refine qn ?_
                           replace hc := hc.rem 1 rfl rfl
                           replace hc := hc.pull 2 rfl rfl
                           replace hc := hc.pull 1 rfl rfl
                           replace hc := hc.pull 2 rfl rfl
                           exact ⟨⟨j52, r99.2, rfl, hp, hc⟩, (kl rfl (km rfl (kl rfl (km rfl (kl rfl kb)))))⟩
                     · replace hp := gpos hp (of_decide_eq_true hb55)
                       refine Wct rfl ?_
                       refine Wskip ?_
                       refine qn ?_
                       refine Wseqm [6, 17, 79, 80, 81, 82, 83, 84, 85, 86, 87, 88, 89, 90, 91, 92, 93, 94, 95, 96, 97, 98, 99, 100, 101, 102, 103, 104, 105, 106, 107, 108, 109, 110, 111, 112, 113, 114, 115, 116, 117, 118, 119, 120, 121, 122, 123, 124, 125, 126, 127, 128, 129, 130, 131, 132, 133] [] (fun vs w' => ∃ j101 : (List (List Int)), vs = [] ∧ law22_BatchFair.J6 j53 (law22_BatchFair.L4 N x2 e7 j29 r40 r46 (law22_BatchFair.L2 N x2 e7 e8 m2) m4) j101 = some r ∧ Ctx w' (Own (pInt .i64) 3 (.slice a47 r46.1.length q49) r46.1 :: S_batch_Batch.hp b15 r46.2 :: Own (pInt .i64) 3 (.slice a41 r40.length q43) r40 :: OwnV (vOwn (pInt .i64) 3) 22 (.slice a19 ((e7).toNat) ((e7).toNat)) j101 :: P2 :: Fr)) ?_ ?_
                       · refine Wblk ?_
                         refine Wseq ?_
                         refine Wseqm [79, 80, 81, 82, 83, 84, 85, 86] [86] (fun vs w' => ∃ j102 : Bool, vs = [.bool j102] ∧ law22_BatchFair.J7 N e7 r46 j52 j53 (law22_BatchFair.L4 N x2 e7 j29 r40 r46 (law22_BatchFair.L2 N x2 e7 e8 m2) m4) j102 = some r ∧ Ctx w' (Own (pInt .i64) 3 (.slice a47 r46.1.length q49) r46.1 :: S_batch_Batch.hp b15 r46.2 :: Own (pInt .i64) 3 (.slice a41 r40.length q43) r40 :: OwnV (vOwn (pInt .i64) 3) 22 (.slice a19 ((e7).toNat) ((e7).toNat)) j52 :: P2 :: Fr)) ?_ ?_
                         · refine Wreg ?_
                           refine rs (v := .slice a41 r40.length q43) (mv (v := .slice a41 r40.length q43) rfl) rfl ?_
                           refine rs (v := .int .i64 j53) (mv (v := .int .i64 j53) rfl) rfl ?_
                           replace hp := bind_some hp; obtain ⟨r103, hr103, hp⟩ := hp
                           replace hc := hc.pull 2 rfl rfl
                           refine rc (cl Try.call11 rfl rfl) rfl ?_
                           refine law22_has_any reads_own hc hr103 ?_
                           clear hc; intro w104 hc
                           refine rs (v := .bool r103) (mv (v := .bool r103) rfl) rfl ?_
                           cases hb105 : r103
                           · replace hp := gneg hp (by rw [hb105]; exact Bool.false_ne_true)
                             subst hb105
                             refine rs (v := .slice a47 r46.1.length q49) (mv (v := .slice a47 r46.1.length q49) rfl) rfl ?_
                             refine rs (v := .int .i64 j53) (mv (v := .int .i64 j53) rfl) rfl ?_
                             replace hp := bind_some hp; obtain ⟨r106, hr106, hp⟩ := hp
                             replace hc := hc.pull 1 rfl rfl
                             refine rc (cl Try.call11 rfl rfl) rfl ?_
                             refine law22_has_any reads_own hc hr106 ?_
                             clear hc; intro w107 hc
                             refine rs (v := .bool r106) (pkf (v := .bool r106) rfl rfl) rfl ?_
                             refine rn ?_
                             refine qn ?_
                             replace hc := hc.pull 4 rfl rfl
                             replace hc := hc.pull 4 rfl rfl
                             replace hc := hc.pull 3 rfl rfl
                             replace hc := hc.pull 4 rfl rfl
                             replace hc := hc.pull 4 rfl rfl
                             exact ⟨⟨r106, rfl, hp, hc⟩, (kl rfl kb)⟩
                           · replace hp := gpos hp hb105
                             subst hb105
                             refine r0 rfl ?_
                             refine r0 rfl ?_
                             refine r0 rfl ?_
                             refine rs (v := .bool true) (pkt (v := .bool true) rfl rfl) rfl ?_
                             refine rn ?_
                             refine qn ?_
                             replace hc := hc.pull 4 rfl rfl
                             replace hc := hc.pull 4 rfl rfl
                             replace hc := hc.pull 2 rfl rfl
                             replace hc := hc.pull 4 rfl rfl
                             replace hc := hc.pull 4 rfl rfl
                             exact ⟨⟨true, rfl, hp, hc⟩, (kl rfl kb)⟩
                         · clear hp hc; intro vs u w108 hJ
                           obtain ⟨j102, rfl, hp, hc⟩ := hJ
                           unfold law22_BatchFair.J7 at hp
                           cases hb109 : j102
                           · replace hp := gneg hp (by rw [hb109]; exact Bool.false_ne_true)
                             subst hb109
                             refine Wcf rfl ?_
                             refine Wskip ?_
                             refine qn ?_
                             refine Wseq ?_
                             refine Wreg ?_
                             refine rs (v := .int .i64 0) (av (v := .int .i64 0) rfl) rfl ?_
                             refine rn ?_
                             refine qn ?_
                             refine Wblk ?_
                             refine Wloop [6, 17, 92, 93, 94, 95, 96, 97, 98, 99, 100, 101, 102, 103, 104, 105, 106, 107, 108, 109, 110, 111, 112, 113, 114, 115, 116, 117, 118, 119, 120, 121, 122, 123, 124, 125, 126, 127, 128, 129, 130, 131, 132, 133] [17] (fun m vs w' => ∃ j110 : (List (List Int)), ∃ j111 : Int, vs = [.int .i64 j111] ∧ law22_BatchFair.L8 e7 r46 j53 (law22_BatchFair.L4 N x2 e7 j29 r40 r46 (law22_BatchFair.L2 N x2 e7 e8 m2) m4) m j110 j111 = some r ∧ Ctx w' (Own (pInt .i64) 3 (.slice a47 r46.1.length q49) r46.1 :: S_batch_Batch.hp b15 r46.2 :: Own (pInt .i64) 3 (.slice a41 r40.length q43) r40 :: OwnV (vOwn (pInt .i64) 3) 22 (.slice a19 ((e7).toNat) ((e7).toNat)) j110 :: P2 :: Fr)) N ?_ ?_
                             · exact ⟨j52, 0, rfl, hp, hc⟩
                             · clear hp hc; intro m vs u w112 hJ
                               obtain ⟨j110, j111, rfl, hp, hc⟩ := hJ
                               rcases m with _ | m8
                               · cases (show none = some r from hp)
                               rw [law22_BatchFair.L8] at hp
                               refine Wseq ?_
                               refine Wseq ?_
                               refine Wreg ?_
                               refine rs (v := .int .i64 j111) (mv (v := .int .i64 j111) rfl) rfl ?_
                               refine rs (v := .slice a47 r46.1.length q49) (mv (v := .slice a47 r46.1.length q49) rfl) rfl ?_
                               refine rs (v := .int .i64 ((r46.1.length : Nat) : Int)) (ln rfl Try.underlying22) rfl ?_
                               refine rs (v := .bool (decide (j111 < ((r46.1.length : Nat) : Int)))) (lt' rfl rfl) rfl ?_
                               refine rn ?_
                               refine qn ?_
                               cases hb113 : (decide (j111 < ((r46.1.length : Nat) : Int)))
                               · replace hp := gneg hp (of_decide_eq_false hb113)
                                 refine Wcf rfl ?_
                                 refine Wexit ?_
                                 refine qx ?_
                                 refine qx ?_
                                 refine be ?_
                                 refine bn ?_
                                 refine qn ?_
                                 exact ⟨⟨j110, rfl, hp, hc⟩, (kl rfl (km rfl (kl rfl (km rfl (kl rfl kb)))))⟩
                               · replace hp := gpos hp (of_decide_eq_true hb113)
                                 refine Wct rfl ?_
                                 refine Wskip ?_
                                 refine qn ?_
                                 refine Wseq ?_
                                 refine Wblk ?_
                                 refine Wseq ?_
                                 refine Wseq ?_
                                 refine Wreg ?_
                                 refine rs (v := .slice a47 r46.1.length q49) (mv (v := .slice a47 r46.1.length q49) rfl) rfl ?_
                                 refine rs (v := .int .i64 j111) (mv (v := .int .i64 j111) rfl) rfl ?_
                                 replace hp := bind_some hp; obtain ⟨y114, hy114, hp⟩ := hp
                                 obtain ⟨b117, o118, u119, hi115, hi116⟩ := Ctx.rdAt hc (k := 0) rfl rfl reads_own hy114
                                 subst u119
                                 refine rs (v := .pointer (some ⟨b117, o118 + (j111).toNat * 1, none⟩)) (ixx rfl rfl Try.underlying22 Try.sizeOf3 hi115 hi116 rfl) rfl ?_
                                 replace hc := Ctx.rdCell hc (k := 0) rfl rfl reads_own hy114; obtain ⟨cs120, hc, hcell121⟩ := hc
                                 replace hc := Ctx.holdC hc; obtain ⟨u122, hc⟩ := hc; subst u122
                                 refine rs (v := .int .i64 y114) (ld rfl Try.isAgg3 (hcell121 0 _ rfl)) rfl ?_
                                 refine rs (v := .bool (decide (y114 < 0))) (lt' rfl rfl) rfl ?_
                                 refine rs (v := .bool (decide (y114 < 0))) (mv (v := .bool (decide (y114 < 0))) rfl) rfl ?_
                                 cases hb123 : (decide (y114 < 0))
                                 · replace hp := gneg hp (of_decide_eq_false hb123)
                                   refine rs (v := .slice (some ⟨b117, o118, none⟩) r46.1.length q49) (mv (v := .slice (some ⟨b117, o118, none⟩) r46.1.length q49) rfl) rfl ?_
                                   refine rs (v := .int .i64 j111) (mv (v := .int .i64 j111) rfl) rfl ?_
                                   replace hp := bind_some hp; obtain ⟨y124, hy124, hp⟩ := hp
                                   obtain ⟨b127, o128, u129, hi125, hi126⟩ := Ctx.rdAt hc (k := 0) rfl rfl reads_own hy124
                                   clear u129
                                   refine rs (v := .pointer (some ⟨b117, o118 + (j111).toNat * 1, none⟩)) (ixx rfl rfl Try.underlying22 Try.sizeOf3 hi125 hi126 rfl) rfl ?_
                                   replace hc := Ctx.rdCell hc (k := 0) rfl rfl reads_own hy124; obtain ⟨cs130, hc, hcell131⟩ := hc
                                   replace hc := Ctx.holdC hc; obtain ⟨u132, hc⟩ := hc; subst u132
                                   refine rs (v := .int .i64 y124) (ld rfl Try.isAgg3 (hcell131 0 _ rfl)) rfl ?_
                                   refine rs (v := .int .i64 e7) (mv (v := .int .i64 e7) rfl) rfl ?_
                                   refine rs (v := .bool (decide (y124 ≥ e7))) (ge' rfl rfl) rfl ?_
                                   refine rs (v := .bool (decide (y124 ≥ e7))) (pkf (v := .bool (decide (y124 ≥ e7))) rfl rfl) rfl ?_
                                   refine rn ?_
                                   refine qn ?_
                                   cases hb133 : (decide (y124 ≥ e7))
                                   · replace hp := gneg hp (of_decide_eq_false hb133)
                                     refine Wcf rfl ?_
                                     refine Wskip ?_
                                     refine qn ?_
                                     refine Wseq ?_
                                     replace hp := bind_some hp; obtain ⟨y134, hy134, hp⟩ := hp
                                     replace hc := hc.pull 3 rfl rfl
                                     replace hc := Ctx.ownVF hc; obtain ⟨hs135, hl138, hc⟩ := hc
                                     replace hc := Ctx.bigF hc.swap hy134; obtain ⟨a137, ha136, hc⟩ := hc
                                     replace hc := Ctx.exF hc; obtain ⟨v140, hc⟩ := hc
                                     replace hc := Ctx.sepF hc
                                     replace hc := Ctx.puF hc; obtain ⟨u139, hc⟩ := hc; subst u139
                                     obtain ⟨a141, q142, u143⟩ := hc.rd (k := 0) rfl rfl reads_own; subst u143
                                     obtain ⟨b144, o145, u146, hi147, hi148⟩ := Ctx.rdAt hc (k := 2) rfl rfl reads_own ha136; subst u146
                                     replace hc := hc.drew
                                     refine Wdrw (fun j w' => True) [0, 0, 3, 7, 0, 0, 48, 112, 255, 511, 1023, 2047, 4095] 0 648 rfl (by kernel_rfl) (fun _ _ => trivial) ?_
                                     generalize hw : World.drew w112 = w149 at *
                                     clear hw
                                     refine ds (v := .slice (some ⟨b144, o145, none⟩) ((e7).toNat) ((e7).toNat)) rfl (fun w' hF => mv (v := .slice (some ⟨b144, o145, none⟩) ((e7).toNat) ((e7).toNat)) rfl) rfl ?_
                                     refine ds (v := .int .i64 j53) rfl (fun w' hF => mv (v := .int .i64 j53) rfl) rfl ?_
                                     have hln := Ctx.rdLen hc (k := 2) rfl rfl reads_own
                                     obtain ⟨b152, o153, u154, hi150, hi151⟩ := Ctx.rdAt hc (k := 2) rfl rfl reads_own ha136
                                     clear hln
                                     clear u154
                                     refine ds (v := .pointer (some ⟨b144, o145 + (j53).toNat * 1, none⟩)) rfl (fun w' hF => ixx rfl rfl Try.underlying28 Try.sizeOf22 hi150 hi151 rfl) rfl ?_
                                     refine dx (v := .slice a141 y134.length q142) rfl (ld rfl Try.isAgg22 (Ctx.rdAny hc (k := 2) rfl rfl ha136 0 _ rfl)) rfl rfl ?_
                                     refine ds (v := .slice (some ⟨b117, o118, none⟩) r46.1.length q49) rfl (fun w' hF => mv (v := .slice (some ⟨b117, o118, none⟩) r46.1.length q49) rfl) rfl ?_
                                     refine ds (v := .int .i64 j111) rfl (fun w' hF => mv (v := .int .i64 j111) rfl) rfl ?_
                                     replace hp := bind_some hp; obtain ⟨y155, hy155, hp⟩ := hp
                                     obtain ⟨b158, o159, u160, hi156, hi157⟩ := Ctx.rdAt hc (k := 3) rfl rfl reads_own hy155
                                     clear u160
                                     refine ds (v := .pointer (some ⟨b117, o118 + (j111).toNat * 1, none⟩)) rfl (fun w' hF => ixx rfl rfl Try.underlying22 Try.sizeOf3 hi156 hi157 rfl) rfl ?_
                                     replace hc := Ctx.rdCell hc (k := 3) rfl rfl reads_own hy155; obtain ⟨cs161, hc, hcell162⟩ := hc
                                     replace hc := Ctx.holdC hc; obtain ⟨u163, hc⟩ := hc; subst u163
                                     refine dx (v := .int .i64 y155) rfl (ld rfl Try.isAgg3 (hcell162 0 _ rfl)) rfl rfl ?_
                                     replace hp := bind_some hp; obtain ⟨y164, hy164, hp⟩ := hp
                                     obtain ⟨b167, o168, u169, hi165, hi166⟩ := Ctx.rdAt hc (k := 0) rfl rfl reads_own hy164
                                     subst u169
                                     refine ds (v := .pointer (some ⟨b167, o168 + (y155).toNat * 1, none⟩)) rfl (fun w' hF => ixx rfl rfl Try.underlying22 Try.sizeOf3 hi165 hi166 rfl) rfl ?_
                                     replace hc := Ctx.rdCell hc (k := 0) rfl rfl reads_own hy164; obtain ⟨cs170, hc, hcell171⟩ := hc
                                     replace hc := Ctx.holdC hc; obtain ⟨u172, hc⟩ := hc; subst u172
                                     refine dx (v := .int .i64 y164) rfl (ld rfl Try.isAgg3 (hcell171 0 _ rfl)) rfl rfl ?_
                                     refine ds (v := .int .i64 (IntKind.i64.wrap (y164 + 1))) rfl (fun w' hF => adw rfl rfl) rfl ?_
                                     replace hp := bind_some hp; obtain ⟨y173, hy173, hp⟩ := hp
                                     obtain ⟨b176, o177, u178, hi174, hi175⟩ := Ctx.rdAt hc (k := 0) rfl rfl reads_own hy173
                                     clear u178
                                     refine ds (v := .pointer (some ⟨b167, o168 + (y155).toNat * 1, none⟩)) rfl (fun w' hF => ixx rfl rfl Try.underlying22 Try.sizeOf3 hi174 hi175 rfl) rfl ?_
                                     refine duE (A := fun w' => Ctx w' (Own (pInt .i64) 3 (.slice (some ⟨b167, o168, none⟩) y134.length q142) (y134.set (y155).toNat (IntKind.i64.wrap (y164 + 1))) :: BigH (vOwn (pInt .i64) 3).r hs135 j110 j53 :: Own (pAny 1) 22 (.slice (some ⟨b144, o145, none⟩) ((e7).toNat) ((e7).toNat)) hs135 :: Own (pInt .i64) 3 (.slice (some ⟨b117, o118, none⟩) r46.1.length q49) r46.1 :: S_batch_Batch.hp b15 r46.2 :: Own (pInt .i64) 3 (.slice a41 r40.length q43) r40 :: P2 :: Fr)) (Ctx.ownPutOp hc (k := 0) rfl rfl (z := y173) (z' := (IntKind.i64.wrap (y164 + 1))) hy173 0 rfl (u := .int .i64 (IntKind.i64.wrap (y164 + 1))) rfl rfl rfl Try.sizeOf3 (fun _ _ _ h => by cases h; rfl) rfl) rfl rfl ?_
                                     clear hc; rintro w179 hc
                                     refine ⟨fun j hj hb => trivial, ?_⟩
                                     refine dn ?_
                                     refine qn ?_
                                     refine Wseq ?_
                                     replace hc := hc.drew
                                     refine Wdrw (fun _ w' => w' = World.drew w179) [0, 0, 3, 7, 0, 0, 48, 112, 255, 511, 1023] 0 0 rfl (by kernel_rfl) (fun _ _ => rfl) ?_
                                     generalize hw : World.drew w179 = w180 at *
                                     clear hw
                                     refine ds (v := .slice (some ⟨b144, o145, none⟩) ((e7).toNat) ((e7).toNat)) rfl (fun w' hF => by subst hF; exact mv (v := .slice (some ⟨b144, o145, none⟩) ((e7).toNat) ((e7).toNat)) rfl) rfl ?_
                                     refine ds (v := .int .i64 j53) rfl (fun w' hF => by subst hF; exact mv (v := .int .i64 j53) rfl) rfl ?_
                                     have hln := Ctx.rdLen hc (k := 2) rfl rfl reads_own
                                     obtain ⟨b183, o184, u185, hi181, hi182⟩ := Ctx.rdAt hc (k := 2) rfl rfl reads_own ha136
                                     clear hln
                                     clear u185
                                     refine ds (v := .pointer (some ⟨b144, o145 + (j53).toNat * 1, none⟩)) rfl (fun w' hF => by subst hF; exact ixx rfl rfl Try.underlying28 Try.sizeOf22 hi181 hi182 rfl) rfl ?_
                                     refine ds (v := .slice (some ⟨b167, o168, none⟩) y134.length q142) rfl (fun w' hF => by subst hF; exact ld rfl Try.isAgg22 (Ctx.rdAny hc (k := 2) rfl rfl ha136 0 _ rfl)) rfl ?_
                                     refine ds (v := .slice (some ⟨b117, o118, none⟩) r46.1.length q49) rfl (fun w' hF => by subst hF; exact mv (v := .slice (some ⟨b117, o118, none⟩) r46.1.length q49) rfl) rfl ?_
                                     refine ds (v := .int .i64 j111) rfl (fun w' hF => by subst hF; exact mv (v := .int .i64 j111) rfl) rfl ?_
                                     replace hp := bind_some hp; obtain ⟨y186, hy186, hp⟩ := hp
                                     obtain ⟨b189, o190, u191, hi187, hi188⟩ := Ctx.rdAt hc (k := 3) rfl rfl reads_own hy186
                                     clear u191
                                     refine ds (v := .pointer (some ⟨b117, o118 + (j111).toNat * 1, none⟩)) rfl (fun w' hF => by subst hF; exact ixx rfl rfl Try.underlying22 Try.sizeOf3 hi187 hi188 rfl) rfl ?_
                                     replace hc := Ctx.rdCell hc (k := 3) rfl rfl reads_own hy186; obtain ⟨cs192, hc, hcell193⟩ := hc
                                     replace hc := Ctx.holdC hc; obtain ⟨u194, hc⟩ := hc; subst u194
                                     refine ds (v := .int .i64 y186) rfl (fun w' hF => by subst hF; exact ld rfl Try.isAgg3 (hcell193 0 _ rfl)) rfl ?_
                                     replace hp := bind_some hp; obtain ⟨y195, hy195, hp⟩ := hp
                                     obtain ⟨b198, o199, u200, hi196, hi197⟩ := Ctx.rdAt hc (k := 0) rfl rfl reads_own hy195
                                     clear u200
                                     refine ds (v := .pointer (some ⟨b167, o168 + (y186).toNat * 1, none⟩)) rfl (fun w' hF => by subst hF; exact ixx rfl rfl Try.underlying22 Try.sizeOf3 hi196 hi197 rfl) rfl ?_
                                     replace hc := Ctx.rdCell hc (k := 0) rfl rfl reads_own hy195; obtain ⟨cs201, hc, hcell202⟩ := hc
                                     replace hc := Ctx.holdC hc; obtain ⟨u203, hc⟩ := hc; subst u203
                                     refine ds (v := .int .i64 y195) rfl (fun w' hF => by subst hF; exact ld rfl Try.isAgg3 (hcell202 0 _ rfl)) rfl ?_
                                     refine ds (v := .bool (decide (y195 > 1))) rfl (fun w' hF => by subst hF; exact gt' rfl rfl) rfl ?_
                                     refine dn ?_
                                     refine qn ?_
                                     cases hb204 : (decide (y195 > 1))
                                     · replace hp := gneg hp (of_decide_eq_false hb204)
                                       refine Wcf rfl ?_
                                       refine Wskip ?_
                                       refine bn ?_
                                       refine qn ?_
                                       refine Wreg ?_
                                       refine rs (v := .int .i64 j111) (mv (v := .int .i64 j111) rfl) rfl ?_
                                       refine rs (v := .int .i64 (IntKind.i64.wrap (j111 + 1))) (adw rfl rfl) rfl ?_
                                       refine rs (v := .int .i64 (IntKind.i64.wrap (j111 + 1))) (av (v := .int .i64 (IntKind.i64.wrap (j111 + 1))) rfl) rfl ?_
                                       refine rn ?_
                                       refine qn ?_
                                       replace hc : Ctx w180 ((vOwn (pInt .i64) 3).r [.slice (some ⟨b167, o168, none⟩) y134.length q142] (y134.set (y155).toNat (IntKind.i64.wrap (y164 + 1))) :: BigH (vOwn (pInt .i64) 3).r hs135 j110 j53 :: Own (pAny 1) 22 (.slice (some ⟨b144, o145, none⟩) ((e7).toNat) ((e7).toNat)) hs135 :: Own (pInt .i64) 3 (.slice (some ⟨b117, o118, none⟩) r46.1.length q49) r46.1 :: S_batch_Batch.hp b15 r46.2 :: Own (pInt .i64) 3 (.slice a41 r40.length q43) r40 :: P2 :: Fr) := Ctx.exB _ _ (Ctx.sepB (Ctx.puB rfl hc))
                                       replace hc := hc.pull 2 rfl rfl
                                       replace hc := hc.pull 2 rfl rfl
                                       replace hc := hc.pull 2 rfl rfl
                                       replace hc := Ctx.bigB1 hc ha136 hy134
                                       replace hc : Ctx w180 (OwnV (vOwn (pInt .i64) 3) 22 (.slice (some ⟨b144, o145, none⟩) ((e7).toNat) ((e7).toNat)) (j110.set (j53).toNat (y134.set (y155).toNat (IntKind.i64.wrap (y164 + 1)))) :: Own (pInt .i64) 3 (.slice (some ⟨b117, o118, none⟩) r46.1.length q49) r46.1 :: S_batch_Batch.hp b15 r46.2 :: Own (pInt .i64) 3 (.slice a41 r40.length q43) r40 :: P2 :: Fr) := Ctx.ownVB hc.swap
                                       replace hc := hc.pull 4 rfl rfl
                                       replace hc := hc.pull 1 rfl rfl
                                       replace hc := hc.pull 4 rfl rfl
                                       replace hc := hc.pull 4 rfl rfl
                                       replace hc := hc.pull 4 rfl rfl
                                       exact ⟨m8, Nat.lt_succ_self _, ⟨(j110.set (j53).toNat (y134.set (y155).toNat (IntKind.i64.wrap (y164 + 1)))), (IntKind.i64.wrap (j111 + 1)), rfl, hp, hc⟩, (kl rfl k0)⟩
                                     · replace hp := gpos hp (of_decide_eq_true hb204)
                                       refine Wct rfl ?_
                                       refine Wseq ?_
                                       refine Wreg ?_
                                       refine rs (v := .bool false) (av (v := .bool false) rfl) rfl ?_
                                       refine rn ?_
                                       refine qn ?_
                                       refine Wret ?_
                                       refine br ?_
                                       refine qr ?_
                                       refine qr ?_
                                       refine br ?_
                                       refine br ?_
                                       refine qr ?_
                                       refine qr ?_
                                       refine br ?_
                                       refine qr ?_
                                       refine br ?_
                                       refine qr ?_
                                       refine qr ?_
                                       refine br ?_
                                       refine qr ?_
                                       replace hc := hc.rem 5 rfl rfl
                                       replace hc := hc.rem 4 rfl rfl
                                       replace hc := hc.rem 3 rfl rfl
                                       replace hc := hc.rem 2 rfl rfl
                                       replace hc := hc.rem 1 rfl rfl
                                       replace hc := hc.rem 0 rfl rfl
                                       injection hp with hp; subst hp
                                       refine f1 (v := .bool false) Try.results3 Try.ntmps3 rfl ?_
                                       exact ⟨_, rfl, k _ hc⟩
                                   · replace hp := gpos hp (of_decide_eq_true hb133)
                                     refine Wct rfl ?_
                                     refine Wseq ?_
                                     refine Wreg ?_
                                     refine rs (v := .bool false) (av (v := .bool false) rfl) rfl ?_
                                     refine rn ?_
                                     refine qn ?_
                                     refine Wret ?_
                                     refine qr ?_
                                     refine br ?_
                                     refine qr ?_
                                     refine qr ?_
                                     refine br ?_
                                     refine br ?_
                                     refine qr ?_
                                     refine qr ?_
                                     refine br ?_
                                     refine qr ?_
                                     refine br ?_
                                     refine qr ?_
                                     refine qr ?_
                                     refine br ?_
                                     refine qr ?_
                                     replace hc := hc.rem 3 rfl rfl
                                     replace hc := hc.rem 2 rfl rfl
                                     replace hc := hc.rem 1 rfl rfl
                                     replace hc := hc.rem 0 rfl rfl
                                     injection hp with hp; subst hp
                                     refine f1 (v := .bool false) Try.results3 Try.ntmps3 rfl ?_
                                     exact ⟨_, rfl, k _ hc⟩
                                 · replace hp := gpos hp (of_decide_eq_true hb123)
                                   refine r0 rfl ?_
                                   refine r0 rfl ?_
                                   refine r0 rfl ?_
                                   refine r0 rfl ?_
                                   refine r0 rfl ?_
                                   refine r0 rfl ?_
                                   refine rs (v := .bool true) (pkt (v := .bool true) rfl rfl) rfl ?_
                                   refine rn ?_
                                   refine qn ?_
                                   refine Wct rfl ?_
                                   refine Wseq ?_
                                   refine Wreg ?_
                                   refine rs (v := .bool false) (av (v := .bool false) rfl) rfl ?_
                                   refine rn ?_
                                   refine qn ?_
                                   refine Wret ?_
                                   refine qr ?_
                                   refine br ?_
                                   refine qr ?_
                                   refine qr ?_
                                   refine br ?_
                                   refine br ?_
                                   refine qr ?_
                                   refine qr ?_
                                   refine br ?_
                                   refine qr ?_
                                   refine br ?_
                                   refine qr ?_
                                   refine qr ?_
                                   refine br ?_
                                   refine qr ?_
                                   replace hc := hc.rem 3 rfl rfl
                                   replace hc := hc.rem 2 rfl rfl
                                   replace hc := hc.rem 1 rfl rfl
                                   replace hc := hc.rem 0 rfl rfl
                                   injection hp with hp; subst hp
                                   refine f1 (v := .bool false) Try.results3 Try.ntmps3 rfl ?_
                                   exact ⟨_, rfl, k _ hc⟩
                           · replace hp := gpos hp hb109
                             subst hb109
                             refine Wct rfl ?_
                             refine Wseq ?_
                             refine Wreg ?_
                             refine rs (v := .slice a19 ((e7).toNat) ((e7).toNat)) (mv (v := .slice a19 ((e7).toNat) ((e7).toNat)) rfl) rfl ?_
                             refine rs (v := .int .i64 j53) (mv (v := .int .i64 j53) rfl) rfl ?_
                             refine rs (v := .int .i64 e7) (mv (v := .int .i64 e7) rfl) rfl ?_
                             replace hp := chk_some hp; obtain ⟨hg205, hp⟩ := hp
                             have hm207 : ((e7).toNat : Int) = e7 := Int.toNat_of_nonneg hg205.1
                             refine rsE (Ctx.make (n := (e7).toNat) (E := (pInt .i64)) (x0 := 0) hc (by rw [hm207]; rfl) (by rw [hm207]; rfl) Try.underlying22 (i := Try.t3) rfl rfl rfl rfl rfl rfl (fun _ _ => rfl) (by omega)) rfl ?_
                             clear hc; rintro _ w209 ⟨a206, rfl, hc⟩
                             replace hp := bind_some hp; obtain ⟨y210, hy210, hp⟩ := hp
                             replace hc := hc.pull 4 rfl rfl
                             replace hc := Ctx.ownVF hc; obtain ⟨hs211, hl214, hc⟩ := hc
                             replace hc := Ctx.bigF hc.swap hy210; obtain ⟨a213, ha212, hc⟩ := hc
                             replace hc := Ctx.exF hc; obtain ⟨v216, hc⟩ := hc
                             replace hc := Ctx.sepF hc
                             replace hc := Ctx.puF hc; obtain ⟨u215, hc⟩ := hc; subst u215
                             obtain ⟨a217, q218, u219⟩ := hc.rd (k := 0) rfl rfl reads_own; subst u219
                             have hln := Ctx.rdLen hc (k := 2) rfl rfl reads_own
                             obtain ⟨b222, o223, u224, hi220, hi221⟩ := Ctx.rdAt hc (k := 2) rfl rfl reads_own ha212
                             clear hln
                             subst u224
                             refine rs (v := .pointer (some ⟨b222, o223 + (j53).toNat * 1, none⟩)) (ixx rfl rfl Try.underlying28 Try.sizeOf22 hi220 hi221 rfl) rfl ?_
                             replace hc := hc.rem 0 rfl rfl
                             refine ruE (A := fun w' => Ctx w' (BigH (vOwn (pInt .i64) 3).r hs211 j52 j53 :: Own (pAny 1) 22 (.slice (some ⟨b222, o223, none⟩) ((e7).toNat) ((e7).toNat)) (hs211.set (j53).toNat [.slice a206 ((e7).toNat) ((e7).toNat)]) :: Own (pInt .i64) 3 (.slice a206 ((e7).toNat) ((e7).toNat)) (List.replicate (e7).toNat 0) :: Own (pInt .i64) 3 (.slice a47 r46.1.length q49) r46.1 :: S_batch_Batch.hp b15 r46.2 :: Own (pInt .i64) 3 (.slice a41 r40.length q43) r40 :: P2 :: Fr)) (Ctx.ownPutOp hc (k := 1) rfl rfl (z := [.slice a217 y210.length q218]) (z' := [.slice a206 ((e7).toNat) ((e7).toNat)]) ha212 0 rfl (u := .slice a206 ((e7).toNat) ((e7).toNat)) rfl rfl rfl Try.sizeOf22 (pAny_put rfl rfl) rfl) rfl ?_
                             clear hc; rintro w225 hc
                             rw [← bigH_set (V := (vOwn (pInt .i64) 3).r) (hs := hs211) (bs := j52) (i := j53) [.slice a206 ((e7).toNat) ((e7).toNat)]] at hc
                             have ha227 := idx_set ha212 ([.slice a206 ((e7).toNat) ((e7).toNat)] : List Value)
                             generalize hq228 : hs211.set (j53).toNat [.slice a206 ((e7).toNat) ((e7).toNat)] = hs226 at hc ha227
                             refine rn ?_
                             refine qn ?_
                             refine Wexit ?_
                             refine qx ?_
                             refine be ?_
                             refine qn ?_
                             replace hc := hc.pull 2 rfl rfl
                             replace hc : Ctx w225 ((vOwn (pInt .i64) 3).r [.slice a206 ((e7).toNat) ((e7).toNat)] (List.replicate (e7).toNat 0) :: BigH (vOwn (pInt .i64) 3).r hs226 j52 j53 :: Own (pAny 1) 22 (.slice (some ⟨b222, o223, none⟩) ((e7).toNat) ((e7).toNat)) hs226 :: Own (pInt .i64) 3 (.slice a47 r46.1.length q49) r46.1 :: S_batch_Batch.hp b15 r46.2 :: Own (pInt .i64) 3 (.slice a41 r40.length q43) r40 :: P2 :: Fr) := Ctx.exB _ _ (Ctx.sepB (Ctx.puB rfl hc))
                             replace hc := hc.pull 2 rfl rfl
                             replace hc := hc.pull 2 rfl rfl
                             replace hc := hc.pull 2 rfl rfl
                             replace hc := Ctx.bigB1 hc ha227 hy210
                             replace hc : Ctx w225 (OwnV (vOwn (pInt .i64) 3) 22 (.slice (some ⟨b222, o223, none⟩) ((e7).toNat) ((e7).toNat)) (j52.set (j53).toNat (List.replicate (e7).toNat 0)) :: Own (pInt .i64) 3 (.slice a47 r46.1.length q49) r46.1 :: S_batch_Batch.hp b15 r46.2 :: Own (pInt .i64) 3 (.slice a41 r40.length q43) r40 :: P2 :: Fr) := Ctx.ownVB hc.swap
                             replace hc := hc.pull 4 rfl rfl
                             replace hc := hc.pull 1 rfl rfl
                             replace hc := hc.pull 4 rfl rfl
                             replace hc := hc.pull 4 rfl rfl
                             replace hc := hc.pull 4 rfl rfl
                             exact ⟨⟨(j52.set (j53).toNat (List.replicate (e7).toNat 0)), rfl, hp, hc⟩, (kl rfl (km rfl (kl rfl kb)))⟩
                       · clear hp hc; intro vs u w229 hJ
                         obtain ⟨j101, rfl, hp, hc⟩ := hJ
                         unfold law22_BatchFair.J6 at hp
                         refine Wreg ?_
                         refine rs (v := .int .i64 j53) (mv (v := .int .i64 j53) rfl) rfl ?_
                         refine rs (v := .int .i64 (IntKind.i64.wrap (j53 + 1))) (adw rfl rfl) rfl ?_
                         refine rs (v := .int .i64 (IntKind.i64.wrap (j53 + 1))) (av (v := .int .i64 (IntKind.i64.wrap (j53 + 1))) rfl) rfl ?_
                         refine rn ?_
                         refine qn ?_
                         exact ⟨m4, Nat.lt_succ_self _, ⟨j101, (IntKind.i64.wrap (j53 + 1)), rfl, hp, hc⟩, (kl rfl (km rfl (kl rfl k0)))⟩
                 · clear hp hc; intro vs u w230 hJ
                   obtain ⟨j38, j39, rfl, hp, hc⟩ := hJ
                   unfold law22_BatchFair.J3 at hp
                   refine Wreg ?_
                   refine rs (v := .int .i64 j29) (mv (v := .int .i64 j29) rfl) rfl ?_
                   refine rs (v := .int .i64 (IntKind.i64.wrap (j29 + 1))) (adw rfl rfl) rfl ?_
                   refine rs (v := .int .i64 (IntKind.i64.wrap (j29 + 1))) (av (v := .int .i64 (IntKind.i64.wrap (j29 + 1))) rfl) rfl ?_
                   refine rn ?_
                   refine qn ?_
                   exact ⟨m2, Nat.lt_succ_self _, ⟨j38, j39, (IntKind.i64.wrap (j29 + 1)), rfl, hp, hc⟩, (kl rfl (km rfl (kl rfl k0)))⟩
           · replace hp := gpos hp (of_decide_eq_true hb26)
             refine Wct rfl ?_
             refine Wskip ?_
             refine qn ?_
             refine Wseq ?_
             refine Wblk ?_
             refine Wseq ?_
             refine Wreg ?_
             refine rs (v := .slice a19 ((e7).toNat) ((e7).toNat)) (mv (v := .slice a19 ((e7).toNat) ((e7).toNat)) rfl) rfl ?_
             refine rs (v := .int .i64 j24) (mv (v := .int .i64 j24) rfl) rfl ?_
             refine rs (v := .int .i64 e7) (mv (v := .int .i64 e7) rfl) rfl ?_
             replace hp := chk_some hp; obtain ⟨hg231, hp⟩ := hp
             have hm233 : ((e7).toNat : Int) = e7 := Int.toNat_of_nonneg hg231.1
             refine rsE (Ctx.make (n := (e7).toNat) (E := (pInt .i64)) (x0 := 0) hc (by rw [hm233]; rfl) (by rw [hm233]; rfl) Try.underlying22 (i := Try.t3) rfl rfl rfl rfl rfl rfl (fun _ _ => rfl) (by omega)) rfl ?_
             clear hc; rintro _ w235 ⟨a232, rfl, hc⟩
             replace hp := bind_some hp; obtain ⟨y236, hy236, hp⟩ := hp
             replace hc := hc.pull 1 rfl rfl
             replace hc := Ctx.ownVF hc; obtain ⟨hs237, hl240, hc⟩ := hc
             replace hc := Ctx.bigF hc.swap hy236; obtain ⟨a239, ha238, hc⟩ := hc
             replace hc := Ctx.exF hc; obtain ⟨v242, hc⟩ := hc
             replace hc := Ctx.sepF hc
             replace hc := Ctx.puF hc; obtain ⟨u241, hc⟩ := hc; subst u241
             obtain ⟨a243, q244, u245⟩ := hc.rd (k := 0) rfl rfl reads_own; subst u245
             have hln := Ctx.rdLen hc (k := 2) rfl rfl reads_own
             obtain ⟨b248, o249, u250, hi246, hi247⟩ := Ctx.rdAt hc (k := 2) rfl rfl reads_own ha238
             clear hln
             subst u250
             refine rs (v := .pointer (some ⟨b248, o249 + (j24).toNat * 1, none⟩)) (ixx rfl rfl Try.underlying28 Try.sizeOf22 hi246 hi247 rfl) rfl ?_
             replace hc := hc.rem 0 rfl rfl
             refine ruE (A := fun w' => Ctx w' (BigH (vOwn (pInt .i64) 3).r hs237 j22 j24 :: Own (pAny 1) 22 (.slice (some ⟨b248, o249, none⟩) ((e7).toNat) ((e7).toNat)) (hs237.set (j24).toNat [.slice a232 ((e7).toNat) ((e7).toNat)]) :: Own (pInt .i64) 3 (.slice a232 ((e7).toNat) ((e7).toNat)) (List.replicate (e7).toNat 0) :: S_batch_Batch.hp b15 j23 :: P2 :: Fr)) (Ctx.ownPutOp hc (k := 1) rfl rfl (z := [.slice a243 y236.length q244]) (z' := [.slice a232 ((e7).toNat) ((e7).toNat)]) ha238 0 rfl (u := .slice a232 ((e7).toNat) ((e7).toNat)) rfl rfl rfl Try.sizeOf22 (pAny_put rfl rfl) rfl) rfl ?_
             clear hc; rintro w251 hc
             rw [← bigH_set (V := (vOwn (pInt .i64) 3).r) (hs := hs237) (bs := j22) (i := j24) [.slice a232 ((e7).toNat) ((e7).toNat)]] at hc
             have ha253 := idx_set ha238 ([.slice a232 ((e7).toNat) ((e7).toNat)] : List Value)
             generalize hq254 : hs237.set (j24).toNat [.slice a232 ((e7).toNat) ((e7).toNat)] = hs252 at hc ha253
             refine rn ?_
             refine qn ?_
             refine Wseq ?_
             refine Wreg ?_
             refine rs (v := .pointer (some ⟨b15, 0, none⟩)) (mv (v := .pointer (some ⟨b15, 0, none⟩)) rfl) rfl ?_
             refine rs (v := .int .i64 j24) (mv (v := .int .i64 j24) rfl) rfl ?_
             replace hc : Ctx w251 (Hold (pInt .i64) [.int .i64 j24] j24 :: BigH (vOwn (pInt .i64) 3).r hs252 j22 j24 :: Own (pAny 1) 22 (.slice (some ⟨b248, o249, none⟩) ((e7).toNat) ((e7).toNat)) hs252 :: Own (pInt .i64) 3 (.slice a232 ((e7).toNat) ((e7).toNat)) (List.replicate (e7).toNat 0) :: S_batch_Batch.hp b15 j23 :: P2 :: Fr) := hc.add _ fun _ _ _ => ⟨rfl, rfl⟩
             refine rsE (Ctx.builtOp (css := [[.int .i64 j24]]) (xs := ([j24] : List Int)) (E := (pInt .i64)) hc Try.underlying22 Try.sizeOf3 Try.zeroValue3 rfl rfl rfl rfl rfl rfl rfl rfl) rfl ?_
             clear hc; rintro _ w256 ⟨a255, rfl, hc⟩
             replace hp := bind_some hp; obtain ⟨r257, hr257, hp⟩ := hp
             replace hc := hc.pull 4 rfl rfl
             refine rc (cl Try.call8 rfl rfl) rfl ?_
             refine batch_Batch_Add_any reads_own hc hr257 ?_
             clear hc; intro w258 hc
             refine rs (v := .bool (decide (r257.1 ≠ 0))) (ned rfl rfl) rfl ?_
             refine rn ?_
             refine qn ?_
             cases hb259 : (decide (r257.1 ≠ 0))
             · replace hp := gneg hp (of_decide_eq_false hb259)
               refine Wcf rfl ?_
               refine Wskip ?_
               refine bn ?_
               refine qn ?_
               refine Wreg ?_
               refine rs (v := .int .i64 j24) (mv (v := .int .i64 j24) rfl) rfl ?_
               refine rs (v := .int .i64 (IntKind.i64.wrap (j24 + 1))) (adw rfl rfl) rfl ?_
               refine rs (v := .int .i64 (IntKind.i64.wrap (j24 + 1))) (av (v := .int .i64 (IntKind.i64.wrap (j24 + 1))) rfl) rfl ?_
               refine rn ?_
               refine qn ?_
               replace hc := hc.pull 4 rfl rfl
               replace hc : Ctx w258 ((vOwn (pInt .i64) 3).r [.slice a232 ((e7).toNat) ((e7).toNat)] (List.replicate (e7).toNat 0) :: S_batch_Batch.hp b15 r257.2 :: Own (pInt .i64) 3 (.slice a255 1 1) ([j24]) :: BigH (vOwn (pInt .i64) 3).r hs252 j22 j24 :: Own (pAny 1) 22 (.slice (some ⟨b248, o249, none⟩) ((e7).toNat) ((e7).toNat)) hs252 :: P2 :: Fr) := Ctx.exB _ _ (Ctx.sepB (Ctx.puB rfl hc))
               replace hc := hc.pull 4 rfl rfl
               replace hc := hc.pull 4 rfl rfl
               replace hc := hc.pull 2 rfl rfl
               replace hc := Ctx.bigB1 hc ha253 hy236
               replace hc : Ctx w258 (OwnV (vOwn (pInt .i64) 3) 22 (.slice (some ⟨b248, o249, none⟩) ((e7).toNat) ((e7).toNat)) (j22.set (j24).toNat (List.replicate (e7).toNat 0)) :: S_batch_Batch.hp b15 r257.2 :: Own (pInt .i64) 3 (.slice a255 1 1) ([j24]) :: P2 :: Fr) := Ctx.ownVB hc.swap
               replace hc := hc.rem 2 rfl rfl
               exact ⟨m1, Nat.lt_succ_self _, ⟨(j22.set (j24).toNat (List.replicate (e7).toNat 0)), r257.2, (IntKind.i64.wrap (j24 + 1)), rfl, hp, hc⟩, (kl rfl k0)⟩
             · replace hp := gpos hp (of_decide_eq_true hb259)
               refine Wct rfl ?_
               refine Wseq ?_
               refine Wreg ?_
               refine rs (v := .bool false) (av (v := .bool false) rfl) rfl ?_
               refine rn ?_
               refine qn ?_
               refine Wret ?_
               refine br ?_
               refine qr ?_
               refine qr ?_
               refine br ?_
               refine qr ?_
               replace hc := hc.rem 4 rfl rfl
               replace hc := hc.rem 3 rfl rfl
               replace hc := hc.rem 2 rfl rfl
               replace hc := hc.rem 1 rfl rfl
               replace hc := hc.rem 0 rfl rfl
               injection hp with hp; subst hp
               refine f1 (v := .bool false) Try.results3 Try.ntmps3 rfl ?_
               exact ⟨_, rfl, k _ hc⟩
       · replace hp := gpos hp (of_decide_eq_true hb17)
         refine Wct rfl ?_
         refine Wseq ?_
         refine Wreg ?_
         refine rs (v := .bool false) (av (v := .bool false) rfl) rfl ?_
         refine rn ?_
         refine qn ?_
         refine Wret ?_
         refine qr ?_
         replace hc := hc.rem 0 rfl rfl
         injection hp with hp; subst hp
         refine f1 (v := .bool false) Try.results3 Try.ntmps3 rfl ?_
         exact ⟨_, rfl, k _ hc⟩
   · replace hp := gpos hp (of_decide_eq_true hb6)
     refine Wct rfl ?_
     refine Wseq ?_
     refine Wreg ?_
     replace hp := bind_some hp; obtain ⟨r260, hr260, hp⟩ := hp
     refine rc (cl Try.call6 rfl rfl) rfl ?_
     refine law22_awake_any hc hr260 ?_
     clear hc; intro w261 hc
     refine rs (v := .bool r260) (av (v := .bool r260) rfl) rfl ?_
     refine rn ?_
     refine qn ?_
     refine Wret ?_
     refine qr ?_
     injection hp with hp; subst hp
     refine f1 (v := .bool r260) Try.results3 Try.ntmps3 rfl ?_
     exact ⟨_, rfl, k _ hc⟩

end Go.Proofs.Ythlildgmjidllaa
