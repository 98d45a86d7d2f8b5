/- Functions of the program as plain functions, and the proofs that walks compute them. Printed by a program of this session. -/
import Derived.Test.YtjileigclbohdaaT1b
namespace Go.Proofs.Ytjileigclbohdaa
open Go Go.RowKit Go.Hp
set_option linter.unusedVariables false
set_option linter.unusedSimpArgs false
set_option maxRecDepth 100000

-- FN (peloton/pelotonlaw16.Act).small
def law16_Act_small.L1 (x0 : S_law16_Act) : Nat → Int → Option (Bool)
  | 0, _ => none
  | m1 + 1, j14 =>
    if j14 < ((x0.Bodies.length : Nat) : Int) then
      (idx x0.Bodies j14).bind fun y17 =>
      if ((y17.length : Nat) : Int) > 500 then
        some false
      else
        (law16_Act_small.L1 x0 m1) (IntKind.i64.wrap (j14 + 1))
    else
      some true

def law16_Act_small (N : Nat) (x0 : S_law16_Act) : Option (Bool) :=
  if ((x0.Bodies.length : Nat) : Int) > 20 then
    some false
  else
    if ((x0.S.Body.length : Nat) : Int) > 500 then
      some false
    else
      law16_Act_small.L1 x0 N 0

set_option maxHeartbeats 8000000 in
theorem law16_Act_small_any {N : Nat} {x0 : S_law16_Act} {a1 : Option Addr} {n2 : Nat} {q3 : Nat} {a4 : Option Addr} {n5 : Nat} {q6 : Nat} {Fr : List HP} {w : World} {r : Bool} {K : Value → World → Prop}  (hc : Ctx w (Hold (pRo (pRo (pInt .u8))) [.slice a1 n2 q3] x0.Bodies :: Hold (pRo (pInt .u8)) [.slice a4 n5 q6] x0.S.Body :: Fr)) (hp : law16_Act_small N x0 = some r)
    (k : ∀ w', Ctx w' (Fr) → K (.bool r) w') : Calls Try.prog 17 #[.agg #[.int .i64 x0.Kind, .int .i64 x0.N, .slice a1 n2 q3, .int .i64 x0.S.Epoch, .int .i64 x0.S.Seq, .int .i64 x0.S.Ack, .slice a4 n5 q6]] w (Ret K) := by
 unfold law16_Act_small at hp
 refine Center (args := [.agg #[.int .i64 x0.Kind, .int .i64 x0.N, .slice a1 n2 q3, .int .i64 x0.S.Epoch, .int .i64 x0.S.Seq, .int .i64 x0.S.Ack, .slice a4 n5 q6]]) (l := [(0, .agg #[.int .i64 x0.Kind, .int .i64 x0.N, .slice a1 n2 q3, .int .i64 x0.S.Epoch, .int .i64 x0.S.Seq, .int .i64 x0.S.Ack, .slice a4 n5 q6])]) Try.func17 Try.ntmps17 rfl rfl rfl ?_
 obtain ⟨u7, _⟩ := Ctx.rdLen hc (k := 0) rfl rfl reads_ro; subst u7
 obtain ⟨u8, _⟩ := Ctx.rdLen hc (k := 1) rfl rfl reads_ro; subst u8
 refine Wseq ?_
 refine Wreg ?_
 refine rsE (Ctx.boxOp (cs := [.int .i64 x0.Kind, .int .i64 x0.N, .slice a1 x0.Bodies.length q3, .int .i64 x0.S.Epoch, .int .i64 x0.S.Seq, .int .i64 x0.S.Ack, .slice a4 x0.S.Body.length q6]) (v := .agg #[.int .i64 x0.Kind, .int .i64 x0.N, .slice a1 x0.Bodies.length q3, .int .i64 x0.S.Epoch, .int .i64 x0.S.Seq, .int .i64 x0.S.Ack, .slice a4 x0.S.Body.length q6]) hc rfl rfl) rfl ?_
 clear hc; rintro _ w11 ⟨b9, rfl, hc⟩
 refine rs (v := .bool false) (av (v := .bool false) rfl) rfl ?_
 refine rn ?_
 refine qn ?_
 refine Wseq ?_
 refine Wseq ?_
 refine Wreg ?_
 refine rs (v := .pointer (some ⟨b9, 2, none⟩)) (fax 2 rfl Try.underlying63 rfl Try.sizeOf51 rfl rfl rfl) rfl ?_
 refine rs (v := .slice a1 x0.Bodies.length q3) (ld rfl Try.isAgg51 (Ctx.cell hc (k := 0) rfl rfl rfl)) rfl ?_
 refine rs (v := .int .i64 ((x0.Bodies.length : Nat) : Int)) (ln rfl Try.underlying51) rfl ?_
 refine rs (v := .bool (decide (((x0.Bodies.length : Nat) : Int) > 20))) (gt' rfl rfl) rfl ?_
 refine rs (v := .bool (decide (((x0.Bodies.length : Nat) : Int) > 20))) (mv (v := .bool (decide (((x0.Bodies.length : Nat) : Int) > 20))) rfl) rfl ?_
 cases hb12 : (decide (((x0.Bodies.length : Nat) : Int) > 20))
 · replace hp := gneg hp (of_decide_eq_false hb12)
   refine rs (v := .pointer (some ⟨b9, 3, none⟩)) (fax 3 rfl Try.underlying63 rfl Try.sizeOf46 rfl rfl rfl) rfl ?_
   refine rs (v := .pointer (some ⟨b9, 6, none⟩)) (fax 3 rfl Try.underlying46 rfl Try.sizeOf38 rfl rfl rfl) rfl ?_
   refine rs (v := .slice a4 x0.S.Body.length q6) (ld rfl Try.isAgg38 (Ctx.cell hc (k := 0) rfl rfl rfl)) rfl ?_
   refine rs (v := .int .i64 ((x0.S.Body.length : Nat) : Int)) (ln rfl Try.underlying38) rfl ?_
   refine rs (v := .bool (decide (((x0.S.Body.length : Nat) : Int) > 500))) (gt' rfl rfl) rfl ?_
   refine rs (v := .bool (decide (((x0.S.Body.length : Nat) : Int) > 500))) (pkf (v := .bool (decide (((x0.S.Body.length : Nat) : Int) > 500))) rfl rfl) rfl ?_
   refine rn ?_
   refine qn ?_
   cases hb13 : (decide (((x0.S.Body.length : Nat) : Int) > 500))
   · replace hp := gneg hp (of_decide_eq_false hb13)
     refine Wcf rfl ?_
     refine Wskip ?_
     refine qn ?_
     refine Wseq ?_
     refine Wseq ?_
     refine Wreg ?_
     refine rs (v := .int .i64 0) (av (v := .int .i64 0) rfl) rfl ?_
     refine rn ?_
     refine qn ?_
     refine Wblk ?_
     refine Wloop [2, 3, 15, 16, 17, 18, 19, 20, 21, 22, 23, 24, 25, 26, 27, 28] [3] (fun m vs w' => ∃ j14 : Int, vs = [.int .i64 j14] ∧ law16_Act_small.L1 x0 m j14 = some r ∧ Ctx w' (B b9 [.int .i64 x0.Kind, .int .i64 x0.N, .slice a1 x0.Bodies.length q3, .int .i64 x0.S.Epoch, .int .i64 x0.S.Seq, .int .i64 x0.S.Ack, .slice a4 x0.S.Body.length q6] 63 :: Hold (pRo (pRo (pInt .u8))) [.slice a1 x0.Bodies.length q3] x0.Bodies :: Hold (pRo (pInt .u8)) [.slice a4 x0.S.Body.length q6] x0.S.Body :: Fr)) N ?_ ?_
     · exact ⟨0, rfl, hp, hc⟩
     · clear hp hc; intro m vs u w15 hJ
       obtain ⟨j14, rfl, hp, hc⟩ := hJ
       rcases m with _ | m1
       · cases (show none = some r from hp)
       rw [law16_Act_small.L1] at hp
       refine Wseq ?_
       refine Wseq ?_
       refine Wreg ?_
       refine rs (v := .int .i64 j14) (mv (v := .int .i64 j14) rfl) rfl ?_
       refine rs (v := .pointer (some ⟨b9, 2, none⟩)) (fax 2 rfl Try.underlying63 rfl Try.sizeOf51 rfl rfl rfl) rfl ?_
       refine rs (v := .slice a1 x0.Bodies.length q3) (ld rfl Try.isAgg51 (Ctx.cell hc (k := 0) rfl rfl rfl)) rfl ?_
       refine rs (v := .int .i64 ((x0.Bodies.length : Nat) : Int)) (ln rfl Try.underlying51) rfl ?_
       refine rs (v := .bool (decide (j14 < ((x0.Bodies.length : Nat) : Int)))) (lt' rfl rfl) rfl ?_
       refine rn ?_
       refine qn ?_
       cases hb16 : (decide (j14 < ((x0.Bodies.length : Nat) : Int)))
       · replace hp := gneg hp (of_decide_eq_false hb16)
         refine Wcf rfl ?_
         refine Wexit ?_
         refine qx ?_
         refine qx ?_
         refine be ?_
         refine qn ?_
         refine Wseq ?_
         refine Wreg ?_
         refine rs (v := .bool true) (av (v := .bool true) rfl) rfl ?_
         refine rn ?_
         refine qn ?_
         refine Wret ?_
         replace hc := hc.rem 2 rfl rfl
         replace hc := hc.rem 1 rfl rfl
         replace hc := hc.rem 0 rfl rfl
         injection hp with hp; subst hp
         refine f1 (v := .bool true) Try.results17 Try.ntmps17 rfl ?_
         exact ⟨_, rfl, k _ hc⟩
       · replace hp := gpos hp (of_decide_eq_true hb16)
         refine Wct rfl ?_
         refine Wskip ?_
         refine qn ?_
         refine Wseq ?_
         refine Wblk ?_
         refine Wseq ?_
         refine Wreg ?_
         refine rs (v := .pointer (some ⟨b9, 2, none⟩)) (fax 2 rfl Try.underlying63 rfl Try.sizeOf51 rfl rfl rfl) rfl ?_
         refine rs (v := .slice a1 x0.Bodies.length q3) (ld rfl Try.isAgg51 (Ctx.cell hc (k := 0) rfl rfl rfl)) rfl ?_
         refine rs (v := .int .i64 j14) (mv (v := .int .i64 j14) rfl) rfl ?_
         replace hp := bind_some hp; obtain ⟨y17, hy17, hp⟩ := hp
         obtain ⟨b20, o21, u22, hi18, hi19⟩ := Ctx.rdAt hc (k := 1) rfl rfl reads_ro hy17
         subst u22
         refine rs (v := .pointer (some ⟨b20, o21 + (j14).toNat * 1, none⟩)) (ixx rfl rfl Try.underlying51 Try.sizeOf38 hi18 hi19 rfl) rfl ?_
         replace hc := Ctx.rdCell hc (k := 1) rfl rfl reads_ro hy17; obtain ⟨cs23, hc, hcell24⟩ := hc
         replace hc := Ctx.holdRo hc; obtain ⟨v28, u25, hc⟩ := hc; subst u25
         obtain ⟨a26, q27, u25⟩ := hc.rd (k := 0) rfl rfl reads_ro; subst u25
         refine rs (v := .slice a26 y17.length q27) (ld rfl Try.isAgg38 (hcell24 0 _ rfl)) rfl ?_
         refine rs (v := .int .i64 ((y17.length : Nat) : Int)) (ln rfl Try.underlying38) rfl ?_
         refine rs (v := .bool (decide (((y17.length : Nat) : Int) > 500))) (gt' rfl rfl) rfl ?_
         refine rn ?_
         refine qn ?_
         cases hb29 : (decide (((y17.length : Nat) : Int) > 500))
         · replace hp := gneg hp (of_decide_eq_false hb29)
           refine Wcf rfl ?_
           refine Wskip ?_
           refine bn ?_
           refine qn ?_
           refine Wreg ?_
           refine rs (v := .int .i64 j14) (mv (v := .int .i64 j14) rfl) rfl ?_
           refine rs (v := .int .i64 (IntKind.i64.wrap (j14 + 1))) (adw rfl rfl) rfl ?_
           refine rs (v := .int .i64 (IntKind.i64.wrap (j14 + 1))) (av (v := .int .i64 (IntKind.i64.wrap (j14 + 1))) rfl) rfl ?_
           refine rn ?_
           refine qn ?_
           replace hc := hc.rem 0 rfl rfl
           exact ⟨m1, Nat.lt_succ_self _, ⟨(IntKind.i64.wrap (j14 + 1)), rfl, hp, hc⟩, (kl rfl k0)⟩
         · replace hp := gpos hp (of_decide_eq_true hb29)
           refine Wct rfl ?_
           refine Wseq ?_
           refine Wreg ?_
           refine rs (v := .bool false) (av (v := .bool false) rfl) rfl ?_
           refine rn ?_
           refine qn ?_
           refine Wret ?_
           refine br ?_
           refine qr ?_
           refine qr ?_
           refine br ?_
           refine qr ?_
           replace hc := hc.rem 3 rfl rfl
           replace hc := hc.rem 2 rfl rfl
           replace hc := hc.rem 1 rfl rfl
           replace hc := hc.rem 0 rfl rfl
           injection hp with hp; subst hp
           refine f1 (v := .bool false) Try.results17 Try.ntmps17 rfl ?_
           exact ⟨_, rfl, k _ hc⟩
   · replace hp := gpos hp (of_decide_eq_true hb13)
     refine Wct rfl ?_
     refine Wseq ?_
     refine Wreg ?_
     refine rs (v := .bool false) (av (v := .bool false) rfl) rfl ?_
     refine rn ?_
     refine qn ?_
     refine Wret ?_
     refine qr ?_
     replace hc := hc.rem 2 rfl rfl
     replace hc := hc.rem 1 rfl rfl
     replace hc := hc.rem 0 rfl rfl
     injection hp with hp; subst hp
     refine f1 (v := .bool false) Try.results17 Try.ntmps17 rfl ?_
     exact ⟨_, rfl, k _ hc⟩
 · replace hp := gpos hp (of_decide_eq_true hb12)
   refine r0 rfl ?_
   refine r0 rfl ?_
   refine r0 rfl ?_
   refine r0 rfl ?_
   refine r0 rfl ?_
   refine rs (v := .bool true) (pkt (v := .bool true) rfl rfl) rfl ?_
   refine rn ?_
   refine qn ?_
   refine Wct rfl ?_
   refine Wseq ?_
   refine Wreg ?_
   refine rs (v := .bool false) (av (v := .bool false) rfl) rfl ?_
   refine rn ?_
   refine qn ?_
   refine Wret ?_
   refine qr ?_
   replace hc := hc.rem 2 rfl rfl
   replace hc := hc.rem 1 rfl rfl
   replace hc := hc.rem 0 rfl rfl
   injection hp with hp; subst hp
   refine f1 (v := .bool false) Try.results17 Try.ntmps17 rfl ?_
   exact ⟨_, rfl, k _ hc⟩

-- FN peloton/pelotonlaw16.awake
theorem bd_46_2 {ρ : Operand → Value} {w : World} {dst : Option Nat} {ty : TypeId} {pos : String} {after : Array Edge} {g : Option (Nat × Bool)} {x2 : Operand} {k2 : IntKind} {a2 : Int} (h2 : ρ x2 = (.int k2 a2)) :
    (execOp ρ ⟨dst, .build 46 #[(2, x2)], ty, pos, after, g⟩).run Try.prog w = .ok (.value (.agg #[(.int .i64 0), (.int .i64 0), (.int k2 a2), (.slice none 0 0)])) w := by
  simp [execOp, Instr.build, Instr.fill, Try.zeroValue46, Try.runUnderlying46, Try.sizeOf3, Try.sizeOf38, h2, Value.cells]

def law16_awake (N : Nat) : Option (Bool) :=
  (link_New 2 3 9).bind fun r1 =>
  optc r1.1 (
    some false) fun y5 =>
  if r1.2 ≠ 0 then
    some false
  else
    (link_Link_Send N y5 ([[97], [98], [99]])).bind fun r21 =>
    if r21.1 ≠ 0 then
      some false
    else
      (link_Link_Tick N r21.2).bind fun r24 =>
      (link_Link_Tick N r24.2).bind fun r30 =>
      (link_Link_Tick N r30.2).bind fun r36 =>
      (link_Link_Tick N r36.2).bind fun r42 =>
      (link_Link_Hear N r42.2 (⟨0, 0, 1, []⟩ : S_api_Seg)).bind fun r48 =>
      (link_Link_Tick N r48.2.2).bind fun r54 =>
      if ((r24.1.length : Nat) : Int) = 2 then
        if (IntKind.i64.wrap (((r30.1.length : Nat) : Int) + ((r36.1.length : Nat) : Int))) = 0 then
          if ((r42.1.length : Nat) : Int) = 2 then
            (idx r42.1 (1 : Int)).bind fun y63 =>
            if y63.Seq = 2 then
              (idx r42.1 (1 : Int)).bind fun y75 =>
              if (strOfNums y75.Body) = (ByteArray.mk #[98]) then
                if r48.2.1 = 0 then
                  if ((r54.1.length : Nat) : Int) = 1 then
                    (idx r54.1 (0 : Int)).bind fun y89 =>
                    some (decide (y89.Seq = 3))
                  else
                    some false
                else
                  some false
              else
                some false
            else
              some false
          else
            some false
        else
          some false
      else
        some false

set_option maxHeartbeats 8000000 in
theorem law16_awake_any {N : Nat} {Fr : List HP} {w : World} {r : Bool} {K : Value → World → Prop}  (hc : Ctx w (Fr)) (hp : law16_awake N = some r)
    (k : ∀ w', Ctx w' (Fr) → K (.bool r) w') : Calls Try.prog 7 #[] w (Ret K) := by
 unfold law16_awake at hp
 refine Center (args := []) (l := []) Try.func7 Try.ntmps7 rfl rfl rfl ?_
 refine Wseq ?_
 refine Wreg ?_
 refine rs (v := .bool false) (av (v := .bool false) rfl) rfl ?_
 refine rn ?_
 refine qn ?_
 refine Wseq ?_
 refine Wreg ?_
 replace hp := bind_some hp; obtain ⟨r1, hr1, hp⟩ := hp
 refine rc (cl Try.call8 rfl rfl) rfl ?_
 refine link_New_any hc hr1 ?_
 clear hc; intro v2 w3 hc
 refine rs (v := .tuple #[v2, .int .i64 r1.2]) (mv (v := .tuple #[v2, .int .i64 r1.2]) rfl) rfl ?_
 refine rs (v := v2) (ext (v := v2) rfl rfl) rfl ?_
 refine rs (v := .int .i64 r1.2) (ext (v := .int .i64 r1.2) rfl rfl) rfl ?_
 refine rs (v := v2) (av (v := v2) rfl) rfl ?_
 refine rs (v := .int .i64 r1.2) (av (v := .int .i64 r1.2) rfl) rfl ?_
 refine rn ?_
 refine qn ?_
 refine Wseq ?_
 refine Wseq ?_
 refine Wreg ?_
 refine rs (v := v2) (mv (v := v2) rfl) rfl ?_
 cases hb4 : r1.1
 · replace hp := optN hp hb4
   rw [hb4] at hc
   replace hc := Ctx.ptoN hc; obtain ⟨u6, hc⟩ := hc; subst u6
   refine rs (v := .bool true) (ept Try.underlying27 rfl rfl) rfl ?_
   refine rs (v := .bool true) (mv (v := .bool true) rfl) rfl ?_
   refine r0 rfl ?_
   refine r0 rfl ?_
   refine rs (v := .bool true) (pkt (v := .bool true) rfl rfl) rfl ?_
   refine rs (v := .bool true) (mv (v := .bool true) rfl) rfl ?_
   refine r0 rfl ?_
   refine r0 rfl ?_
   refine r0 rfl ?_
   refine r0 rfl ?_
   refine r0 rfl ?_
   refine r0 rfl ?_
   refine r0 rfl ?_
   refine r0 rfl ?_
   refine r0 rfl ?_
   refine r0 rfl ?_
   refine rs (v := .bool true) (pkt (v := .bool true) rfl rfl) rfl ?_
   refine rn ?_
   refine qn ?_
   refine Wct rfl ?_
   refine Wseq ?_
   refine Wreg ?_
   refine rs (v := .bool false) (av (v := .bool false) rfl) rfl ?_
   refine rn ?_
   refine qn ?_
   refine Wret ?_
   refine qr ?_
   injection hp with hp; subst hp
   refine f1 (v := .bool false) Try.results7 Try.ntmps7 rfl ?_
   exact ⟨_, rfl, k _ hc⟩
 · rename_i y5
   replace hp := optS hp hb4
   rw [hb4] at hc
   replace hc := Ctx.ptoS hc; obtain ⟨b7, u8, hc⟩ := hc; subst u8
   refine rs (v := .bool false) (epf Try.underlying27 rfl rfl) rfl ?_
   refine rs (v := .bool false) (mv (v := .bool false) rfl) rfl ?_
   refine rs (v := .int .i64 r1.2) (mv (v := .int .i64 r1.2) rfl) rfl ?_
   refine rs (v := .bool (decide (r1.2 ≠ 0))) (ned rfl rfl) rfl ?_
   refine rs (v := .bool (decide (r1.2 ≠ 0))) (pkf (v := .bool (decide (r1.2 ≠ 0))) rfl rfl) rfl ?_
   refine rs (v := .bool (decide (r1.2 ≠ 0))) (mv (v := .bool (decide (r1.2 ≠ 0))) rfl) rfl ?_
   cases hb9 : (decide (r1.2 ≠ 0))
   · replace hp := gneg hp (of_decide_eq_false hb9)
     refine rs (v := .pointer (some ⟨b7, 0, none⟩)) (mv (v := .pointer (some ⟨b7, 0, none⟩)) rfl) rfl ?_
     replace hc : Ctx w3 (Hold (pInt .u8) [.int .u8 97] 97 :: S_link_Link.hp b7 y5 :: Fr) := hc.add _ fun _ _ _ => ⟨rfl, rfl⟩
     refine rsE (Ctx.builtOp (css := [[.int .u8 97]]) (xs := ([97] : List Int)) (E := (pInt .u8)) hc Try.underlying38 Try.sizeOf5 Try.zeroValue5 rfl rfl rfl rfl rfl rfl rfl rfl) rfl ?_
     clear hc; rintro _ w11 ⟨a10, rfl, hc⟩
     refine rsE (Ctx.cvB hc rfl Try.underlying38 Try.underlying5 (by simp)) rfl ?_
     clear hc; rintro _ w12 ⟨rfl, hc⟩
     replace hc : Ctx w12 (Hold (pInt .u8) [.int .u8 98] 98 :: Hold (pRo (pInt .u8)) [.slice a10 1 1] ([97]) :: S_link_Link.hp b7 y5 :: Fr) := hc.add _ fun _ _ _ => ⟨rfl, rfl⟩
     refine rsE (Ctx.builtOp (css := [[.int .u8 98]]) (xs := ([98] : List Int)) (E := (pInt .u8)) hc Try.underlying38 Try.sizeOf5 Try.zeroValue5 rfl rfl rfl rfl rfl rfl rfl rfl) rfl ?_
     clear hc; rintro _ w14 ⟨a13, rfl, hc⟩
     refine rsE (Ctx.cvB hc rfl Try.underlying38 Try.underlying5 (by simp)) rfl ?_
     clear hc; rintro _ w15 ⟨rfl, hc⟩
     replace hc : Ctx w15 (Hold (pInt .u8) [.int .u8 99] 99 :: Hold (pRo (pInt .u8)) [.slice a13 1 1] ([98]) :: Hold (pRo (pInt .u8)) [.slice a10 1 1] ([97]) :: S_link_Link.hp b7 y5 :: Fr) := hc.add _ fun _ _ _ => ⟨rfl, rfl⟩
     refine rsE (Ctx.builtOp (css := [[.int .u8 99]]) (xs := ([99] : List Int)) (E := (pInt .u8)) hc Try.underlying38 Try.sizeOf5 Try.zeroValue5 rfl rfl rfl rfl rfl rfl rfl rfl) rfl ?_
     clear hc; rintro _ w17 ⟨a16, rfl, hc⟩
     refine rsE (Ctx.cvB hc rfl Try.underlying38 Try.underlying5 (by simp)) rfl ?_
     clear hc; rintro _ w18 ⟨rfl, hc⟩
     replace hc := hc.dup (k := 0) rfl rfl
     replace hc := hc.dup (k := 2) rfl rfl
     replace hc := hc.dup (k := 4) rfl rfl
     refine rsE (Ctx.builtOp (css := [[.slice a10 1 1], [.slice a13 1 1], [.slice a16 1 1]]) (xs := ([[97], [98], [99]] : List (List Int))) (E := (pRo (pInt .u8))) hc Try.underlying51 Try.sizeOf38 Try.zeroValue38 rfl rfl rfl rfl rfl rfl rfl rfl) rfl ?_
     clear hc; rintro _ w20 ⟨a19, rfl, hc⟩
     replace hp := bind_some hp; obtain ⟨r21, hr21, hp⟩ := hp
     replace hc := hc.pull 4 rfl rfl
     refine rc (cl Try.call13 rfl rfl) rfl ?_
     refine link_Link_Send_any reads_own hc hr21 ?_
     clear hc; intro w22 hc
     refine rs (v := .bool (decide (r21.1 ≠ 0))) (ned rfl rfl) rfl ?_
     refine rs (v := .bool (decide (r21.1 ≠ 0))) (pkf (v := .bool (decide (r21.1 ≠ 0))) rfl rfl) rfl ?_
     refine rn ?_
     refine qn ?_
     cases hb23 : (decide (r21.1 ≠ 0))
     · replace hp := gneg hp (of_decide_eq_false hb23)
       refine Wcf rfl ?_
       refine Wskip ?_
       refine qn ?_
       refine Wseq ?_
       refine Wreg ?_
       refine rs (v := .pointer (some ⟨b7, 0, none⟩)) (mv (v := .pointer (some ⟨b7, 0, none⟩)) rfl) rfl ?_
       replace hp := bind_some hp; obtain ⟨r24, hr24, hp⟩ := hp
       refine rc (cl Try.call14 rfl rfl) rfl ?_
       refine link_Link_Tick_any hc hr24 ?_
       clear hc; intro a25 n26 q27 w28 hc
       obtain ⟨u29, _⟩ := Ctx.rdLen hc (k := 0) rfl rfl reads_own; subst u29
       refine rs (v := .pointer (some ⟨b7, 0, none⟩)) (mv (v := .pointer (some ⟨b7, 0, none⟩)) rfl) rfl ?_
       replace hp := bind_some hp; obtain ⟨r30, hr30, hp⟩ := hp
       replace hc := hc.pull 1 rfl rfl
       refine rc (cl Try.call14 rfl rfl) rfl ?_
       refine link_Link_Tick_any hc hr30 ?_
       clear hc; intro a31 n32 q33 w34 hc
       obtain ⟨u35, _⟩ := Ctx.rdLen hc (k := 0) rfl rfl reads_own; subst u35
       refine rs (v := .pointer (some ⟨b7, 0, none⟩)) (mv (v := .pointer (some ⟨b7, 0, none⟩)) rfl) rfl ?_
       replace hp := bind_some hp; obtain ⟨r36, hr36, hp⟩ := hp
       replace hc := hc.pull 1 rfl rfl
       refine rc (cl Try.call14 rfl rfl) rfl ?_
       refine link_Link_Tick_any hc hr36 ?_
       clear hc; intro a37 n38 q39 w40 hc
       obtain ⟨u41, _⟩ := Ctx.rdLen hc (k := 0) rfl rfl reads_own; subst u41
       refine rs (v := .pointer (some ⟨b7, 0, none⟩)) (mv (v := .pointer (some ⟨b7, 0, none⟩)) rfl) rfl ?_
       replace hp := bind_some hp; obtain ⟨r42, hr42, hp⟩ := hp
       replace hc := hc.pull 1 rfl rfl
       refine rc (cl Try.call14 rfl rfl) rfl ?_
       refine link_Link_Tick_any hc hr42 ?_
       clear hc; intro a43 n44 q45 w46 hc
       obtain ⟨u47, _⟩ := Ctx.rdLen hc (k := 0) rfl rfl reads_own; subst u47
       refine rs (v := .slice a25 r24.1.length q27) (av (v := .slice a25 r24.1.length q27) rfl) rfl ?_
       refine rs (v := .slice a31 r30.1.length q33) (av (v := .slice a31 r30.1.length q33) rfl) rfl ?_
       refine rs (v := .slice a37 r36.1.length q39) (av (v := .slice a37 r36.1.length q39) rfl) rfl ?_
       refine rs (v := .slice a43 r42.1.length q45) (av (v := .slice a43 r42.1.length q45) rfl) rfl ?_
       refine rn ?_
       refine qn ?_
       refine Wseq ?_
       refine Wreg ?_
       refine rs (v := .pointer (some ⟨b7, 0, none⟩)) (mv (v := .pointer (some ⟨b7, 0, none⟩)) rfl) rfl ?_
       refine rs (v := .agg #[.int .i64 0, .int .i64 0, .int .i64 1, .slice none 0 0]) (bd_46_2 rfl) rfl ?_
       replace hc := hc.nilRo (pInt .u8)
       replace hc := hc.dup (k := 0) rfl rfl
       replace hp := bind_some hp; obtain ⟨r48, hr48, hp⟩ := hp
       replace hc := hc.pull 3 rfl rfl
       refine rc (cl Try.call15 rfl rfl) rfl ?_
       refine link_Link_Hear_any (x1 := (⟨0, 0, 1, []⟩ : S_api_Seg)) hc hr48 ?_
       clear hc; intro a49 n50 q51 w52 hc
       obtain ⟨u53, _⟩ := Ctx.rdLen hc (k := 0) rfl rfl reads_own; subst u53
       refine rs (v := .tuple #[.slice a49 r48.1.length q51, .int .i64 r48.2.1]) (mv (v := .tuple #[.slice a49 r48.1.length q51, .int .i64 r48.2.1]) rfl) rfl ?_
       refine rs (v := .slice a49 r48.1.length q51) (ext (v := .slice a49 r48.1.length q51) rfl rfl) rfl ?_
       refine rs (v := .int .i64 r48.2.1) (ext (v := .int .i64 r48.2.1) rfl rfl) rfl ?_
       refine rs (v := .slice a49 r48.1.length q51) (av (v := .slice a49 r48.1.length q51) rfl) rfl ?_
       refine rs (v := .int .i64 r48.2.1) (av (v := .int .i64 r48.2.1) rfl) rfl ?_
       refine rn ?_
       refine qn ?_
       refine Wseq ?_
       refine Wreg ?_
       refine rs (v := .pointer (some ⟨b7, 0, none⟩)) (mv (v := .pointer (some ⟨b7, 0, none⟩)) rfl) rfl ?_
       replace hp := bind_some hp; obtain ⟨r54, hr54, hp⟩ := hp
       replace hc := hc.pull 1 rfl rfl
       refine rc (cl Try.call14 rfl rfl) rfl ?_
       refine link_Link_Tick_any hc hr54 ?_
       clear hc; intro a55 n56 q57 w58 hc
       obtain ⟨u59, _⟩ := Ctx.rdLen hc (k := 0) rfl rfl reads_own; subst u59
       refine rs (v := .slice a55 r54.1.length q57) (av (v := .slice a55 r54.1.length q57) rfl) rfl ?_
       refine rn ?_
       refine qn ?_
       refine Wseq ?_
       refine Wreg ?_
       refine rs (v := .slice a25 r24.1.length q27) (mv (v := .slice a25 r24.1.length q27) rfl) rfl ?_
       refine rs (v := .int .i64 ((r24.1.length : Nat) : Int)) (ln rfl Try.underlying29) rfl ?_
       refine rs (v := .bool (decide (((r24.1.length : Nat) : Int) = 2))) (eqd rfl rfl) rfl ?_
       refine rs (v := .bool (decide (((r24.1.length : Nat) : Int) = 2))) (mv (v := .bool (decide (((r24.1.length : Nat) : Int) = 2))) rfl) rfl ?_
       cases hb60 : (decide (((r24.1.length : Nat) : Int) = 2))
       · replace hp := gneg hp (of_decide_eq_false hb60)
         refine r0 rfl ?_
         refine r0 rfl ?_
         refine r0 rfl ?_
         refine r0 rfl ?_
         refine r0 rfl ?_
         refine r0 rfl ?_
         refine rs (v := .bool false) (pkf (v := .bool false) rfl rfl) rfl ?_
         refine rs (v := .bool false) (mv (v := .bool false) rfl) rfl ?_
         refine r0 rfl ?_
         refine r0 rfl ?_
         refine r0 rfl ?_
         refine rs (v := .bool false) (pkf (v := .bool false) rfl rfl) rfl ?_
         refine rs (v := .bool false) (mv (v := .bool false) rfl) rfl ?_
         refine r0 rfl ?_
         refine r0 rfl ?_
         refine r0 rfl ?_
         refine r0 rfl ?_
         refine r0 rfl ?_
         refine rs (v := .bool false) (pkf (v := .bool false) rfl rfl) rfl ?_
         refine rs (v := .bool false) (mv (v := .bool false) rfl) rfl ?_
         refine r0 rfl ?_
         refine r0 rfl ?_
         refine r0 rfl ?_
         refine r0 rfl ?_
         refine r0 rfl ?_
         refine r0 rfl ?_
         refine rs (v := .bool false) (pkf (v := .bool false) rfl rfl) rfl ?_
         refine rs (v := .bool false) (mv (v := .bool false) rfl) rfl ?_
         refine r0 rfl ?_
         refine r0 rfl ?_
         refine rs (v := .bool false) (pkf (v := .bool false) rfl rfl) rfl ?_
         refine rs (v := .bool false) (mv (v := .bool false) rfl) rfl ?_
         refine r0 rfl ?_
         refine r0 rfl ?_
         refine r0 rfl ?_
         refine rs (v := .bool false) (pkf (v := .bool false) rfl rfl) rfl ?_
         refine rs (v := .bool false) (mv (v := .bool false) rfl) rfl ?_
         refine r0 rfl ?_
         refine r0 rfl ?_
         refine r0 rfl ?_
         refine r0 rfl ?_
         refine r0 rfl ?_
         refine rs (v := .bool false) (pkf (v := .bool false) rfl rfl) rfl ?_
         refine rs (v := .bool false) (av (v := .bool false) rfl) rfl ?_
         refine rn ?_
         refine qn ?_
         refine Wret ?_
         replace hc := hc.rem 11 rfl rfl
         replace hc := hc.rem 10 rfl rfl
         replace hc := hc.rem 9 rfl rfl
         replace hc := hc.rem 8 rfl rfl
         replace hc := hc.rem 7 rfl rfl
         replace hc := hc.rem 6 rfl rfl
         replace hc := hc.rem 5 rfl rfl
         replace hc := hc.rem 4 rfl rfl
         replace hc := hc.rem 3 rfl rfl
         replace hc := hc.rem 2 rfl rfl
         replace hc := hc.rem 1 rfl rfl
         replace hc := hc.rem 0 rfl rfl
         injection hp with hp; subst hp
         refine f1 (v := .bool false) Try.results7 Try.ntmps7 rfl ?_
         exact ⟨_, rfl, k _ hc⟩
       · replace hp := gpos hp (of_decide_eq_true hb60)
         refine rs (v := .slice a31 r30.1.length q33) (mv (v := .slice a31 r30.1.length q33) rfl) rfl ?_
         refine rs (v := .int .i64 ((r30.1.length : Nat) : Int)) (ln rfl Try.underlying29) rfl ?_
         refine rs (v := .slice a37 r36.1.length q39) (mv (v := .slice a37 r36.1.length q39) rfl) rfl ?_
         refine rs (v := .int .i64 ((r36.1.length : Nat) : Int)) (ln rfl Try.underlying29) rfl ?_
         refine rs (v := .int .i64 (IntKind.i64.wrap (((r30.1.length : Nat) : Int) + ((r36.1.length : Nat) : Int)))) (adw rfl rfl) rfl ?_
         refine rs (v := .bool (decide ((IntKind.i64.wrap (((r30.1.length : Nat) : Int) + ((r36.1.length : Nat) : Int))) = 0))) (eqd rfl rfl) rfl ?_
         refine rs (v := .bool (decide ((IntKind.i64.wrap (((r30.1.length : Nat) : Int) + ((r36.1.length : Nat) : Int))) = 0))) (pkt (v := .bool (decide ((IntKind.i64.wrap (((r30.1.length : Nat) : Int) + ((r36.1.length : Nat) : Int))) = 0))) rfl rfl) rfl ?_
         refine rs (v := .bool (decide ((IntKind.i64.wrap (((r30.1.length : Nat) : Int) + ((r36.1.length : Nat) : Int))) = 0))) (mv (v := .bool (decide ((IntKind.i64.wrap (((r30.1.length : Nat) : Int) + ((r36.1.length : Nat) : Int))) = 0))) rfl) rfl ?_
         cases hb61 : (decide ((IntKind.i64.wrap (((r30.1.length : Nat) : Int) + ((r36.1.length : Nat) : Int))) = 0))
         · replace hp := gneg hp (of_decide_eq_false hb61)
           refine r0 rfl ?_
           refine r0 rfl ?_
           refine r0 rfl ?_
           refine rs (v := .bool false) (pkf (v := .bool false) rfl rfl) rfl ?_
           refine rs (v := .bool false) (mv (v := .bool false) rfl) rfl ?_
           refine r0 rfl ?_
           refine r0 rfl ?_
           refine r0 rfl ?_
           refine r0 rfl ?_
           refine r0 rfl ?_
           refine rs (v := .bool false) (pkf (v := .bool false) rfl rfl) rfl ?_
           refine rs (v := .bool false) (mv (v := .bool false) rfl) rfl ?_
           refine r0 rfl ?_
           refine r0 rfl ?_
           refine r0 rfl ?_
           refine r0 rfl ?_
           refine r0 rfl ?_
           refine r0 rfl ?_
           refine rs (v := .bool false) (pkf (v := .bool false) rfl rfl) rfl ?_
           refine rs (v := .bool false) (mv (v := .bool false) rfl) rfl ?_
           refine r0 rfl ?_
           refine r0 rfl ?_
           refine rs (v := .bool false) (pkf (v := .bool false) rfl rfl) rfl ?_
           refine rs (v := .bool false) (mv (v := .bool false) rfl) rfl ?_
           refine r0 rfl ?_
           refine r0 rfl ?_
           refine r0 rfl ?_
           refine rs (v := .bool false) (pkf (v := .bool false) rfl rfl) rfl ?_
           refine rs (v := .bool false) (mv (v := .bool false) rfl) rfl ?_
           refine r0 rfl ?_
           refine r0 rfl ?_
           refine r0 rfl ?_
           refine r0 rfl ?_
           refine r0 rfl ?_
           refine rs (v := .bool false) (pkf (v := .bool false) rfl rfl) rfl ?_
           refine rs (v := .bool false) (av (v := .bool false) rfl) rfl ?_
           refine rn ?_
           refine qn ?_
           refine Wret ?_
           replace hc := hc.rem 11 rfl rfl
           replace hc := hc.rem 10 rfl rfl
           replace hc := hc.rem 9 rfl rfl
           replace hc := hc.rem 8 rfl rfl
           replace hc := hc.rem 7 rfl rfl
           replace hc := hc.rem 6 rfl rfl
           replace hc := hc.rem 5 rfl rfl
           replace hc := hc.rem 4 rfl rfl
           replace hc := hc.rem 3 rfl rfl
           replace hc := hc.rem 2 rfl rfl
           replace hc := hc.rem 1 rfl rfl
           replace hc := hc.rem 0 rfl rfl
           injection hp with hp; subst hp
           refine f1 (v := .bool false) Try.results7 Try.ntmps7 rfl ?_
           exact ⟨_, rfl, k _ hc⟩
         · replace hp := gpos hp (of_decide_eq_true hb61)
           refine rs (v := .slice a43 r42.1.length q45) (mv (v := .slice a43 r42.1.length q45) rfl) rfl ?_
           refine rs (v := .int .i64 ((r42.1.length : Nat) : Int)) (ln rfl Try.underlying29) rfl ?_
           refine rs (v := .bool (decide (((r42.1.length : Nat) : Int) = 2))) (eqd rfl rfl) rfl ?_
           refine rs (v := .bool (decide (((r42.1.length : Nat) : Int) = 2))) (pkt (v := .bool (decide (((r42.1.length : Nat) : Int) = 2))) rfl rfl) rfl ?_
           refine rs (v := .bool (decide (((r42.1.length : Nat) : Int) = 2))) (mv (v := .bool (decide (((r42.1.length : Nat) : Int) = 2))) rfl) rfl ?_
           cases hb62 : (decide (((r42.1.length : Nat) : Int) = 2))
           · replace hp := gneg hp (of_decide_eq_false hb62)
             refine r0 rfl ?_
             refine r0 rfl ?_
             refine r0 rfl ?_
             refine r0 rfl ?_
             refine r0 rfl ?_
             refine rs (v := .bool false) (pkf (v := .bool false) rfl rfl) rfl ?_
             refine rs (v := .bool false) (mv (v := .bool false) rfl) rfl ?_
             refine r0 rfl ?_
             refine r0 rfl ?_
             refine r0 rfl ?_
             refine r0 rfl ?_
             refine r0 rfl ?_
             refine r0 rfl ?_
             refine rs (v := .bool false) (pkf (v := .bool false) rfl rfl) rfl ?_
             refine rs (v := .bool false) (mv (v := .bool false) rfl) rfl ?_
             refine r0 rfl ?_
             refine r0 rfl ?_
             refine rs (v := .bool false) (pkf (v := .bool false) rfl rfl) rfl ?_
             refine rs (v := .bool false) (mv (v := .bool false) rfl) rfl ?_
             refine r0 rfl ?_
             refine r0 rfl ?_
             refine r0 rfl ?_
             refine rs (v := .bool false) (pkf (v := .bool false) rfl rfl) rfl ?_
             refine rs (v := .bool false) (mv (v := .bool false) rfl) rfl ?_
             refine r0 rfl ?_
             refine r0 rfl ?_
             refine r0 rfl ?_
             refine r0 rfl ?_
             refine r0 rfl ?_
             refine rs (v := .bool false) (pkf (v := .bool false) rfl rfl) rfl ?_
             refine rs (v := .bool false) (av (v := .bool false) rfl) rfl ?_
             refine rn ?_
             refine qn ?_
             refine Wret ?_
             replace hc := hc.rem 11 rfl rfl
             replace hc := hc.rem 10 rfl rfl
             replace hc := hc.rem 9 rfl rfl
             replace hc := hc.rem 8 rfl rfl
             replace hc := hc.rem 7 rfl rfl
             replace hc := hc.rem 6 rfl rfl
             replace hc := hc.rem 5 rfl rfl
             replace hc := hc.rem 4 rfl rfl
             replace hc := hc.rem 3 rfl rfl
             replace hc := hc.rem 2 rfl rfl
             replace hc := hc.rem 1 rfl rfl
             replace hc := hc.rem 0 rfl rfl
             injection hp with hp; subst hp
             refine f1 (v := .bool false) Try.results7 Try.ntmps7 rfl ?_
             exact ⟨_, rfl, k _ hc⟩
           · replace hp := gpos hp (of_decide_eq_true hb62)
             refine rs (v := .slice a43 r42.1.length q45) (mv (v := .slice a43 r42.1.length q45) rfl) rfl ?_
             replace hp := bind_some hp; obtain ⟨y63, hy63, hp⟩ := hp
             obtain ⟨b66, o67, u68, hi64, hi65⟩ := Ctx.rdAt hc (k := 4) rfl rfl reads_own hy63
             subst u68
             refine rs (v := .pointer (some ⟨b66, o67 + ((1 : Int)).toNat * 4, none⟩)) (ixx rfl rfl Try.underlying29 Try.sizeOf46 hi64 hi65 rfl) rfl ?_
             refine rs (v := .pointer (some ⟨b66, o67 + ((1 : Int)).toNat * 4 + 1, none⟩)) (fax 1 rfl Try.underlying46 rfl Try.sizeOf3 rfl rfl rfl) rfl ?_
             replace hc := Ctx.rdCell hc (k := 4) rfl rfl reads_own hy63; obtain ⟨cs69, hc, hcell70⟩ := hc
             replace hc := S_api_Seg.op hc; obtain ⟨a72, q73, u71, hc⟩ := hc; subst u71
             refine rs (v := .int .i64 y63.Seq) (ld rfl Try.isAgg3 (hcell70 1 _ rfl)) rfl ?_
             refine rs (v := .bool (decide (y63.Seq = 2))) (eqd rfl rfl) rfl ?_
             refine rs (v := .bool (decide (y63.Seq = 2))) (pkt (v := .bool (decide (y63.Seq = 2))) rfl rfl) rfl ?_
             refine rs (v := .bool (decide (y63.Seq = 2))) (mv (v := .bool (decide (y63.Seq = 2))) rfl) rfl ?_
             cases hb74 : (decide (y63.Seq = 2))
             · replace hp := gneg hp (of_decide_eq_false hb74)
               refine r0 rfl ?_
               refine r0 rfl ?_
               refine r0 rfl ?_
               refine r0 rfl ?_
               refine r0 rfl ?_
               refine r0 rfl ?_
               refine rs (v := .bool false) (pkf (v := .bool false) rfl rfl) rfl ?_
               refine rs (v := .bool false) (mv (v := .bool false) rfl) rfl ?_
               refine r0 rfl ?_
               refine r0 rfl ?_
               refine rs (v := .bool false) (pkf (v := .bool false) rfl rfl) rfl ?_
               refine rs (v := .bool false) (mv (v := .bool false) rfl) rfl ?_
               refine r0 rfl ?_
               refine r0 rfl ?_
               refine r0 rfl ?_
               refine rs (v := .bool false) (pkf (v := .bool false) rfl rfl) rfl ?_
               refine rs (v := .bool false) (mv (v := .bool false) rfl) rfl ?_
               refine r0 rfl ?_
               refine r0 rfl ?_
               refine r0 rfl ?_
               refine r0 rfl ?_
               refine r0 rfl ?_
               refine rs (v := .bool false) (pkf (v := .bool false) rfl rfl) rfl ?_
               refine rs (v := .bool false) (av (v := .bool false) rfl) rfl ?_
               refine rn ?_
               refine qn ?_
               refine Wret ?_
               replace hc := hc.rem 12 rfl rfl
               replace hc := hc.rem 11 rfl rfl
               replace hc := hc.rem 10 rfl rfl
               replace hc := hc.rem 9 rfl rfl
               replace hc := hc.rem 8 rfl rfl
               replace hc := hc.rem 7 rfl rfl
               replace hc := hc.rem 6 rfl rfl
               replace hc := hc.rem 5 rfl rfl
               replace hc := hc.rem 4 rfl rfl
               replace hc := hc.rem 3 rfl rfl
               replace hc := hc.rem 2 rfl rfl
               replace hc := hc.rem 1 rfl rfl
               replace hc := hc.rem 0 rfl rfl
               injection hp with hp; subst hp
               refine f1 (v := .bool false) Try.results7 Try.ntmps7 rfl ?_
               exact ⟨_, rfl, k _ hc⟩
             · replace hp := gpos hp (of_decide_eq_true hb74)
               refine rs (v := .slice (some ⟨b66, o67, none⟩) r42.1.length q45) (mv (v := .slice (some ⟨b66, o67, none⟩) r42.1.length q45) rfl) rfl ?_
               replace hp := bind_some hp; obtain ⟨y75, hy75, hp⟩ := hp
               obtain ⟨b78, o79, u80, hi76, hi77⟩ := Ctx.rdAt hc (k := 5) rfl rfl reads_own hy75
               clear u80
               refine rs (v := .pointer (some ⟨b66, o67 + ((1 : Int)).toNat * 4, none⟩)) (ixx rfl rfl Try.underlying29 Try.sizeOf46 hi76 hi77 rfl) rfl ?_
               refine rs (v := .pointer (some ⟨b66, o67 + ((1 : Int)).toNat * 4 + 3, none⟩)) (fax 3 rfl Try.underlying46 rfl Try.sizeOf38 rfl rfl rfl) rfl ?_
               replace hc := Ctx.rdCell hc (k := 5) rfl rfl reads_own hy75; obtain ⟨cs81, hc, hcell82⟩ := hc
               replace hc := S_api_Seg.op hc; obtain ⟨a84, q85, u83, hc⟩ := hc; subst u83
               refine rs (v := .slice a84 y75.Body.length q85) (ld rfl Try.isAgg38 (hcell82 3 _ rfl)) rfl ?_
               refine rs (v := .string (strOfNums y75.Body)) (Ctx.b2s hc (k := 0) rfl rfl reads_ro rfl Try.underlying38 Try.underlying5 Try.underlying9) rfl ?_
               refine rs (v := .bool (decide ((strOfNums y75.Body) = (ByteArray.mk #[98])))) (eqstr rfl rfl) rfl ?_
               refine rs (v := .bool (decide ((strOfNums y75.Body) = (ByteArray.mk #[98])))) (pkt (v := .bool (decide ((strOfNums y75.Body) = (ByteArray.mk #[98])))) rfl rfl) rfl ?_
               refine rs (v := .bool (decide ((strOfNums y75.Body) = (ByteArray.mk #[98])))) (mv (v := .bool (decide ((strOfNums y75.Body) = (ByteArray.mk #[98])))) rfl) rfl ?_
               cases hb86 : (decide ((strOfNums y75.Body) = (ByteArray.mk #[98])))
               · replace hp := gneg hp (of_decide_eq_false hb86)
                 refine r0 rfl ?_
                 refine r0 rfl ?_
                 refine rs (v := .bool false) (pkf (v := .bool false) rfl rfl) rfl ?_
                 refine rs (v := .bool false) (mv (v := .bool false) rfl) rfl ?_
                 refine r0 rfl ?_
                 refine r0 rfl ?_
                 refine r0 rfl ?_
                 refine rs (v := .bool false) (pkf (v := .bool false) rfl rfl) rfl ?_
                 refine rs (v := .bool false) (mv (v := .bool false) rfl) rfl ?_
                 refine r0 rfl ?_
                 refine r0 rfl ?_
                 refine r0 rfl ?_
                 refine r0 rfl ?_
                 refine r0 rfl ?_
                 refine rs (v := .bool false) (pkf (v := .bool false) rfl rfl) rfl ?_
                 refine rs (v := .bool false) (av (v := .bool false) rfl) rfl ?_
                 refine rn ?_
                 refine qn ?_
                 refine Wret ?_
                 replace hc := hc.rem 13 rfl rfl
                 replace hc := hc.rem 12 rfl rfl
                 replace hc := hc.rem 11 rfl rfl
                 replace hc := hc.rem 10 rfl rfl
                 replace hc := hc.rem 9 rfl rfl
                 replace hc := hc.rem 8 rfl rfl
                 replace hc := hc.rem 7 rfl rfl
                 replace hc := hc.rem 6 rfl rfl
                 replace hc := hc.rem 5 rfl rfl
                 replace hc := hc.rem 4 rfl rfl
                 replace hc := hc.rem 3 rfl rfl
                 replace hc := hc.rem 2 rfl rfl
                 replace hc := hc.rem 1 rfl rfl
                 replace hc := hc.rem 0 rfl rfl
                 injection hp with hp; subst hp
                 refine f1 (v := .bool false) Try.results7 Try.ntmps7 rfl ?_
                 exact ⟨_, rfl, k _ hc⟩
               · replace hp := gpos hp (of_decide_eq_true hb86)
                 refine rs (v := .int .i64 r48.2.1) (mv (v := .int .i64 r48.2.1) rfl) rfl ?_
                 refine rs (v := .bool (decide (r48.2.1 = 0))) (eqd rfl rfl) rfl ?_
                 refine rs (v := .bool (decide (r48.2.1 = 0))) (pkt (v := .bool (decide (r48.2.1 = 0))) rfl rfl) rfl ?_
                 refine rs (v := .bool (decide (r48.2.1 = 0))) (mv (v := .bool (decide (r48.2.1 = 0))) rfl) rfl ?_
                 cases hb87 : (decide (r48.2.1 = 0))
                 · replace hp := gneg hp (of_decide_eq_false hb87)
                   refine r0 rfl ?_
                   refine r0 rfl ?_
                   refine r0 rfl ?_
                   refine rs (v := .bool false) (pkf (v := .bool false) rfl rfl) rfl ?_
                   refine rs (v := .bool false) (mv (v := .bool false) rfl) rfl ?_
                   refine r0 rfl ?_
                   refine r0 rfl ?_
                   refine r0 rfl ?_
                   refine r0 rfl ?_
                   refine r0 rfl ?_
                   refine rs (v := .bool false) (pkf (v := .bool false) rfl rfl) rfl ?_
                   refine rs (v := .bool false) (av (v := .bool false) rfl) rfl ?_
                   refine rn ?_
                   refine qn ?_
                   refine Wret ?_
                   replace hc := hc.rem 13 rfl rfl
                   replace hc := hc.rem 12 rfl rfl
                   replace hc := hc.rem 11 rfl rfl
                   replace hc := hc.rem 10 rfl rfl
                   replace hc := hc.rem 9 rfl rfl
                   replace hc := hc.rem 8 rfl rfl
                   replace hc := hc.rem 7 rfl rfl
                   replace hc := hc.rem 6 rfl rfl
                   replace hc := hc.rem 5 rfl rfl
                   replace hc := hc.rem 4 rfl rfl
                   replace hc := hc.rem 3 rfl rfl
                   replace hc := hc.rem 2 rfl rfl
                   replace hc := hc.rem 1 rfl rfl
                   replace hc := hc.rem 0 rfl rfl
                   injection hp with hp; subst hp
                   refine f1 (v := .bool false) Try.results7 Try.ntmps7 rfl ?_
                   exact ⟨_, rfl, k _ hc⟩
                 · replace hp := gpos hp (of_decide_eq_true hb87)
                   refine rs (v := .slice a55 r54.1.length q57) (mv (v := .slice a55 r54.1.length q57) rfl) rfl ?_
                   refine rs (v := .int .i64 ((r54.1.length : Nat) : Int)) (ln rfl Try.underlying29) rfl ?_
                   refine rs (v := .bool (decide (((r54.1.length : Nat) : Int) = 1))) (eqd rfl rfl) rfl ?_
                   refine rs (v := .bool (decide (((r54.1.length : Nat) : Int) = 1))) (pkt (v := .bool (decide (((r54.1.length : Nat) : Int) = 1))) rfl rfl) rfl ?_
                   refine rs (v := .bool (decide (((r54.1.length : Nat) : Int) = 1))) (mv (v := .bool (decide (((r54.1.length : Nat) : Int) = 1))) rfl) rfl ?_
                   cases hb88 : (decide (((r54.1.length : Nat) : Int) = 1))
                   · replace hp := gneg hp (of_decide_eq_false hb88)
                     refine r0 rfl ?_
                     refine r0 rfl ?_
                     refine r0 rfl ?_
                     refine r0 rfl ?_
                     refine r0 rfl ?_
                     refine rs (v := .bool false) (pkf (v := .bool false) rfl rfl) rfl ?_
                     refine rs (v := .bool false) (av (v := .bool false) rfl) rfl ?_
                     refine rn ?_
                     refine qn ?_
                     refine Wret ?_
                     replace hc := hc.rem 13 rfl rfl
                     replace hc := hc.rem 12 rfl rfl
                     replace hc := hc.rem 11 rfl rfl
                     replace hc := hc.rem 10 rfl rfl
                     replace hc := hc.rem 9 rfl rfl
                     replace hc := hc.rem 8 rfl rfl
                     replace hc := hc.rem 7 rfl rfl
                     replace hc := hc.rem 6 rfl rfl
                     replace hc := hc.rem 5 rfl rfl
                     replace hc := hc.rem 4 rfl rfl
                     replace hc := hc.rem 3 rfl rfl
                     replace hc := hc.rem 2 rfl rfl
                     replace hc := hc.rem 1 rfl rfl
                     replace hc := hc.rem 0 rfl rfl
                     injection hp with hp; subst hp
                     refine f1 (v := .bool false) Try.results7 Try.ntmps7 rfl ?_
                     exact ⟨_, rfl, k _ hc⟩
                   · replace hp := gpos hp (of_decide_eq_true hb88)
                     refine rs (v := .slice a55 r54.1.length q57) (mv (v := .slice a55 r54.1.length q57) rfl) rfl ?_
                     replace hp := bind_some hp; obtain ⟨y89, hy89, hp⟩ := hp
                     obtain ⟨b92, o93, u94, hi90, hi91⟩ := Ctx.rdAt hc (k := 2) rfl rfl reads_own hy89
                     subst u94
                     refine rs (v := .pointer (some ⟨b92, o93 + ((0 : Int)).toNat * 4, none⟩)) (ixx rfl rfl Try.underlying29 Try.sizeOf46 hi90 hi91 rfl) rfl ?_
                     refine rs (v := .pointer (some ⟨b92, o93 + ((0 : Int)).toNat * 4 + 1, none⟩)) (fax 1 rfl Try.underlying46 rfl Try.sizeOf3 rfl rfl rfl) rfl ?_
                     replace hc := Ctx.rdCell hc (k := 2) rfl rfl reads_own hy89; obtain ⟨cs95, hc, hcell96⟩ := hc
                     replace hc := S_api_Seg.op hc; obtain ⟨a98, q99, u97, hc⟩ := hc; subst u97
                     refine rs (v := .int .i64 y89.Seq) (ld rfl Try.isAgg3 (hcell96 1 _ rfl)) rfl ?_
                     refine rs (v := .bool (decide (y89.Seq = 3))) (eqd rfl rfl) rfl ?_
                     refine rs (v := .bool (decide (y89.Seq = 3))) (pkt (v := .bool (decide (y89.Seq = 3))) rfl rfl) rfl ?_
                     refine rs (v := .bool (decide (y89.Seq = 3))) (av (v := .bool (decide (y89.Seq = 3))) rfl) rfl ?_
                     refine rn ?_
                     refine qn ?_
                     refine Wret ?_
                     replace hc := hc.rem 14 rfl rfl
                     replace hc := hc.rem 13 rfl rfl
                     replace hc := hc.rem 12 rfl rfl
                     replace hc := hc.rem 11 rfl rfl
                     replace hc := hc.rem 10 rfl rfl
                     replace hc := hc.rem 9 rfl rfl
                     replace hc := hc.rem 8 rfl rfl
                     replace hc := hc.rem 7 rfl rfl
                     replace hc := hc.rem 6 rfl rfl
                     replace hc := hc.rem 5 rfl rfl
                     replace hc := hc.rem 4 rfl rfl
                     replace hc := hc.rem 3 rfl rfl
                     replace hc := hc.rem 2 rfl rfl
                     replace hc := hc.rem 1 rfl rfl
                     replace hc := hc.rem 0 rfl rfl
                     injection hp with hp; subst hp
                     refine f1 (v := .bool (decide (y89.Seq = 3))) Try.results7 Try.ntmps7 rfl ?_
                     exact ⟨_, rfl, k _ hc⟩
     · replace hp := gpos hp (of_decide_eq_true hb23)
       refine Wct rfl ?_
       refine Wseq ?_
       refine Wreg ?_
       refine rs (v := .bool false) (av (v := .bool false) rfl) rfl ?_
       refine rn ?_
       refine qn ?_
       refine Wret ?_
       refine qr ?_
       replace hc := hc.rem 4 rfl rfl
       replace hc := hc.rem 3 rfl rfl
       replace hc := hc.rem 2 rfl rfl
       replace hc := hc.rem 1 rfl rfl
       replace hc := hc.rem 0 rfl rfl
       injection hp with hp; subst hp
       refine f1 (v := .bool false) Try.results7 Try.ntmps7 rfl ?_
       exact ⟨_, rfl, k _ hc⟩
   · replace hp := gpos hp (of_decide_eq_true hb9)
     refine r0 rfl ?_
     refine r0 rfl ?_
     refine r0 rfl ?_
     refine r0 rfl ?_
     refine r0 rfl ?_
     refine r0 rfl ?_
     refine r0 rfl ?_
     refine r0 rfl ?_
     refine r0 rfl ?_
     refine r0 rfl ?_
     refine rs (v := .bool true) (pkt (v := .bool true) rfl rfl) rfl ?_
     refine rn ?_
     refine qn ?_
     refine Wct rfl ?_
     refine Wseq ?_
     refine Wreg ?_
     refine rs (v := .bool false) (av (v := .bool false) rfl) rfl ?_
     refine rn ?_
     refine qn ?_
     refine Wret ?_
     refine qr ?_
     replace hc := hc.rem 0 rfl rfl
     injection hp with hp; subst hp
     refine f1 (v := .bool false) Try.results7 Try.ntmps7 rfl ?_
     exact ⟨_, rfl, k _ hc⟩

-- FN peloton/pelotonlaw16.LinkWindow
def law16_LinkWindow.J4 (j45 : Int) (j46 : Int) (y69 : S_api_Seg) (k3 : Int → Int → Option (Bool)) (j80 : Bool) : Option (Bool) :=
  if j80 = true then
    some false
  else
    k3 (max j45 y69.Seq) (IntKind.i64.wrap (j46 + 1))

def law16_LinkWindow.L3 (N : Nat) (x2 : (List Int)) (e10 : Int) (e20 : Int) (j26 : Int) (j28 : Int) (r38 : ((List S_api_Seg) × S_link_Link)) (k2 : S_link_Link → Int → Int → Int → Option (Bool)) : Nat → Int → Int → Option (Bool)
  | 0, _, _ => none
  | m3 + 1, j45, j46 =>
    if j46 < ((r38.1.length : Nat) : Int) then
      (idx r38.1 j46).bind fun y69 =>
      if y69.Seq ≤ j26 then
        law16_LinkWindow.J4 j45 j46 y69 (law16_LinkWindow.L3 N x2 e10 e20 j26 j28 r38 k2 m3) true
      else
        if y69.Seq > (IntKind.i64.wrap (j26 + e10)) then
          law16_LinkWindow.J4 j45 j46 y69 (law16_LinkWindow.L3 N x2 e10 e20 j26 j28 r38 k2 m3) true
        else
          if y69.Seq > e20 then
            law16_LinkWindow.J4 j45 j46 y69 (law16_LinkWindow.L3 N x2 e10 e20 j26 j28 r38 k2 m3) true
          else
            if j46 > 0 then
              (idx r38.1 (IntKind.i64.wrap (j46 - 1))).bind fun y117 =>
              if y117.Seq ≥ y69.Seq then
                law16_LinkWindow.J4 j45 j46 y69 (law16_LinkWindow.L3 N x2 e10 e20 j26 j28 r38 k2 m3) true
              else
                (idx r38.1 j46).bind fun y129 =>
                if ((y129.Body.length : Nat) : Int) ≠ 1 then
                  law16_LinkWindow.J4 j45 j46 y69 (law16_LinkWindow.L3 N x2 e10 e20 j26 j28 r38 k2 m3) true
                else
                  (idx r38.1 j46).bind fun y141 =>
                  (idx y141.Body (0 : Int)).bind fun y152 =>
                  law16_LinkWindow.J4 j45 j46 y69 (law16_LinkWindow.L3 N x2 e10 e20 j26 j28 r38 k2 m3) (decide ((IntKind.i64.wrap y152) ≠ (IntKind.i64.wrap (y69.Seq - 1))))
            else
              (idx r38.1 j46).bind fun y85 =>
              if ((y85.Body.length : Nat) : Int) ≠ 1 then
                law16_LinkWindow.J4 j45 j46 y69 (law16_LinkWindow.L3 N x2 e10 e20 j26 j28 r38 k2 m3) true
              else
                (idx r38.1 j46).bind fun y97 =>
                (idx y97.Body (0 : Int)).bind fun y108 =>
                law16_LinkWindow.J4 j45 j46 y69 (law16_LinkWindow.L3 N x2 e10 e20 j26 j28 r38 k2 m3) (decide ((IntKind.i64.wrap y108) ≠ (IntKind.i64.wrap (y69.Seq - 1))))
    else
      (idx x2 j28).bind fun y49 =>
      (some (min j45 (IntKind.i64.wrap (j26 + (Int.tmod (IntKind.i64.wrap ((Int.tmod y49 4) + 4)) 4))))).bind fun e58 =>
      (link_Link_Hear N r38.2 (⟨0, 0, e58, []⟩ : S_api_Seg)).bind fun r59 =>
      if r59.2.1 ≠ 0 then
        some false
      else
        (link_Link_Left r59.2.2).bind fun r66 =>
        if r66 ≠ (IntKind.i64.wrap (e20 - (max j26 e58))) then
          some false
        else
          k2 r59.2.2 (max j26 e58) j45 (IntKind.i64.wrap (j28 + 1))

def law16_LinkWindow.L2 (N : Nat) (x2 : (List Int)) (e10 : Int) (e20 : Int) : Nat → S_link_Link → Int → Int → Int → Option (Bool)
  | 0, _, _, _, _ => none
  | m2 + 1, j25, j26, j27, j28 =>
    if j28 < ((x2.length : Nat) : Int) then
      (link_Link_Tick N j25).bind fun r38 =>
      if ((r38.1.length : Nat) : Int) > e10 then
        some false
      else
        law16_LinkWindow.L3 N x2 e10 e20 j26 j28 r38 (law16_LinkWindow.L2 N x2 e10 e20 m2) N j27 0
    else
      if j26 < e20 then
        some true
      else
        (link_Link_Tick N j25).bind fun r32 =>
        some (decide (((r32.1.length : Nat) : Int) = 0))

def law16_LinkWindow.L1 (N : Nat) (x2 : (List Int)) (e10 : Int) (e20 : Int) : Nat → S_link_Link → Int → Option (Bool)
  | 0, _, _ => none
  | m1 + 1, j21, j22 =>
    if j22 < e20 then
      (link_Link_Send N j21 ([[(IntKind.u8.wrap j22)]])).bind fun r167 =>
      if r167.1 ≠ 0 then
        some false
      else
        (law16_LinkWindow.L1 N x2 e10 e20 m1) r167.2 (IntKind.i64.wrap (j22 + 1))
    else
      law16_LinkWindow.L2 N x2 e10 e20 N j21 0 0 0

def law16_LinkWindow (N : Nat) (x0 : S_law16_Sides) (x1 : Int) (x2 : (List Int)) : Option (Bool) :=
  (law16_awake N).bind fun r4 =>
  if r4 = true then
    if ((x2.length : Nat) : Int) > 60 then
      (law16_awake N).bind fun r170 =>
      some r170
    else
      (some (IntKind.i64.wrap (1 + (Int.tmod (IntKind.i64.wrap ((Int.tmod x0.Window 9) + 9)) 9)))).bind fun e10 =>
      (link_New e10 (IntKind.i64.wrap (1 + (Int.tmod (IntKind.i64.wrap ((Int.tmod x0.Span 5) + 5)) 5))) 64).bind fun r11 =>
      optc r11.1 (
        some false) fun y15 =>
      if r11.2 ≠ 0 then
        some false
      else
        (some (Int.tmod (IntKind.i64.wrap ((Int.tmod x1 60) + 60)) 60)).bind fun e20 =>
        law16_LinkWindow.L1 N x2 e10 e20 N y15 0
  else
    (law16_awake N).bind fun r7 =>
    some r7

set_option maxHeartbeats 8000000 in
theorem law16_LinkWindow_any {N : Nat} {x0 : S_law16_Sides} {x1 : Int} {x2 : (List Int)} {ax2 : Option Addr} {nx2 : Nat} {qx2 : Nat} {P2 : HP} {Fr : List HP} {w : World} {r : Bool} {K : Value → World → Prop} (hrd2 : Reads P2 (pInt .i64) (.slice ax2 nx2 qx2) x2) (hc : Ctx w (P2 :: Fr)) (hp : law16_LinkWindow N x0 x1 x2 = some r)
    (k : ∀ w', Ctx w' (P2 :: Fr) → K (.bool r) w') : Calls Try.prog 4 #[.agg #[.int .i64 x0.Window, .int .i64 x0.Span, .int .i64 x0.Room], .int .i64 x1, .slice ax2 nx2 qx2] w (Ret K) := by
 unfold law16_LinkWindow at hp
 refine Center (args := [.agg #[.int .i64 x0.Window, .int .i64 x0.Span, .int .i64 x0.Room], .int .i64 x1, .slice ax2 nx2 qx2]) (l := [(0, .agg #[.int .i64 x0.Window, .int .i64 x0.Span, .int .i64 x0.Room]), (1, .int .i64 x1), (2, .slice ax2 nx2 qx2)]) Try.func4 Try.ntmps4 rfl rfl rfl ?_
 obtain ⟨hn2, _⟩ := Ctx.rdLen hc (k := 0) rfl rfl hrd2; subst hn2
 refine Wseq ?_
 refine Wreg ?_
 refine rsE (Ctx.boxOp (cs := [.int .i64 x0.Window, .int .i64 x0.Span, .int .i64 x0.Room]) (v := .agg #[.int .i64 x0.Window, .int .i64 x0.Span, .int .i64 x0.Room]) hc rfl rfl) rfl ?_
 clear hc; rintro _ w3 ⟨b1, rfl, hc⟩
 refine rs (v := .bool false) (av (v := .bool false) rfl) rfl ?_
 refine rn ?_
 refine qn ?_
 refine Wseq ?_
 refine Wseq ?_
 refine Wreg ?_
 replace hp := bind_some hp; obtain ⟨r4, hr4, hp⟩ := hp
 refine rc (cl Try.call7 rfl rfl) rfl ?_
 refine law16_awake_any hc hr4 ?_
 clear hc; intro w5 hc
 cases hb6 : r4
 · replace hp := gneg hp (by rw [hb6]; exact Bool.false_ne_true)
   subst hb6
   refine rs (v := .bool true) (ntf rfl) rfl ?_
   refine rs (v := .bool true) (mv (v := .bool true) rfl) rfl ?_
   refine r0 rfl ?_
   refine r0 rfl ?_
   refine r0 rfl ?_
   refine rs (v := .bool true) (pkt (v := .bool true) rfl rfl) rfl ?_
   refine rn ?_
   refine qn ?_
   refine Wct rfl ?_
   refine Wseq ?_
   refine Wreg ?_
   replace hp := bind_some hp; obtain ⟨r7, hr7, hp⟩ := hp
   refine rc (cl Try.call7 rfl rfl) rfl ?_
   refine law16_awake_any hc hr7 ?_
   clear hc; intro w8 hc
   refine rs (v := .bool r7) (av (v := .bool r7) rfl) rfl ?_
   refine rn ?_
   refine qn ?_
   refine Wret ?_
   refine qr ?_
   replace hc := hc.rem 0 rfl rfl
   injection hp with hp; subst hp
   refine f1 (v := .bool r7) Try.results4 Try.ntmps4 rfl ?_
   exact ⟨_, rfl, k _ hc⟩
 · replace hp := gpos hp hb6
   subst hb6
   refine rs (v := .bool false) (ntt rfl) rfl ?_
   refine rs (v := .bool false) (mv (v := .bool false) rfl) rfl ?_
   refine rs (v := .slice ax2 x2.length qx2) (mv (v := .slice ax2 x2.length qx2) rfl) rfl ?_
   refine rs (v := .int .i64 ((x2.length : Nat) : Int)) (ln rfl Try.underlying48) rfl ?_
   refine rs (v := .bool (decide (((x2.length : Nat) : Int) > 60))) (gt' rfl rfl) rfl ?_
   refine rs (v := .bool (decide (((x2.length : Nat) : Int) > 60))) (pkf (v := .bool (decide (((x2.length : Nat) : Int) > 60))) rfl rfl) rfl ?_
   refine rn ?_
   refine qn ?_
   cases hb9 : (decide (((x2.length : Nat) : Int) > 60))
   · replace hp := gneg hp (of_decide_eq_false hb9)
     refine Wcf rfl ?_
     refine Wskip ?_
     refine qn ?_
     refine Wseq ?_
     refine Wreg ?_
     refine rs (v := .pointer (some ⟨b1, 0, none⟩)) (fax 0 rfl Try.underlying23 rfl Try.sizeOf3 rfl rfl rfl) rfl ?_
     refine rs (v := .int .i64 x0.Window) (ld rfl Try.isAgg3 (Ctx.cell hc (k := 0) rfl rfl rfl)) rfl ?_
     refine rs (v := .int .i64 (Int.tmod x0.Window 9)) (rm rfl rfl (by decide)) rfl ?_
     refine rs (v := .int .i64 (IntKind.i64.wrap ((Int.tmod x0.Window 9) + 9))) (adw rfl rfl) rfl ?_
     refine rs (v := .int .i64 (Int.tmod (IntKind.i64.wrap ((Int.tmod x0.Window 9) + 9)) 9)) (rm rfl rfl (by decide)) rfl ?_
     refine rs (v := .int .i64 (IntKind.i64.wrap (1 + (Int.tmod (IntKind.i64.wrap ((Int.tmod x0.Window 9) + 9)) 9)))) (adw rfl rfl) rfl ?_
     replace hp := bind_some hp; obtain ⟨e10, he10, hp⟩ := hp
     injection he10 with he10
     refine rs (v := .int .i64 e10) (av (v := .int .i64 e10) (by rw [← he10]; rfl)) rfl ?_
     refine rn ?_
     refine qn ?_
     refine Wseq ?_
     refine Wreg ?_
     refine rs (v := .int .i64 e10) (mv (v := .int .i64 e10) rfl) rfl ?_
     refine rs (v := .pointer (some ⟨b1, 1, none⟩)) (fax 1 rfl Try.underlying23 rfl Try.sizeOf3 rfl rfl rfl) rfl ?_
     refine rs (v := .int .i64 x0.Span) (ld rfl Try.isAgg3 (Ctx.cell hc (k := 0) rfl rfl rfl)) rfl ?_
     refine rs (v := .int .i64 (Int.tmod x0.Span 5)) (rm rfl rfl (by decide)) rfl ?_
     refine rs (v := .int .i64 (IntKind.i64.wrap ((Int.tmod x0.Span 5) + 5))) (adw rfl rfl) rfl ?_
     refine rs (v := .int .i64 (Int.tmod (IntKind.i64.wrap ((Int.tmod x0.Span 5) + 5)) 5)) (rm rfl rfl (by decide)) rfl ?_
     refine rs (v := .int .i64 (IntKind.i64.wrap (1 + (Int.tmod (IntKind.i64.wrap ((Int.tmod x0.Span 5) + 5)) 5)))) (adw rfl rfl) rfl ?_
     replace hp := bind_some hp; obtain ⟨r11, hr11, hp⟩ := hp
     refine rc (cl Try.call8 rfl rfl) rfl ?_
     refine link_New_any hc hr11 ?_
     clear hc; intro v12 w13 hc
     refine rs (v := .tuple #[v12, .int .i64 r11.2]) (mv (v := .tuple #[v12, .int .i64 r11.2]) rfl) rfl ?_
     refine rs (v := v12) (ext (v := v12) rfl rfl) rfl ?_
     refine rs (v := .int .i64 r11.2) (ext (v := .int .i64 r11.2) rfl rfl) rfl ?_
     refine rs (v := v12) (av (v := v12) rfl) rfl ?_
     refine rs (v := .int .i64 r11.2) (av (v := .int .i64 r11.2) rfl) rfl ?_
     refine rn ?_
     refine qn ?_
     refine Wseq ?_
     refine Wseq ?_
     refine Wreg ?_
     refine rs (v := v12) (mv (v := v12) rfl) rfl ?_
     cases hb14 : r11.1
     · replace hp := optN hp hb14
       rw [hb14] at hc
       replace hc := Ctx.ptoN hc; obtain ⟨u16, hc⟩ := hc; subst u16
       refine rs (v := .bool true) (ept Try.underlying27 rfl rfl) rfl ?_
       refine rs (v := .bool true) (mv (v := .bool true) rfl) rfl ?_
       refine r0 rfl ?_
       refine r0 rfl ?_
       refine rs (v := .bool true) (pkt (v := .bool true) rfl rfl) rfl ?_
       refine rn ?_
       refine qn ?_
       refine Wct rfl ?_
       refine Wseq ?_
       refine Wreg ?_
       refine rs (v := .bool false) (av (v := .bool false) rfl) rfl ?_
       refine rn ?_
       refine qn ?_
       refine Wret ?_
       refine qr ?_
       replace hc := hc.rem 0 rfl rfl
       injection hp with hp; subst hp
       refine f1 (v := .bool false) Try.results4 Try.ntmps4 rfl ?_
       exact ⟨_, rfl, k _ hc⟩
     · rename_i y15
       replace hp := optS hp hb14
       rw [hb14] at hc
       replace hc := Ctx.ptoS hc; obtain ⟨b17, u18, hc⟩ := hc; subst u18
       refine rs (v := .bool false) (epf Try.underlying27 rfl rfl) rfl ?_
       refine rs (v := .bool false) (mv (v := .bool false) rfl) rfl ?_
       refine rs (v := .int .i64 r11.2) (mv (v := .int .i64 r11.2) rfl) rfl ?_
       refine rs (v := .bool (decide (r11.2 ≠ 0))) (ned rfl rfl) rfl ?_
       refine rs (v := .bool (decide (r11.2 ≠ 0))) (pkf (v := .bool (decide (r11.2 ≠ 0))) rfl rfl) rfl ?_
       refine rn ?_
       refine qn ?_
       cases hb19 : (decide (r11.2 ≠ 0))
       · replace hp := gneg hp (of_decide_eq_false hb19)
         refine Wcf rfl ?_
         refine Wskip ?_
         refine qn ?_
         refine Wseq ?_
         refine Wreg ?_
         refine rs (v := .int .i64 x1) (mv (v := .int .i64 x1) rfl) rfl ?_
         refine rs (v := .int .i64 (Int.tmod x1 60)) (rm rfl rfl (by decide)) rfl ?_
         refine rs (v := .int .i64 (IntKind.i64.wrap ((Int.tmod x1 60) + 60))) (adw rfl rfl) rfl ?_
         refine rs (v := .int .i64 (Int.tmod (IntKind.i64.wrap ((Int.tmod x1 60) + 60)) 60)) (rm rfl rfl (by decide)) rfl ?_
         replace hp := bind_some hp; obtain ⟨e20, he20, hp⟩ := hp
         injection he20 with he20
         refine rs (v := .int .i64 e20) (av (v := .int .i64 e20) (by rw [← he20]; rfl)) rfl ?_
         refine rn ?_
         refine qn ?_
         refine Wseq ?_
         refine Wseq ?_
         refine Wreg ?_
         refine rs (v := .int .i64 0) (av (v := .int .i64 0) rfl) rfl ?_
         refine rn ?_
         refine qn ?_
         refine Wblk ?_
         replace hc := hc.rem 1 rfl rfl
         refine Wloop [6, 11, 56, 57, 58, 59, 60, 61, 62, 63, 64, 65, 66, 67] [11] (fun m vs w' => ∃ j21 : S_link_Link, ∃ j22 : Int, vs = [.int .i64 j22] ∧ law16_LinkWindow.L1 N x2 e10 e20 m j21 j22 = some r ∧ Ctx w' (S_link_Link.hp b17 j21 :: P2 :: Fr)) N ?_ ?_
         · exact ⟨y15, 0, rfl, hp, hc⟩
         · clear hp hc; intro m vs u w23 hJ
           obtain ⟨j21, j22, rfl, hp, hc⟩ := hJ
           rcases m with _ | m1
           · cases (show none = some r from hp)
           rw [law16_LinkWindow.L1] at hp
           refine Wseq ?_
           refine Wseq ?_
           refine Wreg ?_
           refine rs (v := .int .i64 j22) (mv (v := .int .i64 j22) rfl) rfl ?_
           refine rs (v := .int .i64 e20) (mv (v := .int .i64 e20) rfl) rfl ?_
           refine rs (v := .bool (decide (j22 < e20))) (lt' rfl rfl) rfl ?_
           refine rn ?_
           refine qn ?_
           cases hb24 : (decide (j22 < e20))
           · replace hp := gneg hp (of_decide_eq_false hb24)
             refine Wcf rfl ?_
             refine Wexit ?_
             refine qx ?_
             refine qx ?_
             refine be ?_
             refine qn ?_
             refine Wseq ?_
             refine Wreg ?_
             refine rs (v := .int .i64 0) (av (v := .int .i64 0) rfl) rfl ?_
             refine rs (v := .int .i64 0) (av (v := .int .i64 0) rfl) rfl ?_
             refine rn ?_
             refine qn ?_
             refine Wseq ?_
             refine Wseq ?_
             refine Wreg ?_
             refine rs (v := .int .i64 0) (av (v := .int .i64 0) rfl) rfl ?_
             refine rn ?_
             refine qn ?_
             refine Wblk ?_
             refine Wloop (6 :: 12 :: 13 :: 14 :: 15 :: 16 :: 17 :: 18 :: 19 :: 20 :: 68 :: 69 :: 70 :: 71 :: 72 :: 73 :: 74 :: 75 :: 76 :: 77 :: 78 :: 79 :: 80 :: 81 :: 82 :: 83 :: 84 :: 85 :: 86 :: 87 :: 88 :: 89 :: 90 :: 91 :: 92 :: 93 :: 94 :: 95 :: 96 :: 97 :: 98 :: 99 :: 100 :: 101 :: 102 :: 103 :: 104 :: 105 :: 106 :: 107 :: 108 :: 109 :: 110 :: 111 :: 112 :: 113 :: 114 :: 115 :: 116 :: 117 :: 118 :: 119 :: 120 :: 121 :: 122 :: 123 :: 124 :: 125 :: 126 :: 127 :: 128 :: 129 :: 130 :: 131 :: 132 :: 133 :: 134 :: 135 :: 136 :: 137 :: 138 :: 139 :: 140 :: 141 :: 142 :: 143 :: 144 :: 145 :: 146 :: 147 :: 148 :: 149 :: 150 :: 151 :: 152 :: 153 :: 154 :: 155 :: 156 :: 157 :: 158 :: 159 :: 160 :: 161 :: 162 :: 163 :: 164 :: 165 :: 166 :: 167 :: 168 :: 169 :: 170 :: 171 :: 172 :: 173 :: []) [12, 13, 14] (fun m vs w' => ∃ j25 : S_link_Link, ∃ j26 : Int, ∃ j27 : Int, ∃ j28 : Int, vs = [.int .i64 j26, .int .i64 j27, .int .i64 j28] ∧ law16_LinkWindow.L2 N x2 e10 e20 m j25 j26 j27 j28 = some r ∧ Ctx w' (S_link_Link.hp b17 j25 :: P2 :: Fr)) N ?_ ?_
             · exact ⟨j21, 0, 0, 0, rfl, hp, hc⟩
             · clear hp hc; intro m vs u w29 hJ
               obtain ⟨j25, j26, j27, j28, rfl, hp, hc⟩ := hJ
               rcases m with _ | m2
               · cases (show none = some r from hp)
               rw [law16_LinkWindow.L2] at hp
               refine Wseq ?_
               refine Wseq ?_
               refine Wreg ?_
               refine rs (v := .int .i64 j28) (mv (v := .int .i64 j28) rfl) rfl ?_
               refine rs (v := .slice ax2 x2.length qx2) (mv (v := .slice ax2 x2.length qx2) rfl) rfl ?_
               refine rs (v := .int .i64 ((x2.length : Nat) : Int)) (ln rfl Try.underlying48) rfl ?_
               refine rs (v := .bool (decide (j28 < ((x2.length : Nat) : Int)))) (lt' rfl rfl) rfl ?_
               refine rn ?_
               refine qn ?_
               cases hb30 : (decide (j28 < ((x2.length : Nat) : Int)))
               · replace hp := gneg hp (of_decide_eq_false hb30)
                 refine Wcf rfl ?_
                 refine Wexit ?_
                 refine qx ?_
                 refine qx ?_
                 refine be ?_
                 refine qn ?_
                 refine Wseq ?_
                 refine Wseq ?_
                 refine Wreg ?_
                 refine rs (v := .int .i64 j26) (mv (v := .int .i64 j26) rfl) rfl ?_
                 refine rs (v := .int .i64 e20) (mv (v := .int .i64 e20) rfl) rfl ?_
                 refine rs (v := .bool (decide (j26 < e20))) (lt' rfl rfl) rfl ?_
                 refine rn ?_
                 refine qn ?_
                 cases hb31 : (decide (j26 < e20))
                 · replace hp := gneg hp (of_decide_eq_false hb31)
                   refine Wcf rfl ?_
                   refine Wskip ?_
                   refine qn ?_
                   refine Wseq ?_
                   refine Wreg ?_
                   refine rs (v := .pointer (some ⟨b17, 0, none⟩)) (mv (v := .pointer (some ⟨b17, 0, none⟩)) rfl) rfl ?_
                   replace hp := bind_some hp; obtain ⟨r32, hr32, hp⟩ := hp
                   refine rc (cl Try.call14 rfl rfl) rfl ?_
                   refine link_Link_Tick_any hc hr32 ?_
                   clear hc; intro a33 n34 q35 w36 hc
                   obtain ⟨u37, _⟩ := Ctx.rdLen hc (k := 0) rfl rfl reads_own; subst u37
                   refine rs (v := .int .i64 ((r32.1.length : Nat) : Int)) (ln rfl Try.underlying29) rfl ?_
                   refine rs (v := .bool (decide (((r32.1.length : Nat) : Int) = 0))) (eqd rfl rfl) rfl ?_
                   refine rs (v := .bool (decide (((r32.1.length : Nat) : Int) = 0))) (av (v := .bool (decide (((r32.1.length : Nat) : Int) = 0))) rfl) rfl ?_
                   refine rn ?_
                   refine qn ?_
                   refine Wret ?_
                   replace hc := hc.rem 1 rfl rfl
                   replace hc := hc.rem 0 rfl rfl
                   injection hp with hp; subst hp
                   refine f1 (v := .bool (decide (((r32.1.length : Nat) : Int) = 0))) Try.results4 Try.ntmps4 rfl ?_
                   exact ⟨_, rfl, k _ hc⟩
                 · replace hp := gpos hp (of_decide_eq_true hb31)
                   refine Wct rfl ?_
                   refine Wseq ?_
                   refine Wreg ?_
                   refine rs (v := .bool true) (av (v := .bool true) rfl) rfl ?_
                   refine rn ?_
                   refine qn ?_
                   refine Wret ?_
                   refine qr ?_
                   replace hc := hc.rem 0 rfl rfl
                   injection hp with hp; subst hp
                   refine f1 (v := .bool true) Try.results4 Try.ntmps4 rfl ?_
                   exact ⟨_, rfl, k _ hc⟩
               · replace hp := gpos hp (of_decide_eq_true hb30)
                 refine Wct rfl ?_
                 refine Wskip ?_
                 refine qn ?_
                 refine Wseq ?_
                 refine Wblk ?_
                 refine Wseq ?_
                 refine Wreg ?_
                 refine rs (v := .pointer (some ⟨b17, 0, none⟩)) (mv (v := .pointer (some ⟨b17, 0, none⟩)) rfl) rfl ?_
                 replace hp := bind_some hp; obtain ⟨r38, hr38, hp⟩ := hp
                 refine rc (cl Try.call14 rfl rfl) rfl ?_
                 refine link_Link_Tick_any hc hr38 ?_
                 clear hc; intro a39 n40 q41 w42 hc
                 obtain ⟨u43, _⟩ := Ctx.rdLen hc (k := 0) rfl rfl reads_own; subst u43
                 refine rs (v := .slice a39 r38.1.length q41) (av (v := .slice a39 r38.1.length q41) rfl) rfl ?_
                 refine rn ?_
                 refine qn ?_
                 refine Wseq ?_
                 refine Wseq ?_
                 refine Wreg ?_
                 refine rs (v := .slice a39 r38.1.length q41) (mv (v := .slice a39 r38.1.length q41) rfl) rfl ?_
                 refine rs (v := .int .i64 ((r38.1.length : Nat) : Int)) (ln rfl Try.underlying29) rfl ?_
                 refine rs (v := .int .i64 e10) (mv (v := .int .i64 e10) rfl) rfl ?_
                 refine rs (v := .bool (decide (((r38.1.length : Nat) : Int) > e10))) (gt' rfl rfl) rfl ?_
                 refine rn ?_
                 refine qn ?_
                 cases hb44 : (decide (((r38.1.length : Nat) : Int) > e10))
                 · replace hp := gneg hp (of_decide_eq_false hb44)
                   refine Wcf rfl ?_
                   refine Wskip ?_
                   refine qn ?_
                   refine Wseq ?_
                   refine Wseq ?_
                   refine Wreg ?_
                   refine rs (v := .int .i64 0) (av (v := .int .i64 0) rfl) rfl ?_
                   refine rn ?_
                   refine qn ?_
                   refine Wblk ?_
                   refine Wloop (6 :: 13 :: 16 :: 17 :: 80 :: 81 :: 82 :: 83 :: 84 :: 85 :: 86 :: 87 :: 88 :: 89 :: 90 :: 91 :: 92 :: 93 :: 94 :: 95 :: 96 :: 97 :: 98 :: 99 :: 100 :: 101 :: 102 :: 103 :: 104 :: 105 :: 106 :: 107 :: 108 :: 109 :: 110 :: 111 :: 112 :: 113 :: 114 :: 115 :: 116 :: 117 :: 118 :: 119 :: 120 :: 121 :: 122 :: 123 :: 124 :: 125 :: 126 :: 127 :: 128 :: 129 :: 130 :: 131 :: 132 :: 133 :: 134 :: 135 :: 136 :: 137 :: 138 :: 139 :: 140 :: 141 :: 142 :: 143 :: 144 :: []) [13, 16] (fun m vs w' => ∃ j45 : Int, ∃ j46 : Int, vs = [.int .i64 j45, .int .i64 j46] ∧ law16_LinkWindow.L3 N x2 e10 e20 j26 j28 r38 (law16_LinkWindow.L2 N x2 e10 e20 m2) m j45 j46 = some r ∧ Ctx w' (Own S_api_Seg.pr 46 (.slice a39 r38.1.length q41) r38.1 :: S_link_Link.hp b17 r38.2 :: P2 :: Fr)) N ?_ ?_
                   · exact ⟨j27, 0, rfl, hp, hc⟩
                   · clear hp hc; intro m vs u w47 hJ
                     obtain ⟨j45, j46, rfl, hp, hc⟩ := hJ
                     rcases m with _ | m3
                     · cases (show none = some r from hp)
                     rw [law16_LinkWindow.L3] at hp
                     refine Wseq ?_
                     refine Wseq ?_
                     refine Wreg ?_
                     refine rs (v := .int .i64 j46) (mv (v := .int .i64 j46) rfl) rfl ?_
                     refine rs (v := .slice a39 r38.1.length q41) (mv (v := .slice a39 r38.1.length q41) rfl) rfl ?_
                     refine rs (v := .int .i64 ((r38.1.length : Nat) : Int)) (ln rfl Try.underlying29) rfl ?_
                     refine rs (v := .bool (decide (j46 < ((r38.1.length : Nat) : Int)))) (lt' rfl rfl) rfl ?_
                     refine rn ?_
                     refine qn ?_
                     cases hb48 : (decide (j46 < ((r38.1.length : Nat) : Int)))
                     · replace hp := gneg hp (of_decide_eq_false hb48)
                       refine Wcf rfl ?_
                       refine Wexit ?_
                       refine qx ?_
                       refine qx ?_
                       refine be ?_
                       refine qn ?_
                       refine Wseq ?_
                       refine Wreg ?_
                       refine rs (v := .int .i64 j45) (mv (v := .int .i64 j45) rfl) rfl ?_
                       refine rs (v := .int .i64 j26) (mv (v := .int .i64 j26) rfl) rfl ?_
                       refine rs (v := .slice ax2 x2.length qx2) (mv (v := .slice ax2 x2.length qx2) rfl) rfl ?_
                       refine rs (v := .int .i64 j28) (mv (v := .int .i64 j28) rfl) rfl ?_
                       replace hp := bind_some hp; obtain ⟨y49, hy49, hp⟩ := hp
                       obtain ⟨b52, o53, u54, hi50, hi51⟩ := Ctx.rdAt hc (k := 2) rfl rfl hrd2 hy49
                       subst u54
                       refine rs (v := .pointer (some ⟨b52, o53 + (j28).toNat * 1, none⟩)) (ixx rfl rfl Try.underlying48 Try.sizeOf3 hi50 hi51 rfl) rfl ?_
                       replace hc := Ctx.rdCell hc (k := 2) rfl rfl hrd2 hy49; obtain ⟨cs55, hc, hcell56⟩ := hc
                       replace hc := Ctx.holdC hc; obtain ⟨u57, hc⟩ := hc; subst u57
                       refine rs (v := .int .i64 y49) (ld rfl Try.isAgg3 (hcell56 0 _ rfl)) rfl ?_
                       refine rs (v := .int .i64 (Int.tmod y49 4)) (rm rfl rfl (by decide)) rfl ?_
                       refine rs (v := .int .i64 (IntKind.i64.wrap ((Int.tmod y49 4) + 4))) (adw rfl rfl) rfl ?_
                       refine rs (v := .int .i64 (Int.tmod (IntKind.i64.wrap ((Int.tmod y49 4) + 4)) 4)) (rm rfl rfl (by decide)) rfl ?_
                       refine rs (v := .int .i64 (IntKind.i64.wrap (j26 + (Int.tmod (IntKind.i64.wrap ((Int.tmod y49 4) + 4)) 4)))) (adw rfl rfl) rfl ?_
                       refine rs (v := .int .i64 (min j45 (IntKind.i64.wrap (j26 + (Int.tmod (IntKind.i64.wrap ((Int.tmod y49 4) + 4)) 4))))) (bmn rfl rfl Try.underlying3) rfl ?_
                       replace hp := bind_some hp; obtain ⟨e58, he58, hp⟩ := hp
                       injection he58 with he58
                       refine rs (v := .int .i64 e58) (av (v := .int .i64 e58) (by rw [← he58]; rfl)) rfl ?_
                       refine rn ?_
                       refine qn ?_
                       refine Wseq ?_
                       refine Wseq ?_
                       refine Wreg ?_
                       refine rs (v := .pointer (some ⟨b17, 0, none⟩)) (mv (v := .pointer (some ⟨b17, 0, none⟩)) rfl) rfl ?_
                       refine rs (v := .int .i64 e58) (mv (v := .int .i64 e58) rfl) rfl ?_
                       refine rs (v := .agg #[.int .i64 0, .int .i64 0, .int .i64 e58, .slice none 0 0]) (bd_46_2 rfl) rfl ?_
                       replace hc := hc.nilRo (pInt .u8)
                       replace hc := hc.dup (k := 0) rfl rfl
                       replace hp := bind_some hp; obtain ⟨r59, hr59, hp⟩ := hp
                       replace hc := hc.pull 3 rfl rfl
                       refine rc (cl Try.call15 rfl rfl) rfl ?_
                       refine link_Link_Hear_any (x1 := (⟨0, 0, e58, []⟩ : S_api_Seg)) hc hr59 ?_
                       clear hc; intro a60 n61 q62 w63 hc
                       obtain ⟨u64, _⟩ := Ctx.rdLen hc (k := 0) rfl rfl reads_own; subst u64
                       refine rs (v := .tuple #[.slice a60 r59.1.length q62, .int .i64 r59.2.1]) (mv (v := .tuple #[.slice a60 r59.1.length q62, .int .i64 r59.2.1]) rfl) rfl ?_
                       refine rs (v := .slice a60 r59.1.length q62) (ext (v := .slice a60 r59.1.length q62) rfl rfl) rfl ?_
                       refine rs (v := .int .i64 r59.2.1) (ext (v := .int .i64 r59.2.1) rfl rfl) rfl ?_
                       refine rs (v := .slice a60 r59.1.length q62) (av (v := .slice a60 r59.1.length q62) rfl) rfl ?_
                       refine rs (v := .int .i64 r59.2.1) (av (v := .int .i64 r59.2.1) rfl) rfl ?_
                       refine rn ?_
                       refine qn ?_
                       refine Wseq ?_
                       refine Wreg ?_
                       refine rs (v := .int .i64 r59.2.1) (mv (v := .int .i64 r59.2.1) rfl) rfl ?_
                       refine rs (v := .bool (decide (r59.2.1 ≠ 0))) (ned rfl rfl) rfl ?_
                       refine rn ?_
                       refine qn ?_
                       cases hb65 : (decide (r59.2.1 ≠ 0))
                       · replace hp := gneg hp (of_decide_eq_false hb65)
                         refine Wcf rfl ?_
                         refine Wskip ?_
                         refine qn ?_
                         refine Wseq ?_
                         refine Wreg ?_
                         refine rs (v := .int .i64 j26) (mv (v := .int .i64 j26) rfl) rfl ?_
                         refine rs (v := .int .i64 e58) (mv (v := .int .i64 e58) rfl) rfl ?_
                         refine rs (v := .int .i64 (max j26 e58)) (bmx rfl rfl Try.underlying3) rfl ?_
                         refine rs (v := .int .i64 (max j26 e58)) (av (v := .int .i64 (max j26 e58)) rfl) rfl ?_
                         refine rn ?_
                         refine qn ?_
                         refine Wseq ?_
                         refine Wreg ?_
                         refine rs (v := .pointer (some ⟨b17, 0, none⟩)) (mv (v := .pointer (some ⟨b17, 0, none⟩)) rfl) rfl ?_
                         replace hp := bind_some hp; obtain ⟨r66, hr66, hp⟩ := hp
                         replace hc := hc.pull 1 rfl rfl
                         refine rc (cl Try.call10 rfl rfl) rfl ?_
                         refine link_Link_Left_any hc hr66 ?_
                         clear hc; intro w67 hc
                         refine rs (v := .int .i64 e20) (mv (v := .int .i64 e20) rfl) rfl ?_
                         refine rs (v := .int .i64 (max j26 e58)) (mv (v := .int .i64 (max j26 e58)) rfl) rfl ?_
                         refine rs (v := .int .i64 (IntKind.i64.wrap (e20 - (max j26 e58)))) (sbw rfl rfl) rfl ?_
                         refine rs (v := .bool (decide (r66 ≠ (IntKind.i64.wrap (e20 - (max j26 e58)))))) (ned rfl rfl) rfl ?_
                         refine rn ?_
                         refine qn ?_
                         cases hb68 : (decide (r66 ≠ (IntKind.i64.wrap (e20 - (max j26 e58)))))
                         · replace hp := gneg hp (of_decide_eq_false hb68)
                           refine Wcf rfl ?_
                           refine Wskip ?_
                           refine bn ?_
                           refine qn ?_
                           refine Wreg ?_
                           refine rs (v := .int .i64 j28) (mv (v := .int .i64 j28) rfl) rfl ?_
                           refine rs (v := .int .i64 (IntKind.i64.wrap (j28 + 1))) (adw rfl rfl) rfl ?_
                           refine rs (v := .int .i64 (IntKind.i64.wrap (j28 + 1))) (av (v := .int .i64 (IntKind.i64.wrap (j28 + 1))) rfl) rfl ?_
                           refine rn ?_
                           refine qn ?_
                           replace hc := hc.rem 3 rfl rfl
                           replace hc := hc.rem 2 rfl rfl
                           replace hc := hc.rem 1 rfl rfl
                           exact ⟨m2, Nat.lt_succ_self _, ⟨r59.2.2, (max j26 e58), j45, (IntKind.i64.wrap (j28 + 1)), rfl, hp, hc⟩, (kl rfl (km rfl (kl rfl k0)))⟩
                         · replace hp := gpos hp (of_decide_eq_true hb68)
                           refine Wct rfl ?_
                           refine Wseq ?_
                           refine Wreg ?_
                           refine rs (v := .bool false) (av (v := .bool false) rfl) rfl ?_
                           refine rn ?_
                           refine qn ?_
                           refine Wret ?_
                           refine br ?_
                           refine qr ?_
                           refine qr ?_
                           refine br ?_
                           refine qr ?_
                           replace hc := hc.rem 3 rfl rfl
                           replace hc := hc.rem 2 rfl rfl
                           replace hc := hc.rem 1 rfl rfl
                           replace hc := hc.rem 0 rfl rfl
                           injection hp with hp; subst hp
                           refine f1 (v := .bool false) Try.results4 Try.ntmps4 rfl ?_
                           exact ⟨_, rfl, k _ hc⟩
                       · replace hp := gpos hp (of_decide_eq_true hb65)
                         refine Wct rfl ?_
                         refine Wseq ?_
                         refine Wreg ?_
                         refine rs (v := .bool false) (av (v := .bool false) rfl) rfl ?_
                         refine rn ?_
                         refine qn ?_
                         refine Wret ?_
                         refine qr ?_
                         refine br ?_
                         refine qr ?_
                         refine qr ?_
                         refine br ?_
                         refine qr ?_
                         replace hc := hc.rem 3 rfl rfl
                         replace hc := hc.rem 2 rfl rfl
                         replace hc := hc.rem 1 rfl rfl
                         replace hc := hc.rem 0 rfl rfl
                         injection hp with hp; subst hp
                         refine f1 (v := .bool false) Try.results4 Try.ntmps4 rfl ?_
                         exact ⟨_, rfl, k _ hc⟩
                     · replace hp := gpos hp (of_decide_eq_true hb48)
                       refine Wct rfl ?_
                       refine Wskip ?_
                       refine qn ?_
                       refine Wseq ?_
                       refine Wblk ?_
                       refine Wseq ?_
                       refine Wreg ?_
                       refine rs (v := .slice a39 r38.1.length q41) (mv (v := .slice a39 r38.1.length q41) rfl) rfl ?_
                       refine rs (v := .int .i64 j46) (mv (v := .int .i64 j46) rfl) rfl ?_
                       replace hp := bind_some hp; obtain ⟨y69, hy69, hp⟩ := hp
                       obtain ⟨b72, o73, u74, hi70, hi71⟩ := Ctx.rdAt hc (k := 0) rfl rfl reads_own hy69
                       subst u74
                       refine rs (v := .pointer (some ⟨b72, o73 + (j46).toNat * 4, none⟩)) (ixx rfl rfl Try.underlying29 Try.sizeOf46 hi70 hi71 rfl) rfl ?_
                       refine rs (v := .pointer (some ⟨b72, o73 + (j46).toNat * 4 + 1, none⟩)) (fax 1 rfl Try.underlying46 rfl Try.sizeOf3 rfl rfl rfl) rfl ?_
                       replace hc := Ctx.rdCell hc (k := 0) rfl rfl reads_own hy69; obtain ⟨cs75, hc, hcell76⟩ := hc
                       replace hc := S_api_Seg.op hc; obtain ⟨a78, q79, u77, hc⟩ := hc; subst u77
                       refine rs (v := .int .i64 y69.Seq) (ld rfl Try.isAgg3 (hcell76 1 _ rfl)) rfl ?_
                       refine rs (v := .int .i64 y69.Seq) (av (v := .int .i64 y69.Seq) rfl) rfl ?_
                       refine rn ?_
                       refine qn ?_
                       refine Wseq ?_
                       refine Wseqm (91 :: 92 :: 93 :: 94 :: 95 :: 96 :: 97 :: 98 :: 99 :: 100 :: 101 :: 102 :: 103 :: 104 :: 105 :: 106 :: 107 :: 108 :: 109 :: 110 :: 111 :: 112 :: 113 :: 114 :: 115 :: 116 :: 117 :: 118 :: 119 :: 120 :: 121 :: 122 :: 123 :: 124 :: 125 :: 126 :: 127 :: 128 :: 129 :: 130 :: 131 :: 132 :: 133 :: 134 :: 135 :: 136 :: 137 :: 138 :: 139 :: 140 :: 141 :: []) [141] (fun vs w' => ∃ j80 : Bool, vs = [.bool j80] ∧ law16_LinkWindow.J4 j45 j46 y69 (law16_LinkWindow.L3 N x2 e10 e20 j26 j28 r38 (law16_LinkWindow.L2 N x2 e10 e20 m2) m3) j80 = some r ∧ Ctx w' (Own S_api_Seg.pr 46 (.slice (some ⟨b72, o73, none⟩) r38.1.length q41) r38.1 :: S_link_Link.hp b17 r38.2 :: P2 :: Fr)) ?_ ?_
                       · refine Wreg ?_
                         refine rs (v := .int .i64 y69.Seq) (mv (v := .int .i64 y69.Seq) rfl) rfl ?_
                         refine rs (v := .int .i64 j26) (mv (v := .int .i64 j26) rfl) rfl ?_
                         refine rs (v := .bool (decide (y69.Seq ≤ j26))) (le' rfl rfl) rfl ?_
                         refine rs (v := .bool (decide (y69.Seq ≤ j26))) (mv (v := .bool (decide (y69.Seq ≤ j26))) rfl) rfl ?_
                         cases hb81 : (decide (y69.Seq ≤ j26))
                         · replace hp := gneg hp (of_decide_eq_false hb81)
                           refine rs (v := .int .i64 y69.Seq) (mv (v := .int .i64 y69.Seq) rfl) rfl ?_
                           refine rs (v := .int .i64 j26) (mv (v := .int .i64 j26) rfl) rfl ?_
                           refine rs (v := .int .i64 e10) (mv (v := .int .i64 e10) rfl) rfl ?_
                           refine rs (v := .int .i64 (IntKind.i64.wrap (j26 + e10))) (adw rfl rfl) rfl ?_
                           refine rs (v := .bool (decide (y69.Seq > (IntKind.i64.wrap (j26 + e10))))) (gt' rfl rfl) rfl ?_
                           refine rs (v := .bool (decide (y69.Seq > (IntKind.i64.wrap (j26 + e10))))) (pkf (v := .bool (decide (y69.Seq > (IntKind.i64.wrap (j26 + e10))))) rfl rfl) rfl ?_
                           refine rs (v := .bool (decide (y69.Seq > (IntKind.i64.wrap (j26 + e10))))) (mv (v := .bool (decide (y69.Seq > (IntKind.i64.wrap (j26 + e10))))) rfl) rfl ?_
                           cases hb82 : (decide (y69.Seq > (IntKind.i64.wrap (j26 + e10))))
                           · replace hp := gneg hp (of_decide_eq_false hb82)
                             refine rs (v := .int .i64 y69.Seq) (mv (v := .int .i64 y69.Seq) rfl) rfl ?_
                             refine rs (v := .int .i64 e20) (mv (v := .int .i64 e20) rfl) rfl ?_
                             refine rs (v := .bool (decide (y69.Seq > e20))) (gt' rfl rfl) rfl ?_
                             refine rs (v := .bool (decide (y69.Seq > e20))) (pkf (v := .bool (decide (y69.Seq > e20))) rfl rfl) rfl ?_
                             refine rs (v := .bool (decide (y69.Seq > e20))) (mv (v := .bool (decide (y69.Seq > e20))) rfl) rfl ?_
                             cases hb83 : (decide (y69.Seq > e20))
                             · replace hp := gneg hp (of_decide_eq_false hb83)
                               refine rs (v := .int .i64 j46) (mv (v := .int .i64 j46) rfl) rfl ?_
                               refine rs (v := .bool (decide (j46 > 0))) (gt' rfl rfl) rfl ?_
                               refine rs (v := .bool (decide (j46 > 0))) (mv (v := .bool (decide (j46 > 0))) rfl) rfl ?_
                               cases hb84 : (decide (j46 > 0))
                               · replace hp := gneg hp (of_decide_eq_false hb84)
                                 refine r0 rfl ?_
                                 refine r0 rfl ?_
                                 refine r0 rfl ?_
                                 refine r0 rfl ?_
                                 refine r0 rfl ?_
                                 refine r0 rfl ?_
                                 refine r0 rfl ?_
                                 refine r0 rfl ?_
                                 refine rs (v := .bool false) (pkf (v := .bool false) rfl rfl) rfl ?_
                                 refine rs (v := .bool false) (pkf (v := .bool false) rfl rfl) rfl ?_
                                 refine rs (v := .bool false) (mv (v := .bool false) rfl) rfl ?_
                                 refine rs (v := .slice (some ⟨b72, o73, none⟩) r38.1.length q41) (mv (v := .slice (some ⟨b72, o73, none⟩) r38.1.length q41) rfl) rfl ?_
                                 refine rs (v := .int .i64 j46) (mv (v := .int .i64 j46) rfl) rfl ?_
                                 replace hp := bind_some hp; obtain ⟨y85, hy85, hp⟩ := hp
                                 obtain ⟨b88, o89, u90, hi86, hi87⟩ := Ctx.rdAt hc (k := 1) rfl rfl reads_own hy85
                                 clear u90
                                 refine rs (v := .pointer (some ⟨b72, o73 + (j46).toNat * 4, none⟩)) (ixx rfl rfl Try.underlying29 Try.sizeOf46 hi86 hi87 rfl) rfl ?_
                                 refine rs (v := .pointer (some ⟨b72, o73 + (j46).toNat * 4 + 3, none⟩)) (fax 3 rfl Try.underlying46 rfl Try.sizeOf38 rfl rfl rfl) rfl ?_
                                 replace hc := Ctx.rdCell hc (k := 1) rfl rfl reads_own hy85; obtain ⟨cs91, hc, hcell92⟩ := hc
                                 replace hc := S_api_Seg.op hc; obtain ⟨a94, q95, u93, hc⟩ := hc; subst u93
                                 refine rs (v := .slice a94 y85.Body.length q95) (ld rfl Try.isAgg38 (hcell92 3 _ rfl)) rfl ?_
                                 refine rs (v := .int .i64 ((y85.Body.length : Nat) : Int)) (ln rfl Try.underlying38) rfl ?_
                                 refine rs (v := .bool (decide (((y85.Body.length : Nat) : Int) ≠ 1))) (ned rfl rfl) rfl ?_
                                 refine rs (v := .bool (decide (((y85.Body.length : Nat) : Int) ≠ 1))) (pkf (v := .bool (decide (((y85.Body.length : Nat) : Int) ≠ 1))) rfl rfl) rfl ?_
                                 refine rs (v := .bool (decide (((y85.Body.length : Nat) : Int) ≠ 1))) (mv (v := .bool (decide (((y85.Body.length : Nat) : Int) ≠ 1))) rfl) rfl ?_
                                 cases hb96 : (decide (((y85.Body.length : Nat) : Int) ≠ 1))
                                 · replace hp := gneg hp (of_decide_eq_false hb96)
                                   refine rs (v := .slice (some ⟨b72, o73, none⟩) r38.1.length q41) (mv (v := .slice (some ⟨b72, o73, none⟩) r38.1.length q41) rfl) rfl ?_
                                   refine rs (v := .int .i64 j46) (mv (v := .int .i64 j46) rfl) rfl ?_
                                   replace hp := bind_some hp; obtain ⟨y97, hy97, hp⟩ := hp
                                   obtain ⟨b100, o101, u102, hi98, hi99⟩ := Ctx.rdAt hc (k := 2) rfl rfl reads_own hy97
                                   clear u102
                                   refine rs (v := .pointer (some ⟨b72, o73 + (j46).toNat * 4, none⟩)) (ixx rfl rfl Try.underlying29 Try.sizeOf46 hi98 hi99 rfl) rfl ?_
                                   refine rs (v := .pointer (some ⟨b72, o73 + (j46).toNat * 4 + 3, none⟩)) (fax 3 rfl Try.underlying46 rfl Try.sizeOf38 rfl rfl rfl) rfl ?_
                                   replace hc := Ctx.rdCell hc (k := 2) rfl rfl reads_own hy97; obtain ⟨cs103, hc, hcell104⟩ := hc
                                   replace hc := S_api_Seg.op hc; obtain ⟨a106, q107, u105, hc⟩ := hc; subst u105
                                   refine rs (v := .slice a106 y97.Body.length q107) (ld rfl Try.isAgg38 (hcell104 3 _ rfl)) rfl ?_
                                   replace hp := bind_some hp; obtain ⟨y108, hy108, hp⟩ := hp
                                   obtain ⟨b111, o112, u113, hi109, hi110⟩ := Ctx.rdAt hc (k := 0) rfl rfl reads_ro hy108
                                   subst u113
                                   refine rs (v := .pointer (some ⟨b111, o112 + ((0 : Int)).toNat * 1, none⟩)) (ixx rfl rfl Try.underlying38 Try.sizeOf5 hi109 hi110 rfl) rfl ?_
                                   replace hc := Ctx.rdCell hc (k := 0) rfl rfl reads_ro hy108; obtain ⟨cs114, hc, hcell115⟩ := hc
                                   replace hc := Ctx.holdC hc; obtain ⟨u116, hc⟩ := hc; subst u116
                                   refine rs (v := .int .u8 y108) (ld rfl Try.isAgg5 (hcell115 0 _ rfl)) rfl ?_
                                   refine rs (v := .int .i64 (IntKind.i64.wrap y108)) (cvi rfl Try.underlying5 Try.underlying3) rfl ?_
                                   refine rs (v := .int .i64 y69.Seq) (mv (v := .int .i64 y69.Seq) rfl) rfl ?_
                                   refine rs (v := .int .i64 (IntKind.i64.wrap (y69.Seq - 1))) (sbw rfl rfl) rfl ?_
                                   refine rs (v := .bool (decide ((IntKind.i64.wrap y108) ≠ (IntKind.i64.wrap (y69.Seq - 1))))) (ned rfl rfl) rfl ?_
                                   refine rs (v := .bool (decide ((IntKind.i64.wrap y108) ≠ (IntKind.i64.wrap (y69.Seq - 1))))) (pkf (v := .bool (decide ((IntKind.i64.wrap y108) ≠ (IntKind.i64.wrap (y69.Seq - 1))))) rfl rfl) rfl ?_
                                   refine rn ?_
                                   refine qn ?_
                                   replace hc := hc.rem 2 rfl rfl
                                   replace hc := hc.rem 1 rfl rfl
                                   replace hc := hc.rem 0 rfl rfl
                                   exact ⟨⟨decide ((IntKind.i64.wrap y108) ≠ (IntKind.i64.wrap (y69.Seq - 1))), rfl, hp, hc⟩, (kl rfl kb)⟩
                                 · replace hp := gpos hp (of_decide_eq_true hb96)
                                   refine r0 rfl ?_
                                   refine r0 rfl ?_
                                   refine r0 rfl ?_
                                   refine r0 rfl ?_
                                   refine r0 rfl ?_
                                   refine r0 rfl ?_
                                   refine r0 rfl ?_
                                   refine r0 rfl ?_
                                   refine r0 rfl ?_
                                   refine r0 rfl ?_
                                   refine r0 rfl ?_
                                   refine rs (v := .bool true) (pkt (v := .bool true) rfl rfl) rfl ?_
                                   refine rn ?_
                                   refine qn ?_
                                   replace hc := hc.rem 1 rfl rfl
                                   replace hc := hc.rem 0 rfl rfl
                                   exact ⟨⟨true, rfl, hp, hc⟩, (kl rfl kb)⟩
                               · replace hp := gpos hp (of_decide_eq_true hb84)
                                 refine rs (v := .slice (some ⟨b72, o73, none⟩) r38.1.length q41) (mv (v := .slice (some ⟨b72, o73, none⟩) r38.1.length q41) rfl) rfl ?_
                                 refine rs (v := .int .i64 j46) (mv (v := .int .i64 j46) rfl) rfl ?_
                                 refine rs (v := .int .i64 (IntKind.i64.wrap (j46 - 1))) (sbw rfl rfl) rfl ?_
                                 replace hp := bind_some hp; obtain ⟨y117, hy117, hp⟩ := hp
                                 obtain ⟨b120, o121, u122, hi118, hi119⟩ := Ctx.rdAt hc (k := 1) rfl rfl reads_own hy117
                                 clear u122
                                 refine rs (v := .pointer (some ⟨b72, o73 + ((IntKind.i64.wrap (j46 - 1))).toNat * 4, none⟩)) (ixx rfl rfl Try.underlying29 Try.sizeOf46 hi118 hi119 rfl) rfl ?_
                                 refine rs (v := .pointer (some ⟨b72, o73 + ((IntKind.i64.wrap (j46 - 1))).toNat * 4 + 1, none⟩)) (fax 1 rfl Try.underlying46 rfl Try.sizeOf3 rfl rfl rfl) rfl ?_
                                 replace hc := Ctx.rdCell hc (k := 1) rfl rfl reads_own hy117; obtain ⟨cs123, hc, hcell124⟩ := hc
                                 replace hc := S_api_Seg.op hc; obtain ⟨a126, q127, u125, hc⟩ := hc; subst u125
                                 refine rs (v := .int .i64 y117.Seq) (ld rfl Try.isAgg3 (hcell124 1 _ rfl)) rfl ?_
                                 refine rs (v := .int .i64 y69.Seq) (mv (v := .int .i64 y69.Seq) rfl) rfl ?_
                                 refine rs (v := .bool (decide (y117.Seq ≥ y69.Seq))) (ge' rfl rfl) rfl ?_
                                 refine rs (v := .bool (decide (y117.Seq ≥ y69.Seq))) (pkt (v := .bool (decide (y117.Seq ≥ y69.Seq))) rfl rfl) rfl ?_
                                 refine rs (v := .bool (decide (y117.Seq ≥ y69.Seq))) (pkf (v := .bool (decide (y117.Seq ≥ y69.Seq))) rfl rfl) rfl ?_
                                 refine rs (v := .bool (decide (y117.Seq ≥ y69.Seq))) (mv (v := .bool (decide (y117.Seq ≥ y69.Seq))) rfl) rfl ?_
                                 cases hb128 : (decide (y117.Seq ≥ y69.Seq))
                                 · replace hp := gneg hp (of_decide_eq_false hb128)
                                   refine rs (v := .slice (some ⟨b72, o73, none⟩) r38.1.length q41) (mv (v := .slice (some ⟨b72, o73, none⟩) r38.1.length q41) rfl) rfl ?_
                                   refine rs (v := .int .i64 j46) (mv (v := .int .i64 j46) rfl) rfl ?_
                                   replace hp := bind_some hp; obtain ⟨y129, hy129, hp⟩ := hp
                                   obtain ⟨b132, o133, u134, hi130, hi131⟩ := Ctx.rdAt hc (k := 2) rfl rfl reads_own hy129
                                   clear u134
                                   refine rs (v := .pointer (some ⟨b72, o73 + (j46).toNat * 4, none⟩)) (ixx rfl rfl Try.underlying29 Try.sizeOf46 hi130 hi131 rfl) rfl ?_
                                   refine rs (v := .pointer (some ⟨b72, o73 + (j46).toNat * 4 + 3, none⟩)) (fax 3 rfl Try.underlying46 rfl Try.sizeOf38 rfl rfl rfl) rfl ?_
                                   replace hc := Ctx.rdCell hc (k := 2) rfl rfl reads_own hy129; obtain ⟨cs135, hc, hcell136⟩ := hc
                                   replace hc := S_api_Seg.op hc; obtain ⟨a138, q139, u137, hc⟩ := hc; subst u137
                                   refine rs (v := .slice a138 y129.Body.length q139) (ld rfl Try.isAgg38 (hcell136 3 _ rfl)) rfl ?_
                                   refine rs (v := .int .i64 ((y129.Body.length : Nat) : Int)) (ln rfl Try.underlying38) rfl ?_
                                   refine rs (v := .bool (decide (((y129.Body.length : Nat) : Int) ≠ 1))) (ned rfl rfl) rfl ?_
                                   refine rs (v := .bool (decide (((y129.Body.length : Nat) : Int) ≠ 1))) (pkf (v := .bool (decide (((y129.Body.length : Nat) : Int) ≠ 1))) rfl rfl) rfl ?_
                                   refine rs (v := .bool (decide (((y129.Body.length : Nat) : Int) ≠ 1))) (mv (v := .bool (decide (((y129.Body.length : Nat) : Int) ≠ 1))) rfl) rfl ?_
                                   cases hb140 : (decide (((y129.Body.length : Nat) : Int) ≠ 1))
                                   · replace hp := gneg hp (of_decide_eq_false hb140)
                                     refine rs (v := .slice (some ⟨b72, o73, none⟩) r38.1.length q41) (mv (v := .slice (some ⟨b72, o73, none⟩) r38.1.length q41) rfl) rfl ?_
                                     refine rs (v := .int .i64 j46) (mv (v := .int .i64 j46) rfl) rfl ?_
                                     replace hp := bind_some hp; obtain ⟨y141, hy141, hp⟩ := hp
                                     obtain ⟨b144, o145, u146, hi142, hi143⟩ := Ctx.rdAt hc (k := 3) rfl rfl reads_own hy141
                                     clear u146
                                     refine rs (v := .pointer (some ⟨b72, o73 + (j46).toNat * 4, none⟩)) (ixx rfl rfl Try.underlying29 Try.sizeOf46 hi142 hi143 rfl) rfl ?_
                                     refine rs (v := .pointer (some ⟨b72, o73 + (j46).toNat * 4 + 3, none⟩)) (fax 3 rfl Try.underlying46 rfl Try.sizeOf38 rfl rfl rfl) rfl ?_
                                     replace hc := Ctx.rdCell hc (k := 3) rfl rfl reads_own hy141; obtain ⟨cs147, hc, hcell148⟩ := hc
                                     replace hc := S_api_Seg.op hc; obtain ⟨a150, q151, u149, hc⟩ := hc; subst u149
                                     refine rs (v := .slice a150 y141.Body.length q151) (ld rfl Try.isAgg38 (hcell148 3 _ rfl)) rfl ?_
                                     replace hp := bind_some hp; obtain ⟨y152, hy152, hp⟩ := hp
                                     obtain ⟨b155, o156, u157, hi153, hi154⟩ := Ctx.rdAt hc (k := 0) rfl rfl reads_ro hy152
                                     subst u157
                                     refine rs (v := .pointer (some ⟨b155, o156 + ((0 : Int)).toNat * 1, none⟩)) (ixx rfl rfl Try.underlying38 Try.sizeOf5 hi153 hi154 rfl) rfl ?_
                                     replace hc := Ctx.rdCell hc (k := 0) rfl rfl reads_ro hy152; obtain ⟨cs158, hc, hcell159⟩ := hc
                                     replace hc := Ctx.holdC hc; obtain ⟨u160, hc⟩ := hc; subst u160
                                     refine rs (v := .int .u8 y152) (ld rfl Try.isAgg5 (hcell159 0 _ rfl)) rfl ?_
                                     refine rs (v := .int .i64 (IntKind.i64.wrap y152)) (cvi rfl Try.underlying5 Try.underlying3) rfl ?_
                                     refine rs (v := .int .i64 y69.Seq) (mv (v := .int .i64 y69.Seq) rfl) rfl ?_
                                     refine rs (v := .int .i64 (IntKind.i64.wrap (y69.Seq - 1))) (sbw rfl rfl) rfl ?_
                                     refine rs (v := .bool (decide ((IntKind.i64.wrap y152) ≠ (IntKind.i64.wrap (y69.Seq - 1))))) (ned rfl rfl) rfl ?_
                                     refine rs (v := .bool (decide ((IntKind.i64.wrap y152) ≠ (IntKind.i64.wrap (y69.Seq - 1))))) (pkf (v := .bool (decide ((IntKind.i64.wrap y152) ≠ (IntKind.i64.wrap (y69.Seq - 1))))) rfl rfl) rfl ?_
                                     refine rn ?_
                                     refine qn ?_
                                     replace hc := hc.rem 3 rfl rfl
                                     replace hc := hc.rem 2 rfl rfl
                                     replace hc := hc.rem 1 rfl rfl
                                     replace hc := hc.rem 0 rfl rfl
                                     exact ⟨⟨decide ((IntKind.i64.wrap y152) ≠ (IntKind.i64.wrap (y69.Seq - 1))), rfl, hp, hc⟩, (kl rfl kb)⟩
                                   · replace hp := gpos hp (of_decide_eq_true hb140)
                                     refine r0 rfl ?_
                                     refine r0 rfl ?_
                                     refine r0 rfl ?_
                                     refine r0 rfl ?_
                                     refine r0 rfl ?_
                                     refine r0 rfl ?_
                                     refine r0 rfl ?_
                                     refine r0 rfl ?_
                                     refine r0 rfl ?_
                                     refine r0 rfl ?_
                                     refine r0 rfl ?_
                                     refine rs (v := .bool true) (pkt (v := .bool true) rfl rfl) rfl ?_
                                     refine rn ?_
                                     refine qn ?_
                                     replace hc := hc.rem 2 rfl rfl
                                     replace hc := hc.rem 1 rfl rfl
                                     replace hc := hc.rem 0 rfl rfl
                                     exact ⟨⟨true, rfl, hp, hc⟩, (kl rfl kb)⟩
                                 · replace hp := gpos hp (of_decide_eq_true hb128)
                                   refine r0 rfl ?_
                                   refine r0 rfl ?_
                                   refine r0 rfl ?_
                                   refine r0 rfl ?_
                                   refine r0 rfl ?_
                                   refine r0 rfl ?_
                                   refine r0 rfl ?_
                                   refine rs (v := .bool true) (pkt (v := .bool true) rfl rfl) rfl ?_
                                   refine rs (v := .bool true) (mv (v := .bool true) rfl) rfl ?_
                                   refine r0 rfl ?_
                                   refine r0 rfl ?_
                                   refine r0 rfl ?_
                                   refine r0 rfl ?_
                                   refine r0 rfl ?_
                                   refine r0 rfl ?_
                                   refine r0 rfl ?_
                                   refine r0 rfl ?_
                                   refine r0 rfl ?_
                                   refine r0 rfl ?_
                                   refine r0 rfl ?_
                                   refine rs (v := .bool true) (pkt (v := .bool true) rfl rfl) rfl ?_
                                   refine rn ?_
                                   refine qn ?_
                                   replace hc := hc.rem 1 rfl rfl
                                   replace hc := hc.rem 0 rfl rfl
                                   exact ⟨⟨true, rfl, hp, hc⟩, (kl rfl kb)⟩
                             · replace hp := gpos hp (of_decide_eq_true hb83)
                               refine r0 rfl ?_
                               refine r0 rfl ?_
                               refine r0 rfl ?_
                               refine r0 rfl ?_
                               refine r0 rfl ?_
                               refine r0 rfl ?_
                               refine r0 rfl ?_
                               refine r0 rfl ?_
                               refine r0 rfl ?_
                               refine r0 rfl ?_
                               refine r0 rfl ?_
                               refine r0 rfl ?_
                               refine rs (v := .bool true) (pkt (v := .bool true) rfl rfl) rfl ?_
                               refine rs (v := .bool true) (mv (v := .bool true) rfl) rfl ?_
                               refine r0 rfl ?_
                               refine r0 rfl ?_
                               refine r0 rfl ?_
                               refine r0 rfl ?_
                               refine r0 rfl ?_
                               refine r0 rfl ?_
                               refine r0 rfl ?_
                               refine rs (v := .bool true) (pkt (v := .bool true) rfl rfl) rfl ?_
                               refine rs (v := .bool true) (mv (v := .bool true) rfl) rfl ?_
                               refine r0 rfl ?_
                               refine r0 rfl ?_
                               refine r0 rfl ?_
                               refine r0 rfl ?_
                               refine r0 rfl ?_
                               refine r0 rfl ?_
                               refine r0 rfl ?_
                               refine r0 rfl ?_
                               refine r0 rfl ?_
                               refine r0 rfl ?_
                               refine r0 rfl ?_
                               refine rs (v := .bool true) (pkt (v := .bool true) rfl rfl) rfl ?_
                               refine rn ?_
                               refine qn ?_
                               replace hc := hc.rem 0 rfl rfl
                               exact ⟨⟨true, rfl, hp, hc⟩, (kl rfl kb)⟩
                           · replace hp := gpos hp (of_decide_eq_true hb82)
                             refine r0 rfl ?_
                             refine r0 rfl ?_
                             refine r0 rfl ?_
                             refine rs (v := .bool true) (pkt (v := .bool true) rfl rfl) rfl ?_
                             refine rs (v := .bool true) (mv (v := .bool true) rfl) rfl ?_
                             refine r0 rfl ?_
                             refine r0 rfl ?_
                             refine r0 rfl ?_
                             refine r0 rfl ?_
                             refine r0 rfl ?_
                             refine r0 rfl ?_
                             refine r0 rfl ?_
                             refine r0 rfl ?_
                             refine r0 rfl ?_
                             refine r0 rfl ?_
                             refine r0 rfl ?_
                             refine r0 rfl ?_
                             refine rs (v := .bool true) (pkt (v := .bool true) rfl rfl) rfl ?_
                             refine rs (v := .bool true) (mv (v := .bool true) rfl) rfl ?_
                             refine r0 rfl ?_
                             refine r0 rfl ?_
                             refine r0 rfl ?_
                             refine r0 rfl ?_
                             refine r0 rfl ?_
                             refine r0 rfl ?_
                             refine r0 rfl ?_
                             refine rs (v := .bool true) (pkt (v := .bool true) rfl rfl) rfl ?_
                             refine rs (v := .bool true) (mv (v := .bool true) rfl) rfl ?_
                             refine r0 rfl ?_
                             refine r0 rfl ?_
                             refine r0 rfl ?_
                             refine r0 rfl ?_
                             refine r0 rfl ?_
                             refine r0 rfl ?_
                             refine r0 rfl ?_
                             refine r0 rfl ?_
                             refine r0 rfl ?_
                             refine r0 rfl ?_
                             refine r0 rfl ?_
                             refine rs (v := .bool true) (pkt (v := .bool true) rfl rfl) rfl ?_
                             refine rn ?_
                             refine qn ?_
                             replace hc := hc.rem 0 rfl rfl
                             exact ⟨⟨true, rfl, hp, hc⟩, (kl rfl kb)⟩
                         · replace hp := gpos hp (of_decide_eq_true hb81)
                           refine r0 rfl ?_
                           refine r0 rfl ?_
                           refine r0 rfl ?_
                           refine r0 rfl ?_
                           refine r0 rfl ?_
                           refine rs (v := .bool true) (pkt (v := .bool true) rfl rfl) rfl ?_
                           refine rs (v := .bool true) (mv (v := .bool true) rfl) rfl ?_
                           refine r0 rfl ?_
                           refine r0 rfl ?_
                           refine r0 rfl ?_
                           refine rs (v := .bool true) (pkt (v := .bool true) rfl rfl) rfl ?_
                           refine rs (v := .bool true) (mv (v := .bool true) rfl) rfl ?_
                           refine r0 rfl ?_
                           refine r0 rfl ?_
                           refine r0 rfl ?_
                           refine r0 rfl ?_
                           refine r0 rfl ?_
                           refine r0 rfl ?_
                           refine r0 rfl ?_
                           refine r0 rfl ?_
                           refine r0 rfl ?_
                           refine r0 rfl ?_
                           refine r0 rfl ?_
                           refine r0 rfl ?_
                           refine rs (v := .bool true) (pkt (v := .bool true) rfl rfl) rfl ?_
                           refine rs (v := .bool true) (mv (v := .bool true) rfl) rfl ?_
                           refine r0 rfl ?_
                           refine r0 rfl ?_
                           refine r0 rfl ?_
                           refine r0 rfl ?_
                           refine r0 rfl ?_
                           refine r0 rfl ?_
                           refine r0 rfl ?_
                           refine rs (v := .bool true) (pkt (v := .bool true) rfl rfl) rfl ?_
                           refine rs (v := .bool true) (mv (v := .bool true) rfl) rfl ?_
                           refine r0 rfl ?_
                           refine r0 rfl ?_
                           refine r0 rfl ?_
                           refine r0 rfl ?_
                           refine r0 rfl ?_
                           refine r0 rfl ?_
                           refine r0 rfl ?_
                           refine r0 rfl ?_
                           refine r0 rfl ?_
                           refine r0 rfl ?_
                           refine r0 rfl ?_
                           refine rs (v := .bool true) (pkt (v := .bool true) rfl rfl) rfl ?_
                           refine rn ?_
                           refine qn ?_
                           replace hc := hc.rem 0 rfl rfl
                           exact ⟨⟨true, rfl, hp, hc⟩, (kl rfl kb)⟩
                       · clear hp hc; intro vs u w161 hJ
                         obtain ⟨j80, rfl, hp, hc⟩ := hJ
                         unfold law16_LinkWindow.J4 at hp
                         cases hb162 : j80
                         · replace hp := gneg hp (by rw [hb162]; exact Bool.false_ne_true)
                           subst hb162
                           refine Wcf rfl ?_
                           refine Wskip ?_
                           refine qn ?_
                           refine Wreg ?_
                           refine rs (v := .int .i64 j45) (mv (v := .int .i64 j45) rfl) rfl ?_
                           refine rs (v := .int .i64 y69.Seq) (mv (v := .int .i64 y69.Seq) rfl) rfl ?_
                           refine rs (v := .int .i64 (max j45 y69.Seq)) (bmx rfl rfl Try.underlying3) rfl ?_
                           refine rs (v := .int .i64 (max j45 y69.Seq)) (av (v := .int .i64 (max j45 y69.Seq)) rfl) rfl ?_
                           refine rn ?_
                           refine bn ?_
                           refine qn ?_
                           refine Wreg ?_
                           refine rs (v := .int .i64 j46) (mv (v := .int .i64 j46) rfl) rfl ?_
                           refine rs (v := .int .i64 (IntKind.i64.wrap (j46 + 1))) (adw rfl rfl) rfl ?_
                           refine rs (v := .int .i64 (IntKind.i64.wrap (j46 + 1))) (av (v := .int .i64 (IntKind.i64.wrap (j46 + 1))) rfl) rfl ?_
                           refine rn ?_
                           refine qn ?_
                           exact ⟨m3, Nat.lt_succ_self _, ⟨(max j45 y69.Seq), (IntKind.i64.wrap (j46 + 1)), rfl, hp, hc⟩, (kl rfl (km rfl (kl rfl k0)))⟩
                         · replace hp := gpos hp hb162
                           subst hb162
                           refine Wct rfl ?_
                           refine Wseq ?_
                           refine Wreg ?_
                           refine rs (v := .bool false) (av (v := .bool false) rfl) rfl ?_
                           refine rn ?_
                           refine qn ?_
                           refine Wret ?_
                           refine qr ?_
                           refine br ?_
                           refine qr ?_
                           refine qr ?_
                           refine br ?_
                           refine qr ?_
                           refine br ?_
                           refine qr ?_
                           refine qr ?_
                           refine br ?_
                           refine qr ?_
                           replace hc := hc.rem 1 rfl rfl
                           replace hc := hc.rem 0 rfl rfl
                           injection hp with hp; subst hp
                           refine f1 (v := .bool false) Try.results4 Try.ntmps4 rfl ?_
                           exact ⟨_, rfl, k _ hc⟩
                 · replace hp := gpos hp (of_decide_eq_true hb44)
                   refine Wct rfl ?_
                   refine Wseq ?_
                   refine Wreg ?_
                   refine rs (v := .bool false) (av (v := .bool false) rfl) rfl ?_
                   refine rn ?_
                   refine qn ?_
                   refine Wret ?_
                   refine qr ?_
                   refine br ?_
                   refine qr ?_
                   refine qr ?_
                   refine br ?_
                   refine qr ?_
                   replace hc := hc.rem 1 rfl rfl
                   replace hc := hc.rem 0 rfl rfl
                   injection hp with hp; subst hp
                   refine f1 (v := .bool false) Try.results4 Try.ntmps4 rfl ?_
                   exact ⟨_, rfl, k _ hc⟩
           · replace hp := gpos hp (of_decide_eq_true hb24)
             refine Wct rfl ?_
             refine Wskip ?_
             refine qn ?_
             refine Wseq ?_
             refine Wblk ?_
             refine Wseq ?_
             refine Wreg ?_
             refine rs (v := .pointer (some ⟨b17, 0, none⟩)) (mv (v := .pointer (some ⟨b17, 0, none⟩)) rfl) rfl ?_
             refine rs (v := .int .i64 j22) (mv (v := .int .i64 j22) rfl) rfl ?_
             refine rs (v := .int .u8 (IntKind.u8.wrap j22)) (cvi rfl Try.underlying3 Try.underlying5) rfl ?_
             replace hc : Ctx w23 (Hold (pInt .u8) [.int .u8 (IntKind.u8.wrap j22)] (IntKind.u8.wrap j22) :: S_link_Link.hp b17 j21 :: P2 :: Fr) := hc.add _ fun _ _ _ => ⟨rfl, rfl⟩
             refine rsE (Ctx.builtOp (css := [[.int .u8 (IntKind.u8.wrap j22)]]) (xs := ([(IntKind.u8.wrap j22)] : List Int)) (E := (pInt .u8)) hc Try.underlying38 Try.sizeOf5 Try.zeroValue5 rfl rfl rfl rfl rfl rfl rfl rfl) rfl ?_
             clear hc; rintro _ w164 ⟨a163, rfl, hc⟩
             replace hc := hc.freeze (k := 0) rfl rfl rfl
             replace hc := hc.dup (k := 0) rfl rfl
             refine rsE (Ctx.builtOp (css := [[.slice a163 1 1]]) (xs := ([[(IntKind.u8.wrap j22)]] : List (List Int))) (E := (pRo (pInt .u8))) hc Try.underlying51 Try.sizeOf38 Try.zeroValue38 rfl rfl rfl rfl rfl rfl rfl rfl) rfl ?_
             clear hc; rintro _ w166 ⟨a165, rfl, hc⟩
             replace hp := bind_some hp; obtain ⟨r167, hr167, hp⟩ := hp
             replace hc := hc.pull 2 rfl rfl
             refine rc (cl Try.call13 rfl rfl) rfl ?_
             refine link_Link_Send_any reads_own hc hr167 ?_
             clear hc; intro w168 hc
             refine rs (v := .bool (decide (r167.1 ≠ 0))) (ned rfl rfl) rfl ?_
             refine rn ?_
             refine qn ?_
             cases hb169 : (decide (r167.1 ≠ 0))
             · replace hp := gneg hp (of_decide_eq_false hb169)
               refine Wcf rfl ?_
               refine Wskip ?_
               refine bn ?_
               refine qn ?_
               refine Wreg ?_
               refine rs (v := .int .i64 j22) (mv (v := .int .i64 j22) rfl) rfl ?_
               refine rs (v := .int .i64 (IntKind.i64.wrap (j22 + 1))) (adw rfl rfl) rfl ?_
               refine rs (v := .int .i64 (IntKind.i64.wrap (j22 + 1))) (av (v := .int .i64 (IntKind.i64.wrap (j22 + 1))) rfl) rfl ?_
               refine rn ?_
               refine qn ?_
               replace hc := hc.rem 2 rfl rfl
               replace hc := hc.rem 1 rfl rfl
               exact ⟨m1, Nat.lt_succ_self _, ⟨r167.2, (IntKind.i64.wrap (j22 + 1)), rfl, hp, hc⟩, (kl rfl k0)⟩
             · replace hp := gpos hp (of_decide_eq_true hb169)
               refine Wct rfl ?_
               refine Wseq ?_
               refine Wreg ?_
               refine rs (v := .bool false) (av (v := .bool false) rfl) rfl ?_
               refine rn ?_
               refine qn ?_
               refine Wret ?_
               refine br ?_
               refine qr ?_
               refine qr ?_
               refine br ?_
               refine qr ?_
               replace hc := hc.rem 2 rfl rfl
               replace hc := hc.rem 1 rfl rfl
               replace hc := hc.rem 0 rfl rfl
               injection hp with hp; subst hp
               refine f1 (v := .bool false) Try.results4 Try.ntmps4 rfl ?_
               exact ⟨_, rfl, k _ hc⟩
       · replace hp := gpos hp (of_decide_eq_true hb19)
         refine Wct rfl ?_
         refine Wseq ?_
         refine Wreg ?_
         refine rs (v := .bool false) (av (v := .bool false) rfl) rfl ?_
         refine rn ?_
         refine qn ?_
         refine Wret ?_
         refine qr ?_
         replace hc := hc.rem 1 rfl rfl
         replace hc := hc.rem 0 rfl rfl
         injection hp with hp; subst hp
         refine f1 (v := .bool false) Try.results4 Try.ntmps4 rfl ?_
         exact ⟨_, rfl, k _ hc⟩
   · replace hp := gpos hp (of_decide_eq_true hb9)
     refine Wct rfl ?_
     refine Wseq ?_
     refine Wreg ?_
     replace hp := bind_some hp; obtain ⟨r170, hr170, hp⟩ := hp
     refine rc (cl Try.call7 rfl rfl) rfl ?_
     refine law16_awake_any hc hr170 ?_
     clear hc; intro w171 hc
     refine rs (v := .bool r170) (av (v := .bool r170) rfl) rfl ?_
     refine rn ?_
     refine qn ?_
     refine Wret ?_
     refine qr ?_
     replace hc := hc.rem 0 rfl rfl
     injection hp with hp; subst hp
     refine f1 (v := .bool r170) Try.results4 Try.ntmps4 rfl ?_
     exact ⟨_, rfl, k _ hc⟩

-- FN peloton/pelotonlaw16.LinkEpochs
def law16_LinkEpochs.L7 (N : Nat) (j63 : Int) (j87 : (List (List Int))) (r95 : ((List S_api_Seg) × S_link_Link)) (k4 : S_link_Link → S_link_Link → (List (List Int)) → Int → Option (Bool)) : Nat → S_link_Link → Int → Option (Bool)
  | 0, _, _ => none
  | m7 + 1, j101, j102 =>
    if j102 < ((r95.1.length : Nat) : Int) then
      (idx r95.1 j102).bind fun y105 =>
      (link_Link_Hear N j101 y105).bind fun r116 =>
      if r116.2.1 ≠ 0 then
        some false
      else
        (law16_LinkEpochs.L7 N j63 j87 r95 k4 m7) r116.2.2 (IntKind.i64.wrap (j102 + 1))
    else
      k4 j101 r95.2 j87 (IntKind.i64.wrap (j63 + 1))

def law16_LinkEpochs.L6 (N : Nat) (j63 : Int) (r80 : ((List S_api_Seg) × S_link_Link)) (k4 : S_link_Link → S_link_Link → (List (List Int)) → Int → Option (Bool)) : Nat → S_link_Link → (List (List Int)) → Int → Option (Bool)
  | 0, _, _, _ => none
  | m6 + 1, j86, j87, j91 =>
    if j91 < ((r80.1.length : Nat) : Int) then
      (idx r80.1 j91).bind fun y123 =>
      (link_Link_Hear N j86 y123).bind fun r134 =>
      if r134.2.1 ≠ 0 then
        some false
      else
        (app j87 r134.1).bind fun z141 =>
        (law16_LinkEpochs.L6 N j63 r80 k4 m6) r134.2.2 z141 (IntKind.i64.wrap (j91 + 1))
    else
      (link_Link_Tick N j86).bind fun r95 =>
      law16_LinkEpochs.L7 N j63 j87 r95 k4 N r80.2 0

def law16_LinkEpochs.J5 (N : Nat) (x1 : (List (List Int))) (e30 : Int) (j57 : S_link_Link) (j58 : S_link_Link) (j59 : (List (List Int))) (j63 : Int) (k4 : S_link_Link → S_link_Link → (List (List Int)) → Int → Option (Bool)) (j66 : Bool) : Option (Bool) :=
  if j66 = true then
    (link_Link_Tick N j57).bind fun r80 =>
    law16_LinkEpochs.L6 N j63 r80 k4 N j58 j59 0
  else
    (law16_bodies N j59 x1).bind fun r72 =>
    if r72 = true then
      (link_Link_Got j58).bind fun r75 =>
      if r75 = ((x1.length : Nat) : Int) then
        (link_Link_Epoch j57).bind fun r78 =>
        some (decide (r78 = e30))
      else
        some false
    else
      some false

def law16_LinkEpochs.L4 (N : Nat) (x1 : (List (List Int))) (e30 : Int) : Nat → S_link_Link → S_link_Link → (List (List Int)) → Int → Option (Bool)
  | 0, _, _, _, _ => none
  | m4 + 1, j57, j58, j59, j63 =>
    if j63 < 200 then
      (link_Link_Left j57).bind fun r68 =>
      law16_LinkEpochs.J5 N x1 e30 j57 j58 j59 j63 (law16_LinkEpochs.L4 N x1 e30 m4) (decide (r68 > 0))
    else
      law16_LinkEpochs.J5 N x1 e30 j57 j58 j59 j63 (law16_LinkEpochs.L4 N x1 e30 m4) false

def law16_LinkEpochs.L3 (N : Nat) (x1 : (List (List Int))) (e30 : Int) (r33 : ((List S_api_Seg) × S_link_Link)) (r45 : (Int × S_link_Link)) : Nat → S_link_Link → Int → Option (Bool)
  | 0, _, _ => none
  | m3 + 1, j51, j52 =>
    if j52 < ((r33.1.length : Nat) : Int) then
      (idx r33.1 j52).bind fun y147 =>
      (link_Link_Hear N j51 y147).bind fun r158 =>
      if r158.2.1 ≠ 160 then
        some false
      else
        if ((r158.1.length : Nat) : Int) ≠ 0 then
          some false
        else
          (link_Link_Got r158.2.2).bind fun r166 =>
          if r166 ≠ 0 then
            some false
          else
            (law16_LinkEpochs.L3 N x1 e30 r33 r45 m3) r158.2.2 (IntKind.i64.wrap (j52 + 1))
    else
      (link_Link_Send N r45.2 x1).bind fun r55 =>
      law16_LinkEpochs.L4 N x1 e30 N r55.2 j51 ([]) 0

def law16_LinkEpochs.L2 (N : Nat) (x0 : (List (List Int))) (x1 : (List (List Int))) (x2 : Int) (y15 : S_link_Link) (y20 : S_link_Link) : Nat → Int → Option (Bool)
  | 0, _ => none
  | m2 + 1, j27 =>
    if j27 < ((x1.length : Nat) : Int) then
      (idx x1 j27).bind fun y169 =>
      if ((y169.length : Nat) : Int) > 500 then
        some true
      else
        (law16_LinkEpochs.L2 N x0 x1 x2 y15 y20 m2) (IntKind.i64.wrap (j27 + 1))
    else
      (some (IntKind.i64.wrap (1 + (Int.tmod (IntKind.i64.wrap ((Int.tmod x2 1000) + 1000)) 1000)))).bind fun e30 =>
      (link_Link_Send N y15 x0).bind fun r31 =>
      (link_Link_Tick N r31.2).bind fun r33 =>
      (link_Link_Reset r33.2 e30).bind fun r39 =>
      if r39.1 ≠ 0 then
        some false
      else
        (link_Link_Reset y20 e30).bind fun r42 =>
        if r42.1 ≠ 0 then
          some false
        else
          (link_Link_Reset r39.2 e30).bind fun r45 =>
          if r45.1 ≠ 160 then
            some false
          else
            (link_Link_Left r45.2).bind fun r48 =>
            if r48 ≠ 0 then
              some false
            else
              law16_LinkEpochs.L3 N x1 e30 r33 r45 N r42.2 0

def law16_LinkEpochs.L1 (N : Nat) (x0 : (List (List Int))) (x1 : (List (List Int))) (x2 : Int) (y15 : S_link_Link) (y20 : S_link_Link) : Nat → Int → Option (Bool)
  | 0, _ => none
  | m1 + 1, j24 =>
    if j24 < ((x0.length : Nat) : Int) then
      (idx x0 j24).bind fun y182 =>
      if ((y182.length : Nat) : Int) > 500 then
        some true
      else
        (law16_LinkEpochs.L1 N x0 x1 x2 y15 y20 m1) (IntKind.i64.wrap (j24 + 1))
    else
      law16_LinkEpochs.L2 N x0 x1 x2 y15 y20 N 0

def law16_LinkEpochs (N : Nat) (x0 : (List (List Int))) (x1 : (List (List Int))) (x2 : Int) : Option (Bool) :=
  (law16_awake N).bind fun r1 =>
  if r1 = true then
    if ((x0.length : Nat) : Int) > 30 then
      (law16_awake N).bind fun r197 =>
      some r197
    else
      if ((x1.length : Nat) : Int) > 30 then
        (law16_awake N).bind fun r195 =>
        some r195
      else
        (link_New 8 2 100).bind fun r8 =>
        (link_New 8 2 100).bind fun r11 =>
        optc r8.1 (
          some false) fun y15 =>
        optc r11.1 (
          some false) fun y20 =>
        law16_LinkEpochs.L1 N x0 x1 x2 y15 y20 N 0
  else
    (law16_awake N).bind fun r4 =>
    some r4

set_option maxHeartbeats 8000000 in
theorem law16_LinkEpochs_any {N : Nat} {x0 : (List (List Int))} {ax0 : Option Addr} {nx0 : Nat} {qx0 : Nat} {P0 : HP} {x1 : (List (List Int))} {ax1 : Option Addr} {nx1 : Nat} {qx1 : Nat} {P1 : HP} {x2 : Int} {Fr : List HP} {w : World} {r : Bool} {K : Value → World → Prop} (hrd0 : Reads P0 (pRo (pInt .u8)) (.slice ax0 nx0 qx0) x0) (hrd1 : Reads P1 (pRo (pInt .u8)) (.slice ax1 nx1 qx1) x1) (hc : Ctx w (P0 :: P1 :: Fr)) (hp : law16_LinkEpochs N x0 x1 x2 = some r)
    (k : ∀ w', Ctx w' (P0 :: P1 :: Fr) → K (.bool r) w') : Calls Try.prog 6 #[.slice ax0 nx0 qx0, .slice ax1 nx1 qx1, .int .i64 x2] w (Ret K) := by
 unfold law16_LinkEpochs at hp
 refine Center (args := [.slice ax0 nx0 qx0, .slice ax1 nx1 qx1, .int .i64 x2]) (l := [(0, .slice ax0 nx0 qx0), (1, .slice ax1 nx1 qx1), (2, .int .i64 x2)]) Try.func6 Try.ntmps6 rfl rfl rfl ?_
 obtain ⟨hn0, _⟩ := Ctx.rdLen hc (k := 0) rfl rfl hrd0; subst hn0
 obtain ⟨hn1, _⟩ := Ctx.rdLen hc (k := 1) rfl rfl hrd1; subst hn1
 refine Wseq ?_
 refine Wreg ?_
 refine rs (v := .bool false) (av (v := .bool false) rfl) rfl ?_
 refine rn ?_
 refine qn ?_
 refine Wseq ?_
 refine Wseq ?_
 refine Wreg ?_
 replace hp := bind_some hp; obtain ⟨r1, hr1, hp⟩ := hp
 refine rc (cl Try.call7 rfl rfl) rfl ?_
 refine law16_awake_any hc hr1 ?_
 clear hc; intro w2 hc
 cases hb3 : r1
 · replace hp := gneg hp (by rw [hb3]; exact Bool.false_ne_true)
   subst hb3
   refine rs (v := .bool true) (ntf rfl) rfl ?_
   refine rs (v := .bool true) (mv (v := .bool true) rfl) rfl ?_
   refine r0 rfl ?_
   refine r0 rfl ?_
   refine r0 rfl ?_
   refine rs (v := .bool true) (pkt (v := .bool true) rfl rfl) rfl ?_
   refine rs (v := .bool true) (mv (v := .bool true) rfl) rfl ?_
   refine r0 rfl ?_
   refine r0 rfl ?_
   refine r0 rfl ?_
   refine rs (v := .bool true) (pkt (v := .bool true) rfl rfl) rfl ?_
   refine rn ?_
   refine qn ?_
   refine Wct rfl ?_
   refine Wseq ?_
   refine Wreg ?_
   replace hp := bind_some hp; obtain ⟨r4, hr4, hp⟩ := hp
   refine rc (cl Try.call7 rfl rfl) rfl ?_
   refine law16_awake_any hc hr4 ?_
   clear hc; intro w5 hc
   refine rs (v := .bool r4) (av (v := .bool r4) rfl) rfl ?_
   refine rn ?_
   refine qn ?_
   refine Wret ?_
   refine qr ?_
   injection hp with hp; subst hp
   refine f1 (v := .bool r4) Try.results6 Try.ntmps6 rfl ?_
   exact ⟨_, rfl, k _ hc⟩
 · replace hp := gpos hp hb3
   subst hb3
   refine rs (v := .bool false) (ntt rfl) rfl ?_
   refine rs (v := .bool false) (mv (v := .bool false) rfl) rfl ?_
   refine rs (v := .slice ax0 x0.length qx0) (mv (v := .slice ax0 x0.length qx0) rfl) rfl ?_
   refine rs (v := .int .i64 ((x0.length : Nat) : Int)) (ln rfl Try.underlying51) rfl ?_
   refine rs (v := .bool (decide (((x0.length : Nat) : Int) > 30))) (gt' rfl rfl) rfl ?_
   refine rs (v := .bool (decide (((x0.length : Nat) : Int) > 30))) (pkf (v := .bool (decide (((x0.length : Nat) : Int) > 30))) rfl rfl) rfl ?_
   refine rs (v := .bool (decide (((x0.length : Nat) : Int) > 30))) (mv (v := .bool (decide (((x0.length : Nat) : Int) > 30))) rfl) rfl ?_
   cases hb6 : (decide (((x0.length : Nat) : Int) > 30))
   · replace hp := gneg hp (of_decide_eq_false hb6)
     refine rs (v := .slice ax1 x1.length qx1) (mv (v := .slice ax1 x1.length qx1) rfl) rfl ?_
     refine rs (v := .int .i64 ((x1.length : Nat) : Int)) (ln rfl Try.underlying51) rfl ?_
     refine rs (v := .bool (decide (((x1.length : Nat) : Int) > 30))) (gt' rfl rfl) rfl ?_
     refine rs (v := .bool (decide (((x1.length : Nat) : Int) > 30))) (pkf (v := .bool (decide (((x1.length : Nat) : Int) > 30))) rfl rfl) rfl ?_
     refine rn ?_
     refine qn ?_
     cases hb7 : (decide (((x1.length : Nat) : Int) > 30))
     · replace hp := gneg hp (of_decide_eq_false hb7)
       refine Wcf rfl ?_
       refine Wskip ?_
       refine qn ?_
       refine Wseq ?_
       refine Wreg ?_
       replace hp := bind_some hp; obtain ⟨r8, hr8, hp⟩ := hp
       refine rc (cl Try.call8 rfl rfl) rfl ?_
       refine link_New_any hc hr8 ?_
       clear hc; intro v9 w10 hc
       refine rs (v := .tuple #[v9, .int .i64 r8.2]) (mv (v := .tuple #[v9, .int .i64 r8.2]) rfl) rfl ?_
       refine rs (v := v9) (ext (v := v9) rfl rfl) rfl ?_
       refine rs (v := .int .i64 r8.2) (ext (v := .int .i64 r8.2) rfl rfl) rfl ?_
       refine rs (v := v9) (av (v := v9) rfl) rfl ?_
       refine rs (v := .int .i64 r8.2) (av (v := .int .i64 r8.2) rfl) rfl ?_
       refine rn ?_
       refine qn ?_
       refine Wseq ?_
       refine Wreg ?_
       replace hp := bind_some hp; obtain ⟨r11, hr11, hp⟩ := hp
       refine rc (cl Try.call8 rfl rfl) rfl ?_
       refine link_New_any hc hr11 ?_
       clear hc; intro v12 w13 hc
       refine rs (v := .tuple #[v12, .int .i64 r11.2]) (mv (v := .tuple #[v12, .int .i64 r11.2]) rfl) rfl ?_
       refine rs (v := v12) (ext (v := v12) rfl rfl) rfl ?_
       refine rs (v := .int .i64 r11.2) (ext (v := .int .i64 r11.2) rfl rfl) rfl ?_
       refine rs (v := v12) (av (v := v12) rfl) rfl ?_
       refine rs (v := .int .i64 r11.2) (av (v := .int .i64 r11.2) rfl) rfl ?_
       refine rn ?_
       refine qn ?_
       refine Wseq ?_
       refine Wseq ?_
       refine Wreg ?_
       refine rs (v := v9) (mv (v := v9) rfl) rfl ?_
       replace hc := hc.pull 1 rfl rfl
       replace hc : Ctx w13 (PtO S_link_Link.hp v9 r8.1 :: PtO S_link_Link.hp v12 r11.1 :: P0 :: P1 :: Fr) := hc
       cases hb14 : r8.1
       · replace hp := optN hp hb14
         rw [hb14] at hc
         replace hc := Ctx.ptoN hc; obtain ⟨u16, hc⟩ := hc; subst u16
         refine rs (v := .bool true) (ept Try.underlying27 rfl rfl) rfl ?_
         refine rs (v := .bool true) (mv (v := .bool true) rfl) rfl ?_
         refine r0 rfl ?_
         refine r0 rfl ?_
         refine rs (v := .bool true) (pkt (v := .bool true) rfl rfl) rfl ?_
         refine rn ?_
         refine qn ?_
         refine Wct rfl ?_
         refine Wseq ?_
         refine Wreg ?_
         refine rs (v := .bool false) (av (v := .bool false) rfl) rfl ?_
         refine rn ?_
         refine qn ?_
         refine Wret ?_
         refine qr ?_
         replace hc := hc.rem 0 rfl rfl
         injection hp with hp; subst hp
         refine f1 (v := .bool false) Try.results6 Try.ntmps6 rfl ?_
         exact ⟨_, rfl, k _ hc⟩
       · rename_i y15
         replace hp := optS hp hb14
         rw [hb14] at hc
         replace hc := Ctx.ptoS hc; obtain ⟨b17, u18, hc⟩ := hc; subst u18
         refine rs (v := .bool false) (epf Try.underlying27 rfl rfl) rfl ?_
         refine rs (v := .bool false) (mv (v := .bool false) rfl) rfl ?_
         refine rs (v := v12) (mv (v := v12) rfl) rfl ?_
         replace hc := hc.pull 1 rfl rfl
         replace hc : Ctx w13 (PtO S_link_Link.hp v12 r11.1 :: S_link_Link.hp b17 y15 :: P0 :: P1 :: Fr) := hc
         cases hb19 : r11.1
         · replace hp := optN hp hb19
           rw [hb19] at hc
           replace hc := Ctx.ptoN hc; obtain ⟨u21, hc⟩ := hc; subst u21
           refine rs (v := .bool true) (ept Try.underlying27 rfl rfl) rfl ?_
           refine rs (v := .bool true) (pkf (v := .bool true) rfl rfl) rfl ?_
           refine rn ?_
           refine qn ?_
           refine Wct rfl ?_
           refine Wseq ?_
           refine Wreg ?_
           refine rs (v := .bool false) (av (v := .bool false) rfl) rfl ?_
           refine rn ?_
           refine qn ?_
           refine Wret ?_
           refine qr ?_
           replace hc := hc.rem 0 rfl rfl
           injection hp with hp; subst hp
           refine f1 (v := .bool false) Try.results6 Try.ntmps6 rfl ?_
           exact ⟨_, rfl, k _ hc⟩
         · rename_i y20
           replace hp := optS hp hb19
           rw [hb19] at hc
           replace hc := Ctx.ptoS hc; obtain ⟨b22, u23, hc⟩ := hc; subst u23
           refine rs (v := .bool false) (epf Try.underlying27 rfl rfl) rfl ?_
           refine rs (v := .bool false) (pkf (v := .bool false) rfl rfl) rfl ?_
           refine rn ?_
           refine qn ?_
           refine Wcf rfl ?_
           refine Wskip ?_
           refine qn ?_
           refine Wseq ?_
           refine Wseq ?_
           refine Wreg ?_
           refine rs (v := .int .i64 0) (av (v := .int .i64 0) rfl) rfl ?_
           refine rn ?_
           refine qn ?_
           refine Wblk ?_
           refine Wloop [6, 11, 54, 55, 56, 57, 58, 59, 60, 61, 62, 63, 64, 65] [11] (fun m vs w' => ∃ j24 : Int, vs = [.int .i64 j24] ∧ law16_LinkEpochs.L1 N x0 x1 x2 y15 y20 m j24 = some r ∧ Ctx w' (S_link_Link.hp b22 y20 :: S_link_Link.hp b17 y15 :: P0 :: P1 :: Fr)) N ?_ ?_
           · exact ⟨0, rfl, hp, hc⟩
           · clear hp hc; intro m vs u w25 hJ
             obtain ⟨j24, rfl, hp, hc⟩ := hJ
             rcases m with _ | m1
             · cases (show none = some r from hp)
             rw [law16_LinkEpochs.L1] at hp
             refine Wseq ?_
             refine Wseq ?_
             refine Wreg ?_
             refine rs (v := .int .i64 j24) (mv (v := .int .i64 j24) rfl) rfl ?_
             refine rs (v := .slice ax0 x0.length qx0) (mv (v := .slice ax0 x0.length qx0) rfl) rfl ?_
             refine rs (v := .int .i64 ((x0.length : Nat) : Int)) (ln rfl Try.underlying51) rfl ?_
             refine rs (v := .bool (decide (j24 < ((x0.length : Nat) : Int)))) (lt' rfl rfl) rfl ?_
             refine rn ?_
             refine qn ?_
             cases hb26 : (decide (j24 < ((x0.length : Nat) : Int)))
             · replace hp := gneg hp (of_decide_eq_false hb26)
               refine Wcf rfl ?_
               refine Wexit ?_
               refine qx ?_
               refine qx ?_
               refine be ?_
               refine qn ?_
               refine Wseq ?_
               refine Wseq ?_
               refine Wreg ?_
               refine rs (v := .int .i64 0) (av (v := .int .i64 0) rfl) rfl ?_
               refine rn ?_
               refine qn ?_
               refine Wblk ?_
               refine Wloop [6, 12, 66, 67, 68, 69, 70, 71, 72, 73, 74, 75, 76, 77] [12] (fun m vs w' => ∃ j27 : Int, vs = [.int .i64 j27] ∧ law16_LinkEpochs.L2 N x0 x1 x2 y15 y20 m j27 = some r ∧ Ctx w' (S_link_Link.hp b22 y20 :: S_link_Link.hp b17 y15 :: P0 :: P1 :: Fr)) N ?_ ?_
               · exact ⟨0, rfl, hp, hc⟩
               · clear hp hc; intro m vs u w28 hJ
                 obtain ⟨j27, rfl, hp, hc⟩ := hJ
                 rcases m with _ | m2
                 · cases (show none = some r from hp)
                 rw [law16_LinkEpochs.L2] at hp
                 refine Wseq ?_
                 refine Wseq ?_
                 refine Wreg ?_
                 refine rs (v := .int .i64 j27) (mv (v := .int .i64 j27) rfl) rfl ?_
                 refine rs (v := .slice ax1 x1.length qx1) (mv (v := .slice ax1 x1.length qx1) rfl) rfl ?_
                 refine rs (v := .int .i64 ((x1.length : Nat) : Int)) (ln rfl Try.underlying51) rfl ?_
                 refine rs (v := .bool (decide (j27 < ((x1.length : Nat) : Int)))) (lt' rfl rfl) rfl ?_
                 refine rn ?_
                 refine qn ?_
                 cases hb29 : (decide (j27 < ((x1.length : Nat) : Int)))
                 · replace hp := gneg hp (of_decide_eq_false hb29)
                   refine Wcf rfl ?_
                   refine Wexit ?_
                   refine qx ?_
                   refine qx ?_
                   refine be ?_
                   refine qn ?_
                   refine Wseq ?_
                   refine Wreg ?_
                   refine rs (v := .int .i64 x2) (mv (v := .int .i64 x2) rfl) rfl ?_
                   refine rs (v := .int .i64 (Int.tmod x2 1000)) (rm rfl rfl (by decide)) rfl ?_
                   refine rs (v := .int .i64 (IntKind.i64.wrap ((Int.tmod x2 1000) + 1000))) (adw rfl rfl) rfl ?_
                   refine rs (v := .int .i64 (Int.tmod (IntKind.i64.wrap ((Int.tmod x2 1000) + 1000)) 1000)) (rm rfl rfl (by decide)) rfl ?_
                   refine rs (v := .int .i64 (IntKind.i64.wrap (1 + (Int.tmod (IntKind.i64.wrap ((Int.tmod x2 1000) + 1000)) 1000)))) (adw rfl rfl) rfl ?_
                   replace hp := bind_some hp; obtain ⟨e30, he30, hp⟩ := hp
                   injection he30 with he30
                   refine rs (v := .int .i64 e30) (av (v := .int .i64 e30) (by rw [← he30]; rfl)) rfl ?_
                   refine rn ?_
                   refine qn ?_
                   refine Wseq ?_
                   refine Wreg ?_
                   refine rs (v := .pointer (some ⟨b17, 0, none⟩)) (mv (v := .pointer (some ⟨b17, 0, none⟩)) rfl) rfl ?_
                   refine rs (v := .slice ax0 x0.length qx0) (mv (v := .slice ax0 x0.length qx0) rfl) rfl ?_
                   replace hp := bind_some hp; obtain ⟨r31, hr31, hp⟩ := hp
                   replace hc := hc.pull 2 rfl rfl
                   replace hc := hc.pull 2 rfl rfl
                   refine rc (cl Try.call13 rfl rfl) rfl ?_
                   refine link_Link_Send_any hrd0 hc hr31 ?_
                   clear hc; intro w32 hc
                   refine rn ?_
                   refine qn ?_
                   refine Wseq ?_
                   refine Wreg ?_
                   refine rs (v := .pointer (some ⟨b17, 0, none⟩)) (mv (v := .pointer (some ⟨b17, 0, none⟩)) rfl) rfl ?_
                   replace hp := bind_some hp; obtain ⟨r33, hr33, hp⟩ := hp
                   refine rc (cl Try.call14 rfl rfl) rfl ?_
                   refine link_Link_Tick_any hc hr33 ?_
                   clear hc; intro a34 n35 q36 w37 hc
                   obtain ⟨u38, _⟩ := Ctx.rdLen hc (k := 0) rfl rfl reads_own; subst u38
                   refine rs (v := .slice a34 r33.1.length q36) (av (v := .slice a34 r33.1.length q36) rfl) rfl ?_
                   refine rn ?_
                   refine qn ?_
                   refine Wseq ?_
                   refine Wseq ?_
                   refine Wreg ?_
                   refine rs (v := .pointer (some ⟨b17, 0, none⟩)) (mv (v := .pointer (some ⟨b17, 0, none⟩)) rfl) rfl ?_
                   refine rs (v := .int .i64 e30) (mv (v := .int .i64 e30) rfl) rfl ?_
                   replace hp := bind_some hp; obtain ⟨r39, hr39, hp⟩ := hp
                   replace hc := hc.pull 1 rfl rfl
                   refine rc (cl Try.call23 rfl rfl) rfl ?_
                   refine link_Link_Reset_any hc hr39 ?_
                   clear hc; intro w40 hc
                   refine rs (v := .bool (decide (r39.1 ≠ 0))) (ned rfl rfl) rfl ?_
                   refine rs (v := .bool (decide (r39.1 ≠ 0))) (mv (v := .bool (decide (r39.1 ≠ 0))) rfl) rfl ?_
                   cases hb41 : (decide (r39.1 ≠ 0))
                   · replace hp := gneg hp (of_decide_eq_false hb41)
                     refine rs (v := .pointer (some ⟨b22, 0, none⟩)) (mv (v := .pointer (some ⟨b22, 0, none⟩)) rfl) rfl ?_
                     refine rs (v := .int .i64 e30) (mv (v := .int .i64 e30) rfl) rfl ?_
                     replace hp := bind_some hp; obtain ⟨r42, hr42, hp⟩ := hp
                     replace hc := hc.pull 3 rfl rfl
                     refine rc (cl Try.call23 rfl rfl) rfl ?_
                     refine link_Link_Reset_any hc hr42 ?_
                     clear hc; intro w43 hc
                     refine rs (v := .bool (decide (r42.1 ≠ 0))) (ned rfl rfl) rfl ?_
                     refine rs (v := .bool (decide (r42.1 ≠ 0))) (pkf (v := .bool (decide (r42.1 ≠ 0))) rfl rfl) rfl ?_
                     refine rs (v := .bool (decide (r42.1 ≠ 0))) (mv (v := .bool (decide (r42.1 ≠ 0))) rfl) rfl ?_
                     cases hb44 : (decide (r42.1 ≠ 0))
                     · replace hp := gneg hp (of_decide_eq_false hb44)
                       refine rs (v := .pointer (some ⟨b17, 0, none⟩)) (mv (v := .pointer (some ⟨b17, 0, none⟩)) rfl) rfl ?_
                       refine rs (v := .int .i64 e30) (mv (v := .int .i64 e30) rfl) rfl ?_
                       replace hp := bind_some hp; obtain ⟨r45, hr45, hp⟩ := hp
                       replace hc := hc.pull 1 rfl rfl
                       refine rc (cl Try.call23 rfl rfl) rfl ?_
                       refine link_Link_Reset_any hc hr45 ?_
                       clear hc; intro w46 hc
                       refine rs (v := .bool (decide (r45.1 ≠ 160))) (ned rfl rfl) rfl ?_
                       refine rs (v := .bool (decide (r45.1 ≠ 160))) (pkf (v := .bool (decide (r45.1 ≠ 160))) rfl rfl) rfl ?_
                       refine rs (v := .bool (decide (r45.1 ≠ 160))) (mv (v := .bool (decide (r45.1 ≠ 160))) rfl) rfl ?_
                       cases hb47 : (decide (r45.1 ≠ 160))
                       · replace hp := gneg hp (of_decide_eq_false hb47)
                         refine rs (v := .pointer (some ⟨b17, 0, none⟩)) (mv (v := .pointer (some ⟨b17, 0, none⟩)) rfl) rfl ?_
                         replace hp := bind_some hp; obtain ⟨r48, hr48, hp⟩ := hp
                         refine rc (cl Try.call10 rfl rfl) rfl ?_
                         refine link_Link_Left_any hc hr48 ?_
                         clear hc; intro w49 hc
                         refine rs (v := .bool (decide (r48 ≠ 0))) (ned rfl rfl) rfl ?_
                         refine rs (v := .bool (decide (r48 ≠ 0))) (pkf (v := .bool (decide (r48 ≠ 0))) rfl rfl) rfl ?_
                         refine rn ?_
                         refine qn ?_
                         cases hb50 : (decide (r48 ≠ 0))
                         · replace hp := gneg hp (of_decide_eq_false hb50)
                           refine Wcf rfl ?_
                           refine Wskip ?_
                           refine qn ?_
                           refine Wseq ?_
                           refine Wseq ?_
                           refine Wreg ?_
                           refine rs (v := .int .i64 0) (av (v := .int .i64 0) rfl) rfl ?_
                           refine rn ?_
                           refine qn ?_
                           refine Wblk ?_
                           refine Wloop (6 :: 15 :: 16 :: 17 :: 109 :: 110 :: 111 :: 112 :: 113 :: 114 :: 115 :: 116 :: 117 :: 118 :: 119 :: 120 :: 121 :: 122 :: 123 :: 124 :: 125 :: 126 :: 127 :: 128 :: 129 :: 130 :: 131 :: 132 :: 133 :: 134 :: 135 :: []) [15] (fun m vs w' => ∃ j51 : S_link_Link, ∃ j52 : Int, vs = [.int .i64 j52] ∧ law16_LinkEpochs.L3 N x1 e30 r33 r45 m j51 j52 = some r ∧ Ctx w' (S_link_Link.hp b17 r45.2 :: S_link_Link.hp b22 j51 :: Own S_api_Seg.pr 46 (.slice a34 r33.1.length q36) r33.1 :: P0 :: P1 :: Fr)) N ?_ ?_
                           · exact ⟨r42.2, 0, rfl, hp, hc⟩
                           · clear hp hc; intro m vs u w53 hJ
                             obtain ⟨j51, j52, rfl, hp, hc⟩ := hJ
                             rcases m with _ | m3
                             · cases (show none = some r from hp)
                             rw [law16_LinkEpochs.L3] at hp
                             refine Wseq ?_
                             refine Wseq ?_
                             refine Wreg ?_
                             refine rs (v := .int .i64 j52) (mv (v := .int .i64 j52) rfl) rfl ?_
                             refine rs (v := .slice a34 r33.1.length q36) (mv (v := .slice a34 r33.1.length q36) rfl) rfl ?_
                             refine rs (v := .int .i64 ((r33.1.length : Nat) : Int)) (ln rfl Try.underlying29) rfl ?_
                             refine rs (v := .bool (decide (j52 < ((r33.1.length : Nat) : Int)))) (lt' rfl rfl) rfl ?_
                             refine rn ?_
                             refine qn ?_
                             cases hb54 : (decide (j52 < ((r33.1.length : Nat) : Int)))
                             · replace hp := gneg hp (of_decide_eq_false hb54)
                               refine Wcf rfl ?_
                               refine Wexit ?_
                               refine qx ?_
                               refine qx ?_
                               refine be ?_
                               refine qn ?_
                               refine Wseq ?_
                               refine Wreg ?_
                               refine rs (v := .pointer (some ⟨b17, 0, none⟩)) (mv (v := .pointer (some ⟨b17, 0, none⟩)) rfl) rfl ?_
                               refine rs (v := .slice ax1 x1.length qx1) (mv (v := .slice ax1 x1.length qx1) rfl) rfl ?_
                               replace hp := bind_some hp; obtain ⟨r55, hr55, hp⟩ := hp
                               replace hc := hc.pull 4 rfl rfl
                               replace hc := hc.pull 1 rfl rfl
                               refine rc (cl Try.call13 rfl rfl) rfl ?_
                               refine link_Link_Send_any hrd1 hc hr55 ?_
                               clear hc; intro w56 hc
                               refine rn ?_
                               refine qn ?_
                               refine Wseq ?_
                               refine Wreg ?_
                               refine rs (v := .slice none 0 0) (av (v := .slice none 0 0) rfl) rfl ?_
                               refine rn ?_
                               refine qn ?_
                               refine Wseq ?_
                               refine Wseq ?_
                               refine Wreg ?_
                               refine rs (v := .int .i64 0) (av (v := .int .i64 0) rfl) rfl ?_
                               refine rn ?_
                               refine qn ?_
                               refine Wblk ?_
                               replace hc := hc.nilOwn (pRo (pInt .u8)) 38
                               replace hc := hc.rem 4 rfl rfl
                               replace hc := hc.pull 4 rfl rfl
                               replace hc := hc.pull 4 rfl rfl
                               replace hc := hc.pull 4 rfl rfl
                               replace hc := hc.pull 4 rfl rfl
                               refine Wloop (6 :: 18 :: 19 :: 20 :: 21 :: 22 :: 23 :: 24 :: 25 :: 26 :: 139 :: 140 :: 141 :: 142 :: 143 :: 144 :: 145 :: 146 :: 147 :: 148 :: 149 :: 150 :: 151 :: 152 :: 153 :: 154 :: 155 :: 156 :: 157 :: 158 :: 159 :: 160 :: 161 :: 162 :: 163 :: 164 :: 165 :: 166 :: 167 :: 168 :: 169 :: 170 :: 171 :: 172 :: 173 :: 174 :: 175 :: 176 :: 177 :: 178 :: 179 :: 180 :: 181 :: 182 :: 183 :: 184 :: 185 :: 186 :: 187 :: 188 :: []) [18, 19] (fun m vs w' => ∃ j57 : S_link_Link, ∃ j58 : S_link_Link, ∃ j59 : (List (List Int)), ∃ j63 : Int, ∃ a60 : Option Addr, ∃ n61 : Nat, ∃ q62 : Nat, vs = [.slice a60 n61 q62, .int .i64 j63] ∧ law16_LinkEpochs.L4 N x1 e30 m j57 j58 j59 j63 = some r ∧ Ctx w' (S_link_Link.hp b17 j57 :: P1 :: S_link_Link.hp b22 j58 :: P0 :: Own (pRo (pInt .u8)) 38 (.slice a60 n61 q62) j59 :: Fr)) N ?_ ?_
                               · exact ⟨r55.2, j51, [], 0, none, 0, 0, rfl, hp, hc⟩
                               · clear hp hc; intro m vs u w64 hJ
                                 obtain ⟨j57, j58, j59, j63, a60, n61, q62, rfl, hp, hc⟩ := hJ
                                 obtain ⟨u65, _⟩ := Ctx.rdLen hc (k := 4) rfl rfl reads_own; subst u65
                                 rcases m with _ | m4
                                 · cases (show none = some r from hp)
                                 rw [law16_LinkEpochs.L4] at hp
                                 refine Wseq ?_
                                 refine Wseqm [139, 140, 141, 142, 143, 144, 145] [145] (fun vs w' => ∃ j66 : Bool, vs = [.bool j66] ∧ law16_LinkEpochs.J5 N x1 e30 j57 j58 j59 j63 (law16_LinkEpochs.L4 N x1 e30 m4) j66 = some r ∧ Ctx w' (S_link_Link.hp b17 j57 :: P1 :: S_link_Link.hp b22 j58 :: P0 :: Own (pRo (pInt .u8)) 38 (.slice a60 j59.length q62) j59 :: Fr)) ?_ ?_
                                 · refine Wreg ?_
                                   refine rs (v := .int .i64 j63) (mv (v := .int .i64 j63) rfl) rfl ?_
                                   refine rs (v := .bool (decide (j63 < 200))) (lt' rfl rfl) rfl ?_
                                   refine rs (v := .bool (decide (j63 < 200))) (mv (v := .bool (decide (j63 < 200))) rfl) rfl ?_
                                   cases hb67 : (decide (j63 < 200))
                                   · replace hp := gneg hp (of_decide_eq_false hb67)
                                     refine r0 rfl ?_
                                     refine r0 rfl ?_
                                     refine r0 rfl ?_
                                     refine rs (v := .bool false) (pkf (v := .bool false) rfl rfl) rfl ?_
                                     refine rn ?_
                                     refine qn ?_
                                     exact ⟨⟨false, rfl, hp, hc⟩, (kl rfl kb)⟩
                                   · replace hp := gpos hp (of_decide_eq_true hb67)
                                     refine rs (v := .pointer (some ⟨b17, 0, none⟩)) (mv (v := .pointer (some ⟨b17, 0, none⟩)) rfl) rfl ?_
                                     replace hp := bind_some hp; obtain ⟨r68, hr68, hp⟩ := hp
                                     refine rc (cl Try.call10 rfl rfl) rfl ?_
                                     refine link_Link_Left_any hc hr68 ?_
                                     clear hc; intro w69 hc
                                     refine rs (v := .bool (decide (r68 > 0))) (gt' rfl rfl) rfl ?_
                                     refine rs (v := .bool (decide (r68 > 0))) (pkt (v := .bool (decide (r68 > 0))) rfl rfl) rfl ?_
                                     refine rn ?_
                                     refine qn ?_
                                     exact ⟨⟨decide (r68 > 0), rfl, hp, hc⟩, (kl rfl kb)⟩
                                 · clear hp hc; intro vs u w70 hJ
                                   obtain ⟨j66, rfl, hp, hc⟩ := hJ
                                   unfold law16_LinkEpochs.J5 at hp
                                   cases hb71 : j66
                                   · replace hp := gneg hp (by rw [hb71]; exact Bool.false_ne_true)
                                     subst hb71
                                     refine Wcf rfl ?_
                                     refine Wexit ?_
                                     refine qx ?_
                                     refine qx ?_
                                     refine be ?_
                                     refine qn ?_
                                     refine Wseq ?_
                                     refine Wreg ?_
                                     refine rs (v := .slice a60 j59.length q62) (mv (v := .slice a60 j59.length q62) rfl) rfl ?_
                                     refine rs (v := .slice ax1 x1.length qx1) (mv (v := .slice ax1 x1.length qx1) rfl) rfl ?_
                                     replace hp := bind_some hp; obtain ⟨r72, hr72, hp⟩ := hp
                                     replace hc := hc.pull 1 rfl rfl
                                     replace hc := hc.pull 4 rfl rfl
                                     refine rc (cl Try.call22 rfl rfl) rfl ?_
                                     refine law16_bodies_any reads_own hrd1 hc hr72 ?_
                                     clear hc; intro w73 hc
                                     refine rs (v := .bool r72) (mv (v := .bool r72) rfl) rfl ?_
                                     cases hb74 : r72
                                     · replace hp := gneg hp (by rw [hb74]; exact Bool.false_ne_true)
                                       subst hb74
                                       refine r0 rfl ?_
                                       refine r0 rfl ?_
                                       refine r0 rfl ?_
                                       refine r0 rfl ?_
                                       refine r0 rfl ?_
                                       refine rs (v := .bool false) (pkf (v := .bool false) rfl rfl) rfl ?_
                                       refine rs (v := .bool false) (mv (v := .bool false) rfl) rfl ?_
                                       refine r0 rfl ?_
                                       refine r0 rfl ?_
                                       refine r0 rfl ?_
                                       refine r0 rfl ?_
                                       refine rs (v := .bool false) (pkf (v := .bool false) rfl rfl) rfl ?_
                                       refine rs (v := .bool false) (av (v := .bool false) rfl) rfl ?_
                                       refine rn ?_
                                       refine qn ?_
                                       refine Wret ?_
                                       replace hc := hc.rem 3 rfl rfl
                                       replace hc := hc.rem 2 rfl rfl
                                       replace hc := hc.rem 0 rfl rfl
                                       replace hc := hc.pull 1 rfl rfl
                                       injection hp with hp; subst hp
                                       refine f1 (v := .bool false) Try.results6 Try.ntmps6 rfl ?_
                                       exact ⟨_, rfl, k _ hc⟩
                                     · replace hp := gpos hp hb74
                                       subst hb74
                                       refine rs (v := .pointer (some ⟨b22, 0, none⟩)) (mv (v := .pointer (some ⟨b22, 0, none⟩)) rfl) rfl ?_
                                       replace hp := bind_some hp; obtain ⟨r75, hr75, hp⟩ := hp
                                       replace hc := hc.pull 3 rfl rfl
                                       refine rc (cl Try.call25 rfl rfl) rfl ?_
                                       refine link_Link_Got_any hc hr75 ?_
                                       clear hc; intro w76 hc
                                       refine rs (v := .slice ax1 x1.length qx1) (mv (v := .slice ax1 x1.length qx1) rfl) rfl ?_
                                       refine rs (v := .int .i64 ((x1.length : Nat) : Int)) (ln rfl Try.underlying51) rfl ?_
                                       refine rs (v := .bool (decide (r75 = ((x1.length : Nat) : Int)))) (eqd rfl rfl) rfl ?_
                                       refine rs (v := .bool (decide (r75 = ((x1.length : Nat) : Int)))) (pkt (v := .bool (decide (r75 = ((x1.length : Nat) : Int)))) rfl rfl) rfl ?_
                                       refine rs (v := .bool (decide (r75 = ((x1.length : Nat) : Int)))) (mv (v := .bool (decide (r75 = ((x1.length : Nat) : Int)))) rfl) rfl ?_
                                       cases hb77 : (decide (r75 = ((x1.length : Nat) : Int)))
                                       · replace hp := gneg hp (of_decide_eq_false hb77)
                                         refine r0 rfl ?_
                                         refine r0 rfl ?_
                                         refine r0 rfl ?_
                                         refine r0 rfl ?_
                                         refine rs (v := .bool false) (pkf (v := .bool false) rfl rfl) rfl ?_
                                         refine rs (v := .bool false) (av (v := .bool false) rfl) rfl ?_
                                         refine rn ?_
                                         refine qn ?_
                                         refine Wret ?_
                                         replace hc := hc.rem 3 rfl rfl
                                         replace hc := hc.rem 1 rfl rfl
                                         replace hc := hc.rem 0 rfl rfl
                                         replace hc := hc.pull 1 rfl rfl
                                         injection hp with hp; subst hp
                                         refine f1 (v := .bool false) Try.results6 Try.ntmps6 rfl ?_
                                         exact ⟨_, rfl, k _ hc⟩
                                       · replace hp := gpos hp (of_decide_eq_true hb77)
                                         refine rs (v := .pointer (some ⟨b17, 0, none⟩)) (mv (v := .pointer (some ⟨b17, 0, none⟩)) rfl) rfl ?_
                                         replace hp := bind_some hp; obtain ⟨r78, hr78, hp⟩ := hp
                                         replace hc := hc.pull 3 rfl rfl
                                         refine rc (cl Try.call26 rfl rfl) rfl ?_
                                         refine link_Link_Epoch_any hc hr78 ?_
                                         clear hc; intro w79 hc
                                         refine rs (v := .int .i64 e30) (mv (v := .int .i64 e30) rfl) rfl ?_
                                         refine rs (v := .bool (decide (r78 = e30))) (eqd rfl rfl) rfl ?_
                                         refine rs (v := .bool (decide (r78 = e30))) (pkt (v := .bool (decide (r78 = e30))) rfl rfl) rfl ?_
                                         refine rs (v := .bool (decide (r78 = e30))) (av (v := .bool (decide (r78 = e30))) rfl) rfl ?_
                                         refine rn ?_
                                         refine qn ?_
                                         refine Wret ?_
                                         replace hc := hc.rem 2 rfl rfl
                                         replace hc := hc.rem 1 rfl rfl
                                         replace hc := hc.rem 0 rfl rfl
                                         replace hc := hc.pull 1 rfl rfl
                                         injection hp with hp; subst hp
                                         refine f1 (v := .bool (decide (r78 = e30))) Try.results6 Try.ntmps6 rfl ?_
                                         exact ⟨_, rfl, k _ hc⟩
                                   · replace hp := gpos hp hb71
                                     subst hb71
                                     refine Wct rfl ?_
                                     refine Wskip ?_
                                     refine qn ?_
                                     refine Wseq ?_
                                     refine Wblk ?_
                                     refine Wseq ?_
                                     refine Wreg ?_
                                     refine rs (v := .pointer (some ⟨b17, 0, none⟩)) (mv (v := .pointer (some ⟨b17, 0, none⟩)) rfl) rfl ?_
                                     replace hp := bind_some hp; obtain ⟨r80, hr80, hp⟩ := hp
                                     refine rc (cl Try.call14 rfl rfl) rfl ?_
                                     refine link_Link_Tick_any hc hr80 ?_
                                     clear hc; intro a81 n82 q83 w84 hc
                                     obtain ⟨u85, _⟩ := Ctx.rdLen hc (k := 0) rfl rfl reads_own; subst u85
                                     refine rs (v := .slice a81 r80.1.length q83) (av (v := .slice a81 r80.1.length q83) rfl) rfl ?_
                                     refine rn ?_
                                     refine qn ?_
                                     refine Wseq ?_
                                     refine Wseq ?_
                                     refine Wreg ?_
                                     refine rs (v := .int .i64 0) (av (v := .int .i64 0) rfl) rfl ?_
                                     refine rn ?_
                                     refine qn ?_
                                     refine Wblk ?_
                                     refine Wloop [6, 18, 21, 22, 23, 150, 151, 152, 153, 154, 155, 156, 157, 158, 159, 160, 161, 162, 163, 164, 165, 166, 167, 168, 169] [18, 21] (fun m vs w' => ∃ j86 : S_link_Link, ∃ j87 : (List (List Int)), ∃ j91 : Int, ∃ a88 : Option Addr, ∃ n89 : Nat, ∃ q90 : Nat, vs = [.slice a88 n89 q90, .int .i64 j91] ∧ law16_LinkEpochs.L6 N j63 r80 (law16_LinkEpochs.L4 N x1 e30 m4) m j86 j87 j91 = some r ∧ Ctx w' (Own S_api_Seg.pr 46 (.slice a81 r80.1.length q83) r80.1 :: S_link_Link.hp b17 r80.2 :: P1 :: S_link_Link.hp b22 j86 :: P0 :: Own (pRo (pInt .u8)) 38 (.slice a88 n89 q90) j87 :: Fr)) N ?_ ?_
                                     · exact ⟨j58, j59, 0, a60, j59.length, q62, rfl, hp, hc⟩
                                     · clear hp hc; intro m vs u w92 hJ
                                       obtain ⟨j86, j87, j91, a88, n89, q90, rfl, hp, hc⟩ := hJ
                                       obtain ⟨u93, _⟩ := Ctx.rdLen hc (k := 5) rfl rfl reads_own; subst u93
                                       rcases m with _ | m6
                                       · cases (show none = some r from hp)
                                       rw [law16_LinkEpochs.L6] at hp
                                       refine Wseq ?_
                                       refine Wseq ?_
                                       refine Wreg ?_
                                       refine rs (v := .int .i64 j91) (mv (v := .int .i64 j91) rfl) rfl ?_
                                       refine rs (v := .slice a81 r80.1.length q83) (mv (v := .slice a81 r80.1.length q83) rfl) rfl ?_
                                       refine rs (v := .int .i64 ((r80.1.length : Nat) : Int)) (ln rfl Try.underlying29) rfl ?_
                                       refine rs (v := .bool (decide (j91 < ((r80.1.length : Nat) : Int)))) (lt' rfl rfl) rfl ?_
                                       refine rn ?_
                                       refine qn ?_
                                       cases hb94 : (decide (j91 < ((r80.1.length : Nat) : Int)))
                                       · replace hp := gneg hp (of_decide_eq_false hb94)
                                         refine Wcf rfl ?_
                                         refine Wexit ?_
                                         refine qx ?_
                                         refine qx ?_
                                         refine be ?_
                                         refine qn ?_
                                         refine Wseq ?_
                                         refine Wreg ?_
                                         refine rs (v := .pointer (some ⟨b22, 0, none⟩)) (mv (v := .pointer (some ⟨b22, 0, none⟩)) rfl) rfl ?_
                                         replace hp := bind_some hp; obtain ⟨r95, hr95, hp⟩ := hp
                                         replace hc := hc.pull 3 rfl rfl
                                         refine rc (cl Try.call14 rfl rfl) rfl ?_
                                         refine link_Link_Tick_any hc hr95 ?_
                                         clear hc; intro a96 n97 q98 w99 hc
                                         obtain ⟨u100, _⟩ := Ctx.rdLen hc (k := 0) rfl rfl reads_own; subst u100
                                         refine rs (v := .slice a96 r95.1.length q98) (av (v := .slice a96 r95.1.length q98) rfl) rfl ?_
                                         refine rn ?_
                                         refine qn ?_
                                         refine Wseq ?_
                                         refine Wreg ?_
                                         refine rs (v := .int .i64 0) (av (v := .int .i64 0) rfl) rfl ?_
                                         refine rn ?_
                                         refine qn ?_
                                         refine Wblk ?_
                                         replace hc := hc.rem 2 rfl rfl
                                         refine Wloop [6, 24, 25, 26, 172, 173, 174, 175, 176, 177, 178, 179, 180, 181, 182, 183, 184, 185, 186, 187, 188] [24] (fun m vs w' => ∃ j101 : S_link_Link, ∃ j102 : Int, vs = [.int .i64 j102] ∧ law16_LinkEpochs.L7 N j63 j87 r95 (law16_LinkEpochs.L4 N x1 e30 m4) m j101 j102 = some r ∧ Ctx w' (Own S_api_Seg.pr 46 (.slice a96 r95.1.length q98) r95.1 :: S_link_Link.hp b22 r95.2 :: S_link_Link.hp b17 j101 :: P1 :: P0 :: Own (pRo (pInt .u8)) 38 (.slice a88 j87.length q90) j87 :: Fr)) N ?_ ?_
                                         · exact ⟨r80.2, 0, rfl, hp, hc⟩
                                         · clear hp hc; intro m vs u w103 hJ
                                           obtain ⟨j101, j102, rfl, hp, hc⟩ := hJ
                                           rcases m with _ | m7
                                           · cases (show none = some r from hp)
                                           rw [law16_LinkEpochs.L7] at hp
                                           refine Wseq ?_
                                           refine Wseq ?_
                                           refine Wreg ?_
                                           refine rs (v := .int .i64 j102) (mv (v := .int .i64 j102) rfl) rfl ?_
                                           refine rs (v := .slice a96 r95.1.length q98) (mv (v := .slice a96 r95.1.length q98) rfl) rfl ?_
                                           refine rs (v := .int .i64 ((r95.1.length : Nat) : Int)) (ln rfl Try.underlying29) rfl ?_
                                           refine rs (v := .bool (decide (j102 < ((r95.1.length : Nat) : Int)))) (lt' rfl rfl) rfl ?_
                                           refine rn ?_
                                           refine qn ?_
                                           cases hb104 : (decide (j102 < ((r95.1.length : Nat) : Int)))
                                           · replace hp := gneg hp (of_decide_eq_false hb104)
                                             refine Wcf rfl ?_
                                             refine Wexit ?_
                                             refine qx ?_
                                             refine qx ?_
                                             refine be ?_
                                             refine bn ?_
                                             refine qn ?_
                                             refine Wreg ?_
                                             refine rs (v := .int .i64 j63) (mv (v := .int .i64 j63) rfl) rfl ?_
                                             refine rs (v := .int .i64 (IntKind.i64.wrap (j63 + 1))) (adw rfl rfl) rfl ?_
                                             refine rs (v := .int .i64 (IntKind.i64.wrap (j63 + 1))) (av (v := .int .i64 (IntKind.i64.wrap (j63 + 1))) rfl) rfl ?_
                                             refine rn ?_
                                             refine qn ?_
                                             replace hc := hc.rem 0 rfl rfl
                                             replace hc := hc.pull 4 rfl rfl
                                             replace hc := hc.pull 4 rfl rfl
                                             replace hc := hc.pull 2 rfl rfl
                                             replace hc := hc.pull 4 rfl rfl
                                             replace hc := hc.pull 4 rfl rfl
                                             exact ⟨m4, Nat.lt_succ_self _, ⟨j101, r95.2, j87, (IntKind.i64.wrap (j63 + 1)), a88, j87.length, q90, rfl, hp, hc⟩, (kl rfl (km rfl (kl rfl (km rfl (kl rfl (km rfl (kl rfl k0)))))))⟩
                                           · replace hp := gpos hp (of_decide_eq_true hb104)
                                             refine Wct rfl ?_
                                             refine Wskip ?_
                                             refine qn ?_
                                             refine Wseq ?_
                                             refine Wblk ?_
                                             refine Wseq ?_
                                             refine Wreg ?_
                                             refine rs (v := .pointer (some ⟨b17, 0, none⟩)) (mv (v := .pointer (some ⟨b17, 0, none⟩)) rfl) rfl ?_
                                             refine rs (v := .slice a96 r95.1.length q98) (mv (v := .slice a96 r95.1.length q98) rfl) rfl ?_
                                             refine rs (v := .int .i64 j102) (mv (v := .int .i64 j102) rfl) rfl ?_
                                             replace hp := bind_some hp; obtain ⟨y105, hy105, hp⟩ := hp
                                             obtain ⟨b108, o109, u110, hi106, hi107⟩ := Ctx.rdAt hc (k := 0) rfl rfl reads_own hy105
                                             subst u110
                                             refine rs (v := .pointer (some ⟨b108, o109 + (j102).toNat * 4, none⟩)) (ixx rfl rfl Try.underlying29 Try.sizeOf46 hi106 hi107 rfl) rfl ?_
                                             replace hc := Ctx.rdCell hc (k := 0) rfl rfl reads_own hy105; obtain ⟨cs111, hc, hcell112⟩ := hc
                                             replace hc := S_api_Seg.op hc; obtain ⟨a114, q115, u113, hc⟩ := hc; subst u113
                                             refine rs (v := .agg #[.int .i64 y105.Epoch, .int .i64 y105.Seq, .int .i64 y105.Ack, .slice a114 y105.Body.length q115]) (ldg rfl Try.isAgg46 Try.sizeOf46 rfl (elCells hcell112 0 (vs := [.int .i64 y105.Epoch, .int .i64 y105.Seq, .int .i64 y105.Ack, .slice a114 y105.Body.length q115]) rfl)) rfl ?_
                                             replace hc := hc.dup (k := 0) rfl rfl
                                             replace hp := bind_some hp; obtain ⟨r116, hr116, hp⟩ := hp
                                             replace hc := hc.pull 4 rfl rfl
                                             refine rc (cl Try.call15 rfl rfl) rfl ?_
                                             refine link_Link_Hear_any hc hr116 ?_
                                             clear hc; intro a117 n118 q119 w120 hc
                                             obtain ⟨u121, _⟩ := Ctx.rdLen hc (k := 0) rfl rfl reads_own; subst u121
                                             refine rs (v := .tuple #[.slice a117 r116.1.length q119, .int .i64 r116.2.1]) (mv (v := .tuple #[.slice a117 r116.1.length q119, .int .i64 r116.2.1]) rfl) rfl ?_
                                             refine rs (v := .slice a117 r116.1.length q119) (ext (v := .slice a117 r116.1.length q119) rfl rfl) rfl ?_
                                             refine rs (v := .int .i64 r116.2.1) (ext (v := .int .i64 r116.2.1) rfl rfl) rfl ?_
                                             refine rs (v := .slice a117 r116.1.length q119) (av (v := .slice a117 r116.1.length q119) rfl) rfl ?_
                                             refine rs (v := .int .i64 r116.2.1) (av (v := .int .i64 r116.2.1) rfl) rfl ?_
                                             refine rn ?_
                                             refine qn ?_
                                             refine Wseq ?_
                                             refine Wreg ?_
                                             refine rs (v := .int .i64 r116.2.1) (mv (v := .int .i64 r116.2.1) rfl) rfl ?_
                                             refine rs (v := .bool (decide (r116.2.1 ≠ 0))) (ned rfl rfl) rfl ?_
                                             refine rn ?_
                                             refine qn ?_
                                             cases hb122 : (decide (r116.2.1 ≠ 0))
                                             · replace hp := gneg hp (of_decide_eq_false hb122)
                                               refine Wcf rfl ?_
                                               refine Wskip ?_
                                               refine bn ?_
                                               refine qn ?_
                                               refine Wreg ?_
                                               refine rs (v := .int .i64 j102) (mv (v := .int .i64 j102) rfl) rfl ?_
                                               refine rs (v := .int .i64 (IntKind.i64.wrap (j102 + 1))) (adw rfl rfl) rfl ?_
                                               refine rs (v := .int .i64 (IntKind.i64.wrap (j102 + 1))) (av (v := .int .i64 (IntKind.i64.wrap (j102 + 1))) rfl) rfl ?_
                                               refine rn ?_
                                               refine qn ?_
                                               replace hc := hc.rem 2 rfl rfl
                                               replace hc := hc.rem 0 rfl rfl
                                               replace hc := hc.pull 5 rfl rfl
                                               replace hc := hc.pull 5 rfl rfl
                                               replace hc := hc.pull 5 rfl rfl
                                               replace hc := hc.pull 3 rfl rfl
                                               replace hc := hc.pull 5 rfl rfl
                                               replace hc := hc.pull 5 rfl rfl
                                               exact ⟨m7, Nat.lt_succ_self _, ⟨r116.2.2, (IntKind.i64.wrap (j102 + 1)), rfl, hp, hc⟩, (kl rfl k0)⟩
                                             · replace hp := gpos hp (of_decide_eq_true hb122)
                                               refine Wct rfl ?_
                                               refine Wseq ?_
                                               refine Wreg ?_
                                               refine rs (v := .bool false) (av (v := .bool false) rfl) rfl ?_
                                               refine rn ?_
                                               refine qn ?_
                                               refine Wret ?_
                                               refine br ?_
                                               refine qr ?_
                                               refine qr ?_
                                               refine br ?_
                                               refine br ?_
                                               refine qr ?_
                                               refine qr ?_
                                               refine br ?_
                                               refine qr ?_
                                               replace hc := hc.rem 7 rfl rfl
                                               replace hc := hc.rem 4 rfl rfl
                                               replace hc := hc.rem 3 rfl rfl
                                               replace hc := hc.rem 2 rfl rfl
                                               replace hc := hc.rem 1 rfl rfl
                                               replace hc := hc.rem 0 rfl rfl
                                               replace hc := hc.pull 1 rfl rfl
                                               injection hp with hp; subst hp
                                               refine f1 (v := .bool false) Try.results6 Try.ntmps6 rfl ?_
                                               exact ⟨_, rfl, k _ hc⟩
                                       · replace hp := gpos hp (of_decide_eq_true hb94)
                                         refine Wct rfl ?_
                                         refine Wskip ?_
                                         refine qn ?_
                                         refine Wseq ?_
                                         refine Wblk ?_
                                         refine Wseq ?_
                                         refine Wreg ?_
                                         refine rs (v := .pointer (some ⟨b22, 0, none⟩)) (mv (v := .pointer (some ⟨b22, 0, none⟩)) rfl) rfl ?_
                                         refine rs (v := .slice a81 r80.1.length q83) (mv (v := .slice a81 r80.1.length q83) rfl) rfl ?_
                                         refine rs (v := .int .i64 j91) (mv (v := .int .i64 j91) rfl) rfl ?_
                                         replace hp := bind_some hp; obtain ⟨y123, hy123, hp⟩ := hp
                                         obtain ⟨b126, o127, u128, hi124, hi125⟩ := Ctx.rdAt hc (k := 0) rfl rfl reads_own hy123
                                         subst u128
                                         refine rs (v := .pointer (some ⟨b126, o127 + (j91).toNat * 4, none⟩)) (ixx rfl rfl Try.underlying29 Try.sizeOf46 hi124 hi125 rfl) rfl ?_
                                         replace hc := Ctx.rdCell hc (k := 0) rfl rfl reads_own hy123; obtain ⟨cs129, hc, hcell130⟩ := hc
                                         replace hc := S_api_Seg.op hc; obtain ⟨a132, q133, u131, hc⟩ := hc; subst u131
                                         refine rs (v := .agg #[.int .i64 y123.Epoch, .int .i64 y123.Seq, .int .i64 y123.Ack, .slice a132 y123.Body.length q133]) (ldg rfl Try.isAgg46 Try.sizeOf46 rfl (elCells hcell130 0 (vs := [.int .i64 y123.Epoch, .int .i64 y123.Seq, .int .i64 y123.Ack, .slice a132 y123.Body.length q133]) rfl)) rfl ?_
                                         replace hc := hc.dup (k := 0) rfl rfl
                                         replace hp := bind_some hp; obtain ⟨r134, hr134, hp⟩ := hp
                                         replace hc := hc.pull 5 rfl rfl
                                         refine rc (cl Try.call15 rfl rfl) rfl ?_
                                         refine link_Link_Hear_any hc hr134 ?_
                                         clear hc; intro a135 n136 q137 w138 hc
                                         obtain ⟨u139, _⟩ := Ctx.rdLen hc (k := 0) rfl rfl reads_own; subst u139
                                         refine rs (v := .tuple #[.slice a135 r134.1.length q137, .int .i64 r134.2.1]) (mv (v := .tuple #[.slice a135 r134.1.length q137, .int .i64 r134.2.1]) rfl) rfl ?_
                                         refine rs (v := .slice a135 r134.1.length q137) (ext (v := .slice a135 r134.1.length q137) rfl rfl) rfl ?_
                                         refine rs (v := .int .i64 r134.2.1) (ext (v := .int .i64 r134.2.1) rfl rfl) rfl ?_
                                         refine rs (v := .slice a135 r134.1.length q137) (av (v := .slice a135 r134.1.length q137) rfl) rfl ?_
                                         refine rs (v := .int .i64 r134.2.1) (av (v := .int .i64 r134.2.1) rfl) rfl ?_
                                         refine rn ?_
                                         refine qn ?_
                                         refine Wseq ?_
                                         refine Wseq ?_
                                         refine Wreg ?_
                                         refine rs (v := .int .i64 r134.2.1) (mv (v := .int .i64 r134.2.1) rfl) rfl ?_
                                         refine rs (v := .bool (decide (r134.2.1 ≠ 0))) (ned rfl rfl) rfl ?_
                                         refine rn ?_
                                         refine qn ?_
                                         cases hb140 : (decide (r134.2.1 ≠ 0))
                                         · replace hp := gneg hp (of_decide_eq_false hb140)
                                           refine Wcf rfl ?_
                                           refine Wskip ?_
                                           refine qn ?_
                                           refine Wreg ?_
                                           refine rs (v := .slice a88 j87.length q90) (mv (v := .slice a88 j87.length q90) rfl) rfl ?_
                                           refine rs (v := .slice a135 r134.1.length q137) (mv (v := .slice a135 r134.1.length q137) rfl) rfl ?_
                                           replace hp := bind_some hp; obtain ⟨z141, hz141, hp⟩ := hp
                                           obtain ⟨hg142, e143⟩ := app_some hz141
                                           refine rsE (Ctx.append hc (k := 7) rfl rfl (k2 := 0) rfl rfl reads_own Try.underlying51 (i := Try.t38) rfl rfl rfl rfl rfl rfl rfl rfl hg142) rfl ?_
                                           clear hc; rintro _ w146 ⟨a144, q145, rfl, hc⟩
                                           rw [← e143] at hc ⊢
                                           refine rs (v := .slice a144 z141.length q145) (av (v := .slice a144 z141.length q145) rfl) rfl ?_
                                           refine rn ?_
                                           refine bn ?_
                                           refine qn ?_
                                           refine Wreg ?_
                                           refine rs (v := .int .i64 j91) (mv (v := .int .i64 j91) rfl) rfl ?_
                                           refine rs (v := .int .i64 (IntKind.i64.wrap (j91 + 1))) (adw rfl rfl) rfl ?_
                                           refine rs (v := .int .i64 (IntKind.i64.wrap (j91 + 1))) (av (v := .int .i64 (IntKind.i64.wrap (j91 + 1))) rfl) rfl ?_
                                           refine rn ?_
                                           refine qn ?_
                                           replace hc := hc.rem 2 rfl rfl
                                           replace hc := hc.rem 0 rfl rfl
                                           replace hc := hc.pull 5 rfl rfl
                                           replace hc := hc.pull 5 rfl rfl
                                           replace hc := hc.pull 2 rfl rfl
                                           replace hc := hc.pull 5 rfl rfl
                                           replace hc := hc.pull 5 rfl rfl
                                           replace hc := hc.pull 5 rfl rfl
                                           exact ⟨m6, Nat.lt_succ_self _, ⟨r134.2.2, z141, (IntKind.i64.wrap (j91 + 1)), a144, z141.length, q145, rfl, hp, hc⟩, (kl rfl k0)⟩
                                         · replace hp := gpos hp (of_decide_eq_true hb140)
                                           refine Wct rfl ?_
                                           refine Wseq ?_
                                           refine Wreg ?_
                                           refine rs (v := .bool false) (av (v := .bool false) rfl) rfl ?_
                                           refine rn ?_
                                           refine qn ?_
                                           refine Wret ?_
                                           refine qr ?_
                                           refine br ?_
                                           refine qr ?_
                                           refine qr ?_
                                           refine br ?_
                                           refine qr ?_
                                           refine br ?_
                                           refine qr ?_
                                           refine qr ?_
                                           refine br ?_
                                           refine qr ?_
                                           replace hc := hc.rem 7 rfl rfl
                                           replace hc := hc.rem 4 rfl rfl
                                           replace hc := hc.rem 3 rfl rfl
                                           replace hc := hc.rem 2 rfl rfl
                                           replace hc := hc.rem 1 rfl rfl
                                           replace hc := hc.rem 0 rfl rfl
                                           replace hc := hc.pull 1 rfl rfl
                                           injection hp with hp; subst hp
                                           refine f1 (v := .bool false) Try.results6 Try.ntmps6 rfl ?_
                                           exact ⟨_, rfl, k _ hc⟩
                             · replace hp := gpos hp (of_decide_eq_true hb54)
                               refine Wct rfl ?_
                               refine Wskip ?_
                               refine qn ?_
                               refine Wseq ?_
                               refine Wblk ?_
                               refine Wseq ?_
                               refine Wreg ?_
                               refine rs (v := .pointer (some ⟨b22, 0, none⟩)) (mv (v := .pointer (some ⟨b22, 0, none⟩)) rfl) rfl ?_
                               refine rs (v := .slice a34 r33.1.length q36) (mv (v := .slice a34 r33.1.length q36) rfl) rfl ?_
                               refine rs (v := .int .i64 j52) (mv (v := .int .i64 j52) rfl) rfl ?_
                               replace hp := bind_some hp; obtain ⟨y147, hy147, hp⟩ := hp
                               obtain ⟨b150, o151, u152, hi148, hi149⟩ := Ctx.rdAt hc (k := 2) rfl rfl reads_own hy147
                               subst u152
                               refine rs (v := .pointer (some ⟨b150, o151 + (j52).toNat * 4, none⟩)) (ixx rfl rfl Try.underlying29 Try.sizeOf46 hi148 hi149 rfl) rfl ?_
                               replace hc := Ctx.rdCell hc (k := 2) rfl rfl reads_own hy147; obtain ⟨cs153, hc, hcell154⟩ := hc
                               replace hc := S_api_Seg.op hc; obtain ⟨a156, q157, u155, hc⟩ := hc; subst u155
                               refine rs (v := .agg #[.int .i64 y147.Epoch, .int .i64 y147.Seq, .int .i64 y147.Ack, .slice a156 y147.Body.length q157]) (ldg rfl Try.isAgg46 Try.sizeOf46 rfl (elCells hcell154 0 (vs := [.int .i64 y147.Epoch, .int .i64 y147.Seq, .int .i64 y147.Ack, .slice a156 y147.Body.length q157]) rfl)) rfl ?_
                               replace hc := hc.dup (k := 0) rfl rfl
                               replace hp := bind_some hp; obtain ⟨r158, hr158, hp⟩ := hp
                               replace hc := hc.pull 3 rfl rfl
                               refine rc (cl Try.call15 rfl rfl) rfl ?_
                               refine link_Link_Hear_any hc hr158 ?_
                               clear hc; intro a159 n160 q161 w162 hc
                               obtain ⟨u163, _⟩ := Ctx.rdLen hc (k := 0) rfl rfl reads_own; subst u163
                               refine rs (v := .tuple #[.slice a159 r158.1.length q161, .int .i64 r158.2.1]) (mv (v := .tuple #[.slice a159 r158.1.length q161, .int .i64 r158.2.1]) rfl) rfl ?_
                               refine rs (v := .slice a159 r158.1.length q161) (ext (v := .slice a159 r158.1.length q161) rfl rfl) rfl ?_
                               refine rs (v := .int .i64 r158.2.1) (ext (v := .int .i64 r158.2.1) rfl rfl) rfl ?_
                               refine rs (v := .slice a159 r158.1.length q161) (av (v := .slice a159 r158.1.length q161) rfl) rfl ?_
                               refine rs (v := .int .i64 r158.2.1) (av (v := .int .i64 r158.2.1) rfl) rfl ?_
                               refine rn ?_
                               refine qn ?_
                               refine Wseq ?_
                               refine Wreg ?_
                               refine rs (v := .int .i64 r158.2.1) (mv (v := .int .i64 r158.2.1) rfl) rfl ?_
                               refine rs (v := .bool (decide (r158.2.1 ≠ 160))) (ned rfl rfl) rfl ?_
                               refine rs (v := .bool (decide (r158.2.1 ≠ 160))) (mv (v := .bool (decide (r158.2.1 ≠ 160))) rfl) rfl ?_
                               cases hb164 : (decide (r158.2.1 ≠ 160))
                               · replace hp := gneg hp (of_decide_eq_false hb164)
                                 refine rs (v := .slice a159 r158.1.length q161) (mv (v := .slice a159 r158.1.length q161) rfl) rfl ?_
                                 refine rs (v := .int .i64 ((r158.1.length : Nat) : Int)) (ln rfl Try.underlying51) rfl ?_
                                 refine rs (v := .bool (decide (((r158.1.length : Nat) : Int) ≠ 0))) (ned rfl rfl) rfl ?_
                                 refine rs (v := .bool (decide (((r158.1.length : Nat) : Int) ≠ 0))) (pkf (v := .bool (decide (((r158.1.length : Nat) : Int) ≠ 0))) rfl rfl) rfl ?_
                                 refine rs (v := .bool (decide (((r158.1.length : Nat) : Int) ≠ 0))) (mv (v := .bool (decide (((r158.1.length : Nat) : Int) ≠ 0))) rfl) rfl ?_
                                 cases hb165 : (decide (((r158.1.length : Nat) : Int) ≠ 0))
                                 · replace hp := gneg hp (of_decide_eq_false hb165)
                                   refine rs (v := .pointer (some ⟨b22, 0, none⟩)) (mv (v := .pointer (some ⟨b22, 0, none⟩)) rfl) rfl ?_
                                   replace hp := bind_some hp; obtain ⟨r166, hr166, hp⟩ := hp
                                   replace hc := hc.pull 1 rfl rfl
                                   refine rc (cl Try.call25 rfl rfl) rfl ?_
                                   refine link_Link_Got_any hc hr166 ?_
                                   clear hc; intro w167 hc
                                   refine rs (v := .bool (decide (r166 ≠ 0))) (ned rfl rfl) rfl ?_
                                   refine rs (v := .bool (decide (r166 ≠ 0))) (pkf (v := .bool (decide (r166 ≠ 0))) rfl rfl) rfl ?_
                                   refine rn ?_
                                   refine qn ?_
                                   cases hb168 : (decide (r166 ≠ 0))
                                   · replace hp := gneg hp (of_decide_eq_false hb168)
                                     refine Wcf rfl ?_
                                     refine Wskip ?_
                                     refine bn ?_
                                     refine qn ?_
                                     refine Wreg ?_
                                     refine rs (v := .int .i64 j52) (mv (v := .int .i64 j52) rfl) rfl ?_
                                     refine rs (v := .int .i64 (IntKind.i64.wrap (j52 + 1))) (adw rfl rfl) rfl ?_
                                     refine rs (v := .int .i64 (IntKind.i64.wrap (j52 + 1))) (av (v := .int .i64 (IntKind.i64.wrap (j52 + 1))) rfl) rfl ?_
                                     refine rn ?_
                                     refine qn ?_
                                     replace hc := hc.rem 2 rfl rfl
                                     replace hc := hc.rem 1 rfl rfl
                                     replace hc := hc.pull 4 rfl rfl
                                     replace hc := hc.pull 4 rfl rfl
                                     replace hc := hc.pull 4 rfl rfl
                                     replace hc := hc.pull 3 rfl rfl
                                     replace hc := hc.pull 4 rfl rfl
                                     exact ⟨m3, Nat.lt_succ_self _, ⟨r158.2.2, (IntKind.i64.wrap (j52 + 1)), rfl, hp, hc⟩, (kl rfl k0)⟩
                                   · replace hp := gpos hp (of_decide_eq_true hb168)
                                     refine Wct rfl ?_
                                     refine Wseq ?_
                                     refine Wreg ?_
                                     refine rs (v := .bool false) (av (v := .bool false) rfl) rfl ?_
                                     refine rn ?_
                                     refine qn ?_
                                     refine Wret ?_
                                     refine br ?_
                                     refine qr ?_
                                     refine qr ?_
                                     refine br ?_
                                     refine qr ?_
                                     replace hc := hc.rem 4 rfl rfl
                                     replace hc := hc.rem 3 rfl rfl
                                     replace hc := hc.rem 2 rfl rfl
                                     replace hc := hc.rem 1 rfl rfl
                                     replace hc := hc.rem 0 rfl rfl
                                     injection hp with hp; subst hp
                                     refine f1 (v := .bool false) Try.results6 Try.ntmps6 rfl ?_
                                     exact ⟨_, rfl, k _ hc⟩
                                 · replace hp := gpos hp (of_decide_eq_true hb165)
                                   refine r0 rfl ?_
                                   refine r0 rfl ?_
                                   refine r0 rfl ?_
                                   refine rs (v := .bool true) (pkt (v := .bool true) rfl rfl) rfl ?_
                                   refine rn ?_
                                   refine qn ?_
                                   refine Wct rfl ?_
                                   refine Wseq ?_
                                   refine Wreg ?_
                                   refine rs (v := .bool false) (av (v := .bool false) rfl) rfl ?_
                                   refine rn ?_
                                   refine qn ?_
                                   refine Wret ?_
                                   refine br ?_
                                   refine qr ?_
                                   refine qr ?_
                                   refine br ?_
                                   refine qr ?_
                                   replace hc := hc.rem 4 rfl rfl
                                   replace hc := hc.rem 3 rfl rfl
                                   replace hc := hc.rem 2 rfl rfl
                                   replace hc := hc.rem 1 rfl rfl
                                   replace hc := hc.rem 0 rfl rfl
                                   injection hp with hp; subst hp
                                   refine f1 (v := .bool false) Try.results6 Try.ntmps6 rfl ?_
                                   exact ⟨_, rfl, k _ hc⟩
                               · replace hp := gpos hp (of_decide_eq_true hb164)
                                 refine r0 rfl ?_
                                 refine r0 rfl ?_
                                 refine r0 rfl ?_
                                 refine rs (v := .bool true) (pkt (v := .bool true) rfl rfl) rfl ?_
                                 refine rs (v := .bool true) (mv (v := .bool true) rfl) rfl ?_
                                 refine r0 rfl ?_
                                 refine r0 rfl ?_
                                 refine r0 rfl ?_
                                 refine rs (v := .bool true) (pkt (v := .bool true) rfl rfl) rfl ?_
                                 refine rn ?_
                                 refine qn ?_
                                 refine Wct rfl ?_
                                 refine Wseq ?_
                                 refine Wreg ?_
                                 refine rs (v := .bool false) (av (v := .bool false) rfl) rfl ?_
                                 refine rn ?_
                                 refine qn ?_
                                 refine Wret ?_
                                 refine br ?_
                                 refine qr ?_
                                 refine qr ?_
                                 refine br ?_
                                 refine qr ?_
                                 replace hc := hc.rem 4 rfl rfl
                                 replace hc := hc.rem 3 rfl rfl
                                 replace hc := hc.rem 2 rfl rfl
                                 replace hc := hc.rem 1 rfl rfl
                                 replace hc := hc.rem 0 rfl rfl
                                 injection hp with hp; subst hp
                                 refine f1 (v := .bool false) Try.results6 Try.ntmps6 rfl ?_
                                 exact ⟨_, rfl, k _ hc⟩
                         · replace hp := gpos hp (of_decide_eq_true hb50)
                           refine Wct rfl ?_
                           refine Wseq ?_
                           refine Wreg ?_
                           refine rs (v := .bool false) (av (v := .bool false) rfl) rfl ?_
                           refine rn ?_
                           refine qn ?_
                           refine Wret ?_
                           refine qr ?_
                           replace hc := hc.rem 2 rfl rfl
                           replace hc := hc.rem 1 rfl rfl
                           replace hc := hc.rem 0 rfl rfl
                           injection hp with hp; subst hp
                           refine f1 (v := .bool false) Try.results6 Try.ntmps6 rfl ?_
                           exact ⟨_, rfl, k _ hc⟩
                       · replace hp := gpos hp (of_decide_eq_true hb47)
                         refine r0 rfl ?_
                         refine r0 rfl ?_
                         refine r0 rfl ?_
                         refine rs (v := .bool true) (pkt (v := .bool true) rfl rfl) rfl ?_
                         refine rn ?_
                         refine qn ?_
                         refine Wct rfl ?_
                         refine Wseq ?_
                         refine Wreg ?_
                         refine rs (v := .bool false) (av (v := .bool false) rfl) rfl ?_
                         refine rn ?_
                         refine qn ?_
                         refine Wret ?_
                         refine qr ?_
                         replace hc := hc.rem 2 rfl rfl
                         replace hc := hc.rem 1 rfl rfl
                         replace hc := hc.rem 0 rfl rfl
                         injection hp with hp; subst hp
                         refine f1 (v := .bool false) Try.results6 Try.ntmps6 rfl ?_
                         exact ⟨_, rfl, k _ hc⟩
                     · replace hp := gpos hp (of_decide_eq_true hb44)
                       refine r0 rfl ?_
                       refine r0 rfl ?_
                       refine r0 rfl ?_
                       refine r0 rfl ?_
                       refine rs (v := .bool true) (pkt (v := .bool true) rfl rfl) rfl ?_
                       refine rs (v := .bool true) (mv (v := .bool true) rfl) rfl ?_
                       refine r0 rfl ?_
                       refine r0 rfl ?_
                       refine r0 rfl ?_
                       refine rs (v := .bool true) (pkt (v := .bool true) rfl rfl) rfl ?_
                       refine rn ?_
                       refine qn ?_
                       refine Wct rfl ?_
                       refine Wseq ?_
                       refine Wreg ?_
                       refine rs (v := .bool false) (av (v := .bool false) rfl) rfl ?_
                       refine rn ?_
                       refine qn ?_
                       refine Wret ?_
                       refine qr ?_
                       replace hc := hc.rem 2 rfl rfl
                       replace hc := hc.rem 1 rfl rfl
                       replace hc := hc.rem 0 rfl rfl
                       injection hp with hp; subst hp
                       refine f1 (v := .bool false) Try.results6 Try.ntmps6 rfl ?_
                       exact ⟨_, rfl, k _ hc⟩
                   · replace hp := gpos hp (of_decide_eq_true hb41)
                     refine r0 rfl ?_
                     refine r0 rfl ?_
                     refine r0 rfl ?_
                     refine r0 rfl ?_
                     refine rs (v := .bool true) (pkt (v := .bool true) rfl rfl) rfl ?_
                     refine rs (v := .bool true) (mv (v := .bool true) rfl) rfl ?_
                     refine r0 rfl ?_
                     refine r0 rfl ?_
                     refine r0 rfl ?_
                     refine r0 rfl ?_
                     refine rs (v := .bool true) (pkt (v := .bool true) rfl rfl) rfl ?_
                     refine rs (v := .bool true) (mv (v := .bool true) rfl) rfl ?_
                     refine r0 rfl ?_
                     refine r0 rfl ?_
                     refine r0 rfl ?_
                     refine rs (v := .bool true) (pkt (v := .bool true) rfl rfl) rfl ?_
                     refine rn ?_
                     refine qn ?_
                     refine Wct rfl ?_
                     refine Wseq ?_
                     refine Wreg ?_
                     refine rs (v := .bool false) (av (v := .bool false) rfl) rfl ?_
                     refine rn ?_
                     refine qn ?_
                     refine Wret ?_
                     refine qr ?_
                     replace hc := hc.rem 3 rfl rfl
                     replace hc := hc.rem 1 rfl rfl
                     replace hc := hc.rem 0 rfl rfl
                     injection hp with hp; subst hp
                     refine f1 (v := .bool false) Try.results6 Try.ntmps6 rfl ?_
                     exact ⟨_, rfl, k _ hc⟩
                 · replace hp := gpos hp (of_decide_eq_true hb29)
                   refine Wct rfl ?_
                   refine Wskip ?_
                   refine qn ?_
                   refine Wseq ?_
                   refine Wblk ?_
                   refine Wseq ?_
                   refine Wreg ?_
                   refine rs (v := .slice ax1 x1.length qx1) (mv (v := .slice ax1 x1.length qx1) rfl) rfl ?_
                   refine rs (v := .int .i64 j27) (mv (v := .int .i64 j27) rfl) rfl ?_
                   replace hp := bind_some hp; obtain ⟨y169, hy169, hp⟩ := hp
                   obtain ⟨b172, o173, u174, hi170, hi171⟩ := Ctx.rdAt hc (k := 3) rfl rfl hrd1 hy169
                   subst u174
                   refine rs (v := .pointer (some ⟨b172, o173 + (j27).toNat * 1, none⟩)) (ixx rfl rfl Try.underlying51 Try.sizeOf38 hi170 hi171 rfl) rfl ?_
                   replace hc := Ctx.rdCell hc (k := 3) rfl rfl hrd1 hy169; obtain ⟨cs175, hc, hcell176⟩ := hc
                   replace hc := Ctx.holdRo hc; obtain ⟨v180, u177, hc⟩ := hc; subst u177
                   obtain ⟨a178, q179, u177⟩ := hc.rd (k := 0) rfl rfl reads_ro; subst u177
                   refine rs (v := .slice a178 y169.length q179) (ld rfl Try.isAgg38 (hcell176 0 _ rfl)) rfl ?_
                   refine rs (v := .int .i64 ((y169.length : Nat) : Int)) (ln rfl Try.underlying38) rfl ?_
                   refine rs (v := .bool (decide (((y169.length : Nat) : Int) > 500))) (gt' rfl rfl) rfl ?_
                   refine rn ?_
                   refine qn ?_
                   cases hb181 : (decide (((y169.length : Nat) : Int) > 500))
                   · replace hp := gneg hp (of_decide_eq_false hb181)
                     refine Wcf rfl ?_
                     refine Wskip ?_
                     refine bn ?_
                     refine qn ?_
                     refine Wreg ?_
                     refine rs (v := .int .i64 j27) (mv (v := .int .i64 j27) rfl) rfl ?_
                     refine rs (v := .int .i64 (IntKind.i64.wrap (j27 + 1))) (adw rfl rfl) rfl ?_
                     refine rs (v := .int .i64 (IntKind.i64.wrap (j27 + 1))) (av (v := .int .i64 (IntKind.i64.wrap (j27 + 1))) rfl) rfl ?_
                     refine rn ?_
                     refine qn ?_
                     replace hc := hc.rem 0 rfl rfl
                     exact ⟨m2, Nat.lt_succ_self _, ⟨(IntKind.i64.wrap (j27 + 1)), rfl, hp, hc⟩, (kl rfl k0)⟩
                   · replace hp := gpos hp (of_decide_eq_true hb181)
                     refine Wct rfl ?_
                     refine Wseq ?_
                     refine Wreg ?_
                     refine rs (v := .bool true) (av (v := .bool true) rfl) rfl ?_
                     refine rn ?_
                     refine qn ?_
                     refine Wret ?_
                     refine br ?_
                     refine qr ?_
                     refine qr ?_
                     refine br ?_
                     refine qr ?_
                     replace hc := hc.rem 2 rfl rfl
                     replace hc := hc.rem 1 rfl rfl
                     replace hc := hc.rem 0 rfl rfl
                     injection hp with hp; subst hp
                     refine f1 (v := .bool true) Try.results6 Try.ntmps6 rfl ?_
                     exact ⟨_, rfl, k _ hc⟩
             · replace hp := gpos hp (of_decide_eq_true hb26)
               refine Wct rfl ?_
               refine Wskip ?_
               refine qn ?_
               refine Wseq ?_
               refine Wblk ?_
               refine Wseq ?_
               refine Wreg ?_
               refine rs (v := .slice ax0 x0.length qx0) (mv (v := .slice ax0 x0.length qx0) rfl) rfl ?_
               refine rs (v := .int .i64 j24) (mv (v := .int .i64 j24) rfl) rfl ?_
               replace hp := bind_some hp; obtain ⟨y182, hy182, hp⟩ := hp
               obtain ⟨b185, o186, u187, hi183, hi184⟩ := Ctx.rdAt hc (k := 2) rfl rfl hrd0 hy182
               subst u187
               refine rs (v := .pointer (some ⟨b185, o186 + (j24).toNat * 1, none⟩)) (ixx rfl rfl Try.underlying51 Try.sizeOf38 hi183 hi184 rfl) rfl ?_
               replace hc := Ctx.rdCell hc (k := 2) rfl rfl hrd0 hy182; obtain ⟨cs188, hc, hcell189⟩ := hc
               replace hc := Ctx.holdRo hc; obtain ⟨v193, u190, hc⟩ := hc; subst u190
               obtain ⟨a191, q192, u190⟩ := hc.rd (k := 0) rfl rfl reads_ro; subst u190
               refine rs (v := .slice a191 y182.length q192) (ld rfl Try.isAgg38 (hcell189 0 _ rfl)) rfl ?_
               refine rs (v := .int .i64 ((y182.length : Nat) : Int)) (ln rfl Try.underlying38) rfl ?_
               refine rs (v := .bool (decide (((y182.length : Nat) : Int) > 500))) (gt' rfl rfl) rfl ?_
               refine rn ?_
               refine qn ?_
               cases hb194 : (decide (((y182.length : Nat) : Int) > 500))
               · replace hp := gneg hp (of_decide_eq_false hb194)
                 refine Wcf rfl ?_
                 refine Wskip ?_
                 refine bn ?_
                 refine qn ?_
                 refine Wreg ?_
                 refine rs (v := .int .i64 j24) (mv (v := .int .i64 j24) rfl) rfl ?_
                 refine rs (v := .int .i64 (IntKind.i64.wrap (j24 + 1))) (adw rfl rfl) rfl ?_
                 refine rs (v := .int .i64 (IntKind.i64.wrap (j24 + 1))) (av (v := .int .i64 (IntKind.i64.wrap (j24 + 1))) rfl) rfl ?_
                 refine rn ?_
                 refine qn ?_
                 replace hc := hc.rem 0 rfl rfl
                 exact ⟨m1, Nat.lt_succ_self _, ⟨(IntKind.i64.wrap (j24 + 1)), rfl, hp, hc⟩, (kl rfl k0)⟩
               · replace hp := gpos hp (of_decide_eq_true hb194)
                 refine Wct rfl ?_
                 refine Wseq ?_
                 refine Wreg ?_
                 refine rs (v := .bool true) (av (v := .bool true) rfl) rfl ?_
                 refine rn ?_
                 refine qn ?_
                 refine Wret ?_
                 refine br ?_
                 refine qr ?_
                 refine qr ?_
                 refine br ?_
                 refine qr ?_
                 replace hc := hc.rem 2 rfl rfl
                 replace hc := hc.rem 1 rfl rfl
                 replace hc := hc.rem 0 rfl rfl
                 injection hp with hp; subst hp
                 refine f1 (v := .bool true) Try.results6 Try.ntmps6 rfl ?_
                 exact ⟨_, rfl, k _ hc⟩
     · replace hp := gpos hp (of_decide_eq_true hb7)
       refine Wct rfl ?_
       refine Wseq ?_
       refine Wreg ?_
       replace hp := bind_some hp; obtain ⟨r195, hr195, hp⟩ := hp
       refine rc (cl Try.call7 rfl rfl) rfl ?_
       refine law16_awake_any hc hr195 ?_
       clear hc; intro w196 hc
       refine rs (v := .bool r195) (av (v := .bool r195) rfl) rfl ?_
       refine rn ?_
       refine qn ?_
       refine Wret ?_
       refine qr ?_
       injection hp with hp; subst hp
       refine f1 (v := .bool r195) Try.results6 Try.ntmps6 rfl ?_
       exact ⟨_, rfl, k _ hc⟩
   · replace hp := gpos hp (of_decide_eq_true hb6)
     refine r0 rfl ?_
     refine r0 rfl ?_
     refine r0 rfl ?_
     refine rs (v := .bool true) (pkt (v := .bool true) rfl rfl) rfl ?_
     refine rn ?_
     refine qn ?_
     refine Wct rfl ?_
     refine Wseq ?_
     refine Wreg ?_
     replace hp := bind_some hp; obtain ⟨r197, hr197, hp⟩ := hp
     refine rc (cl Try.call7 rfl rfl) rfl ?_
     refine law16_awake_any hc hr197 ?_
     clear hc; intro w198 hc
     refine rs (v := .bool r197) (av (v := .bool r197) rfl) rfl ?_
     refine rn ?_
     refine qn ?_
     refine Wret ?_
     refine qr ?_
     injection hp with hp; subst hp
     refine f1 (v := .bool r197) Try.results6 Try.ntmps6 rfl ?_
     exact ⟨_, rfl, k _ hc⟩

end Go.Proofs.Ytjileigclbohdaa
