/- Functions of the program as plain functions, and the proofs that walks compute them. Printed by a program of this session. -/
import Derived.Test.YtjileigclbohdaaT1c
namespace Go.Proofs.Ytjileigclbohdaa
open Go Go.RowKit Go.Hp
set_option linter.unusedVariables false
set_option linter.unusedSimpArgs false
set_option maxRecDepth 100000

-- FN peloton/pelotonlaw16.LinkActs
theorem bd_61_0_1_2 {ρ : Operand → Value} {w : World} {dst : Option Nat} {ty : TypeId} {pos : String} {after : Array Edge} {g : Option (Nat × Bool)} {x0 x1 x2 : Operand} {k0 : IntKind} {a0 : Int} {k1 : IntKind} {a1 : Int} {k2 : IntKind} {a2 : Int} (h0 : ρ x0 = (.int k0 a0)) (h1 : ρ x1 = (.int k1 a1)) (h2 : ρ x2 = (.int k2 a2)) :
    (execOp ρ ⟨dst, .build 61 #[(0, x0), (1, x1), (2, x2)], ty, pos, after, g⟩).run Try.prog w = .ok (.value (.agg #[(.int k0 a0), (.int k1 a1), (.int k2 a2), (.int .i64 0), (.int .i64 0), (.int .i64 0), (.int .i64 0), (.int .i64 0), (.slice none 0 0), (.slice none 0 0), (.bool false)])) w := by
  simp [execOp, Instr.build, Instr.fill, Try.zeroValue61, Try.runUnderlying61, Try.sizeOf3, Try.sizeOf4, Try.sizeOf58, Try.sizeOf59, h0, h1, h2, Value.cells]

def law16_LinkActs.J3 (x0 : S_law16_Sides) (j30 : Int) (k2 : S_ref16_Link → S_link_Link → Int → Option (Bool)) (j53 : S_ref16_Link) (j54 : S_link_Link) : Option (Bool) :=
  (link_Link_Left j54).bind fun r112 =>
  if r112 ≠ ((j53.Out.length : Nat) : Int) then
    some false
  else
    (link_Link_Got j54).bind fun r115 =>
    if r115 ≠ j53.Got then
      some false
    else
      (link_Link_Epoch j54).bind fun r118 =>
      if r118 ≠ j53.Epoch then
        some false
      else
        (link_Link_Left j54).bind fun r121 =>
        if r121 > x0.Room then
          some false
        else
          k2 j53 j54 (IntKind.i64.wrap (j30 + 1))

def law16_LinkActs.L2 (N : Nat) (x0 : S_law16_Sides) (x1 : (List S_law16_Act)) : Nat → S_ref16_Link → S_link_Link → Int → Option (Bool)
  | 0, _, _, _ => none
  | m2 + 1, j28, j29, j30 =>
    if j30 < ((x1.length : Nat) : Int) then
      (idx x1 j30).bind fun y33 =>
      (law16_Act_small N (⟨y33.Kind, y33.N, y33.Bodies, (⟨y33.S.Epoch, y33.S.Seq, y33.S.Ack, y33.S.Body⟩ : S_api_Seg)⟩ : S_law16_Act)).bind fun r50 =>
      if r50 = true then
        if y33.Kind = 0 then
          (link_Link_Send N j29 y33.Bodies).bind fun r97 =>
          (ref16_Link_Send N j28 y33.Bodies).bind fun r99 =>
          if r97.1 ≠ r99.1 then
            some false
          else
            law16_LinkActs.J3 x0 j30 (law16_LinkActs.L2 N x0 x1 m2) r99.2 r97.2
        else
          if y33.Kind = 1 then
            (link_Link_Tick N j29).bind fun r81 =>
            (ref16_Link_Tick N j28).bind fun r87 =>
            (law16_segs N r81.1 r87.1).bind fun r93 =>
            if r93 = true then
              law16_LinkActs.J3 x0 j30 (law16_LinkActs.L2 N x0 x1 m2) r87.2 r81.2
            else
              some false
          else
            if y33.Kind = 2 then
              (link_Link_Hear N j29 (⟨y33.S.Epoch, y33.S.Seq, y33.S.Ack, y33.S.Body⟩ : S_api_Seg)).bind fun r65 =>
              (ref16_Link_Hear N j28 (⟨y33.S.Epoch, y33.S.Seq, y33.S.Ack, y33.S.Body⟩ : S_api_Seg)).bind fun r71 =>
              if r65.2.1 ≠ r71.2.1 then
                some false
              else
                (law16_bodies N r65.1 r71.1).bind fun r78 =>
                if r78 = true then
                  law16_LinkActs.J3 x0 j30 (law16_LinkActs.L2 N x0 x1 m2) r71.2.2 r65.2.2
                else
                  some false
            else
              if y33.Kind = 3 then
                (link_Link_Reset j29 y33.N).bind fun r60 =>
                (ref16_Link_Reset j28 y33.N).bind fun r62 =>
                if r60.1 ≠ r62.1 then
                  some false
                else
                  law16_LinkActs.J3 x0 j30 (law16_LinkActs.L2 N x0 x1 m2) r62.2 r60.2
              else
                law16_LinkActs.J3 x0 j30 (law16_LinkActs.L2 N x0 x1 m2) j28 j29
      else
        some true
    else
      some true

def law16_LinkActs.J1 (N : Nat) (x0 : S_law16_Sides) (x1 : (List S_law16_Act)) (r10 : ((Option S_link_Link) × Int)) (j13 : Bool) : Option (Bool) :=
  if j13 = true then
    optc r10.1 (
      some (decide (r10.2 = 2))) fun y125 =>
    some false
  else
    optc r10.1 (
      some false) fun y20 =>
    if r10.2 ≠ 0 then
      some false
    else
      law16_LinkActs.L2 N x0 x1 N (⟨x0.Window, x0.Span, x0.Room, 0, 0, 0, 0, 0, [], [], false⟩ : S_ref16_Link) y20 0

def law16_LinkActs (N : Nat) (x0 : S_law16_Sides) (x1 : (List S_law16_Act)) : Option (Bool) :=
  (law16_awake N).bind fun r4 =>
  if r4 = true then
    if ((x1.length : Nat) : Int) > 100 then
      (law16_awake N).bind fun r129 =>
      some r129
    else
      (link_New x0.Window x0.Span x0.Room).bind fun r10 =>
      (ref16_Right x0.Window x0.Span x0.Room).bind fun r14 =>
      if r14 = true then
        law16_LinkActs.J1 N x0 x1 r10 false
      else
        law16_LinkActs.J1 N x0 x1 r10 true
  else
    (law16_awake N).bind fun r7 =>
    some r7

set_option maxHeartbeats 8000000 in
theorem law16_LinkActs_any {N : Nat} {x0 : S_law16_Sides} {x1 : (List S_law16_Act)} {ax1 : Option Addr} {nx1 : Nat} {qx1 : Nat} {P1 : HP} {Fr : List HP} {w : World} {r : Bool} {K : Value → World → Prop} (hrd1 : Reads P1 S_law16_Act.pr (.slice ax1 nx1 qx1) x1) (hc : Ctx w (P1 :: Fr)) (hp : law16_LinkActs N x0 x1 = some r)
    (k : ∀ w', Ctx w' (P1 :: Fr) → K (.bool r) w') : Calls Try.prog 5 #[.agg #[.int .i64 x0.Window, .int .i64 x0.Span, .int .i64 x0.Room], .slice ax1 nx1 qx1] w (Ret K) := by
 unfold law16_LinkActs at hp
 refine Center (args := [.agg #[.int .i64 x0.Window, .int .i64 x0.Span, .int .i64 x0.Room], .slice ax1 nx1 qx1]) (l := [(0, .agg #[.int .i64 x0.Window, .int .i64 x0.Span, .int .i64 x0.Room]), (1, .slice ax1 nx1 qx1)]) Try.func5 Try.ntmps5 rfl rfl rfl ?_
 obtain ⟨hn1, _⟩ := Ctx.rdLen hc (k := 0) rfl rfl hrd1; subst hn1
 refine Wseq ?_
 refine Wreg ?_
 refine rsE (Ctx.boxOp (cs := [.int .i64 x0.Window, .int .i64 x0.Span, .int .i64 x0.Room]) (v := .agg #[.int .i64 x0.Window, .int .i64 x0.Span, .int .i64 x0.Room]) hc rfl rfl) rfl ?_
 clear hc; rintro _ w3 ⟨b1, rfl, hc⟩
 refine rs (v := .bool false) (av (v := .bool false) rfl) rfl ?_
 refine rn ?_
 refine qn ?_
 refine Wseq ?_
 refine Wseq ?_
 refine Wreg ?_
 replace hp := bind_some hp; obtain ⟨r4, hr4, hp⟩ := hp
 refine rc (cl Try.call7 rfl rfl) rfl ?_
 refine law16_awake_any hc hr4 ?_
 clear hc; intro w5 hc
 cases hb6 : r4
 · replace hp := gneg hp (by rw [hb6]; exact Bool.false_ne_true)
   subst hb6
   refine rs (v := .bool true) (ntf rfl) rfl ?_
   refine rs (v := .bool true) (mv (v := .bool true) rfl) rfl ?_
   refine r0 rfl ?_
   refine r0 rfl ?_
   refine r0 rfl ?_
   refine rs (v := .bool true) (pkt (v := .bool true) rfl rfl) rfl ?_
   refine rn ?_
   refine qn ?_
   refine Wct rfl ?_
   refine Wseq ?_
   refine Wreg ?_
   replace hp := bind_some hp; obtain ⟨r7, hr7, hp⟩ := hp
   refine rc (cl Try.call7 rfl rfl) rfl ?_
   refine law16_awake_any hc hr7 ?_
   clear hc; intro w8 hc
   refine rs (v := .bool r7) (av (v := .bool r7) rfl) rfl ?_
   refine rn ?_
   refine qn ?_
   refine Wret ?_
   refine qr ?_
   replace hc := hc.rem 0 rfl rfl
   injection hp with hp; subst hp
   refine f1 (v := .bool r7) Try.results5 Try.ntmps5 rfl ?_
   exact ⟨_, rfl, k _ hc⟩
 · replace hp := gpos hp hb6
   subst hb6
   refine rs (v := .bool false) (ntt rfl) rfl ?_
   refine rs (v := .bool false) (mv (v := .bool false) rfl) rfl ?_
   refine rs (v := .slice ax1 x1.length qx1) (mv (v := .slice ax1 x1.length qx1) rfl) rfl ?_
   refine rs (v := .int .i64 ((x1.length : Nat) : Int)) (ln rfl Try.underlying55) rfl ?_
   refine rs (v := .bool (decide (((x1.length : Nat) : Int) > 100))) (gt' rfl rfl) rfl ?_
   refine rs (v := .bool (decide (((x1.length : Nat) : Int) > 100))) (pkf (v := .bool (decide (((x1.length : Nat) : Int) > 100))) rfl rfl) rfl ?_
   refine rn ?_
   refine qn ?_
   cases hb9 : (decide (((x1.length : Nat) : Int) > 100))
   · replace hp := gneg hp (of_decide_eq_false hb9)
     refine Wcf rfl ?_
     refine Wskip ?_
     refine qn ?_
     refine Wseq ?_
     refine Wreg ?_
     refine rs (v := .pointer (some ⟨b1, 0, none⟩)) (fax 0 rfl Try.underlying23 rfl Try.sizeOf3 rfl rfl rfl) rfl ?_
     refine rs (v := .int .i64 x0.Window) (ld rfl Try.isAgg3 (Ctx.cell hc (k := 0) rfl rfl rfl)) rfl ?_
     refine rs (v := .pointer (some ⟨b1, 1, none⟩)) (fax 1 rfl Try.underlying23 rfl Try.sizeOf3 rfl rfl rfl) rfl ?_
     refine rs (v := .int .i64 x0.Span) (ld rfl Try.isAgg3 (Ctx.cell hc (k := 0) rfl rfl rfl)) rfl ?_
     refine rs (v := .pointer (some ⟨b1, 2, none⟩)) (fax 2 rfl Try.underlying23 rfl Try.sizeOf3 rfl rfl rfl) rfl ?_
     refine rs (v := .int .i64 x0.Room) (ld rfl Try.isAgg3 (Ctx.cell hc (k := 0) rfl rfl rfl)) rfl ?_
     replace hp := bind_some hp; obtain ⟨r10, hr10, hp⟩ := hp
     refine rc (cl Try.call8 rfl rfl) rfl ?_
     refine link_New_any hc hr10 ?_
     clear hc; intro v11 w12 hc
     refine rs (v := .tuple #[v11, .int .i64 r10.2]) (mv (v := .tuple #[v11, .int .i64 r10.2]) rfl) rfl ?_
     refine rs (v := v11) (ext (v := v11) rfl rfl) rfl ?_
     refine rs (v := .int .i64 r10.2) (ext (v := .int .i64 r10.2) rfl rfl) rfl ?_
     refine rs (v := v11) (av (v := v11) rfl) rfl ?_
     refine rs (v := .int .i64 r10.2) (av (v := .int .i64 r10.2) rfl) rfl ?_
     refine rn ?_
     refine qn ?_
     refine Wseq ?_
     refine Wseqm [32, 33, 34, 35, 36, 37, 38, 39] [39] (fun vs w' => ∃ j13 : Bool, vs = [.bool j13] ∧ law16_LinkActs.J1 N x0 x1 r10 j13 = some r ∧ Ctx w' (PtO S_link_Link.hp v11 r10.1 :: B b1 [.int .i64 x0.Window, .int .i64 x0.Span, .int .i64 x0.Room] 23 :: P1 :: Fr)) ?_ ?_
     · refine Wreg ?_
       refine rs (v := .pointer (some ⟨b1, 0, none⟩)) (fax 0 rfl Try.underlying23 rfl Try.sizeOf3 rfl rfl rfl) rfl ?_
       refine rs (v := .int .i64 x0.Window) (ld rfl Try.isAgg3 (Ctx.cell hc (k := 1) rfl rfl rfl)) rfl ?_
       refine rs (v := .pointer (some ⟨b1, 1, none⟩)) (fax 1 rfl Try.underlying23 rfl Try.sizeOf3 rfl rfl rfl) rfl ?_
       refine rs (v := .int .i64 x0.Span) (ld rfl Try.isAgg3 (Ctx.cell hc (k := 1) rfl rfl rfl)) rfl ?_
       refine rs (v := .pointer (some ⟨b1, 2, none⟩)) (fax 2 rfl Try.underlying23 rfl Try.sizeOf3 rfl rfl rfl) rfl ?_
       refine rs (v := .int .i64 x0.Room) (ld rfl Try.isAgg3 (Ctx.cell hc (k := 1) rfl rfl rfl)) rfl ?_
       replace hp := bind_some hp; obtain ⟨r14, hr14, hp⟩ := hp
       refine rc (cl Try.call16 rfl rfl) rfl ?_
       refine ref16_Right_any hc hr14 ?_
       clear hc; intro w15 hc
       cases hb16 : r14
       · replace hp := gneg hp (by rw [hb16]; exact Bool.false_ne_true)
         subst hb16
         refine rs (v := .bool true) (ntf rfl) rfl ?_
         refine rn ?_
         refine qn ?_
         exact ⟨⟨true, rfl, hp, hc⟩, (kl rfl kb)⟩
       · replace hp := gpos hp hb16
         subst hb16
         refine rs (v := .bool false) (ntt rfl) rfl ?_
         refine rn ?_
         refine qn ?_
         exact ⟨⟨false, rfl, hp, hc⟩, (kl rfl kb)⟩
     · clear hp hc; intro vs u w17 hJ
       obtain ⟨j13, rfl, hp, hc⟩ := hJ
       unfold law16_LinkActs.J1 at hp
       cases hb18 : j13
       · replace hp := gneg hp (by rw [hb18]; exact Bool.false_ne_true)
         subst hb18
         refine Wcf rfl ?_
         refine Wskip ?_
         refine qn ?_
         refine Wseq ?_
         refine Wseq ?_
         refine Wreg ?_
         refine rs (v := v11) (mv (v := v11) rfl) rfl ?_
         cases hb19 : r10.1
         · replace hp := optN hp hb19
           rw [hb19] at hc
           replace hc := Ctx.ptoN hc; obtain ⟨u21, hc⟩ := hc; subst u21
           refine rs (v := .bool true) (ept Try.underlying27 rfl rfl) rfl ?_
           refine rs (v := .bool true) (mv (v := .bool true) rfl) rfl ?_
           refine r0 rfl ?_
           refine r0 rfl ?_
           refine rs (v := .bool true) (pkt (v := .bool true) rfl rfl) rfl ?_
           refine rn ?_
           refine qn ?_
           refine Wct rfl ?_
           refine Wseq ?_
           refine Wreg ?_
           refine rs (v := .bool false) (av (v := .bool false) rfl) rfl ?_
           refine rn ?_
           refine qn ?_
           refine Wret ?_
           refine qr ?_
           replace hc := hc.rem 0 rfl rfl
           injection hp with hp; subst hp
           refine f1 (v := .bool false) Try.results5 Try.ntmps5 rfl ?_
           exact ⟨_, rfl, k _ hc⟩
         · rename_i y20
           replace hp := optS hp hb19
           rw [hb19] at hc
           replace hc := Ctx.ptoS hc; obtain ⟨b22, u23, hc⟩ := hc; subst u23
           refine rs (v := .bool false) (epf Try.underlying27 rfl rfl) rfl ?_
           refine rs (v := .bool false) (mv (v := .bool false) rfl) rfl ?_
           refine rs (v := .int .i64 r10.2) (mv (v := .int .i64 r10.2) rfl) rfl ?_
           refine rs (v := .bool (decide (r10.2 ≠ 0))) (ned rfl rfl) rfl ?_
           refine rs (v := .bool (decide (r10.2 ≠ 0))) (pkf (v := .bool (decide (r10.2 ≠ 0))) rfl rfl) rfl ?_
           refine rn ?_
           refine qn ?_
           cases hb24 : (decide (r10.2 ≠ 0))
           · replace hp := gneg hp (of_decide_eq_false hb24)
             refine Wcf rfl ?_
             refine Wskip ?_
             refine qn ?_
             refine Wseq ?_
             refine Wreg ?_
             refine rs (v := .pointer (some ⟨b1, 0, none⟩)) (fax 0 rfl Try.underlying23 rfl Try.sizeOf3 rfl rfl rfl) rfl ?_
             refine rs (v := .int .i64 x0.Window) (ld rfl Try.isAgg3 (Ctx.cell hc (k := 1) rfl rfl rfl)) rfl ?_
             refine rs (v := .pointer (some ⟨b1, 1, none⟩)) (fax 1 rfl Try.underlying23 rfl Try.sizeOf3 rfl rfl rfl) rfl ?_
             refine rs (v := .int .i64 x0.Span) (ld rfl Try.isAgg3 (Ctx.cell hc (k := 1) rfl rfl rfl)) rfl ?_
             refine rs (v := .pointer (some ⟨b1, 2, none⟩)) (fax 2 rfl Try.underlying23 rfl Try.sizeOf3 rfl rfl rfl) rfl ?_
             refine rs (v := .int .i64 x0.Room) (ld rfl Try.isAgg3 (Ctx.cell hc (k := 1) rfl rfl rfl)) rfl ?_
             refine rs (v := .agg #[.int .i64 x0.Window, .int .i64 x0.Span, .int .i64 x0.Room, .int .i64 0, .int .i64 0, .int .i64 0, .int .i64 0, .int .i64 0, .slice none 0 0, .slice none 0 0, .bool false]) (bd_61_0_1_2 rfl rfl rfl) rfl ?_
             refine rsE (Ctx.boxOp (cs := [.int .i64 x0.Window, .int .i64 x0.Span, .int .i64 x0.Room, .int .i64 0, .int .i64 0, .int .i64 0, .int .i64 0, .int .i64 0, .slice none 0 0, .slice none 0 0, .bool false]) (v := .agg #[.int .i64 x0.Window, .int .i64 x0.Span, .int .i64 x0.Room, .int .i64 0, .int .i64 0, .int .i64 0, .int .i64 0, .int .i64 0, .slice none 0 0, .slice none 0 0, .bool false]) hc rfl rfl) rfl ?_
             clear hc; rintro _ w27 ⟨b25, rfl, hc⟩
             refine rs (v := .pointer (some ⟨b25, 0, none⟩)) (av (v := .pointer (some ⟨b25, 0, none⟩)) rfl) rfl ?_
             refine rn ?_
             refine qn ?_
             refine Wseq ?_
             refine Wseq ?_
             refine Wreg ?_
             refine rs (v := .int .i64 0) (av (v := .int .i64 0) rfl) rfl ?_
             refine rn ?_
             refine qn ?_
             refine Wblk ?_
             replace hc := hc.nilOwn S_ref16_Body.pr 88
             replace hc := hc.nilOwn S_ref16_Early.pr 91
             replace hc := hc.pull 1 rfl rfl
             replace hc := hc.pull 2 rfl rfl
             replace hc : Ctx w27 (S_ref16_Link.hp b25 (⟨x0.Window, x0.Span, x0.Room, 0, 0, 0, 0, 0, [], [], false⟩ : S_ref16_Link) :: S_link_Link.hp b22 y20 :: B b1 [.int .i64 x0.Window, .int .i64 x0.Span, .int .i64 x0.Room] 23 :: P1 :: Fr) := Ctx.exB _ _ (Ctx.exB _ _ (Ctx.sepB (Ctx.sepB hc)))
             refine Wloop (4 :: 8 :: 9 :: 10 :: 11 :: 12 :: 13 :: 60 :: 61 :: 62 :: 63 :: 64 :: 65 :: 66 :: 67 :: 68 :: 69 :: 70 :: 71 :: 72 :: 73 :: 74 :: 75 :: 76 :: 77 :: 78 :: 79 :: 80 :: 81 :: 82 :: 83 :: 84 :: 85 :: 86 :: 87 :: 88 :: 89 :: 90 :: 91 :: 92 :: 93 :: 94 :: 95 :: 96 :: 97 :: 98 :: 99 :: 100 :: 101 :: 102 :: 103 :: 104 :: 105 :: 106 :: 107 :: 108 :: 109 :: 110 :: 111 :: 112 :: 113 :: 114 :: 115 :: 116 :: 117 :: 118 :: 119 :: 120 :: 121 :: 122 :: 123 :: 124 :: 125 :: 126 :: 127 :: 128 :: 129 :: 130 :: 131 :: 132 :: 133 :: 134 :: 135 :: 136 :: 137 :: 138 :: 139 :: 140 :: 141 :: 142 :: 143 :: 144 :: 145 :: 146 :: 147 :: 148 :: 149 :: 150 :: 151 :: 152 :: 153 :: 154 :: 155 :: 156 :: 157 :: 158 :: 159 :: 160 :: 161 :: 162 :: []) [8] (fun m vs w' => ∃ j28 : S_ref16_Link, ∃ j29 : S_link_Link, ∃ j30 : Int, vs = [.int .i64 j30] ∧ law16_LinkActs.L2 N x0 x1 m j28 j29 j30 = some r ∧ Ctx w' (S_ref16_Link.hp b25 j28 :: S_link_Link.hp b22 j29 :: B b1 [.int .i64 x0.Window, .int .i64 x0.Span, .int .i64 x0.Room] 23 :: P1 :: Fr)) N ?_ ?_
             · exact ⟨(⟨x0.Window, x0.Span, x0.Room, 0, 0, 0, 0, 0, [], [], false⟩ : S_ref16_Link), y20, 0, rfl, hp, hc⟩
             · clear hp hc; intro m vs u w31 hJ
               obtain ⟨j28, j29, j30, rfl, hp, hc⟩ := hJ
               rcases m with _ | m2
               · cases (show none = some r from hp)
               rw [law16_LinkActs.L2] at hp
               refine Wseq ?_
               refine Wseq ?_
               refine Wreg ?_
               refine rs (v := .int .i64 j30) (mv (v := .int .i64 j30) rfl) rfl ?_
               refine rs (v := .slice ax1 x1.length qx1) (mv (v := .slice ax1 x1.length qx1) rfl) rfl ?_
               refine rs (v := .int .i64 ((x1.length : Nat) : Int)) (ln rfl Try.underlying55) rfl ?_
               refine rs (v := .bool (decide (j30 < ((x1.length : Nat) : Int)))) (lt' rfl rfl) rfl ?_
               refine rn ?_
               refine qn ?_
               cases hb32 : (decide (j30 < ((x1.length : Nat) : Int)))
               · replace hp := gneg hp (of_decide_eq_false hb32)
                 refine Wcf rfl ?_
                 refine Wexit ?_
                 refine qx ?_
                 refine qx ?_
                 refine be ?_
                 refine qn ?_
                 refine Wseq ?_
                 refine Wreg ?_
                 refine rs (v := .bool true) (av (v := .bool true) rfl) rfl ?_
                 refine rn ?_
                 refine qn ?_
                 refine Wret ?_
                 replace hc := hc.rem 2 rfl rfl
                 replace hc := hc.rem 1 rfl rfl
                 replace hc := hc.rem 0 rfl rfl
                 injection hp with hp; subst hp
                 refine f1 (v := .bool true) Try.results5 Try.ntmps5 rfl ?_
                 exact ⟨_, rfl, k _ hc⟩
               · replace hp := gpos hp (of_decide_eq_true hb32)
                 refine Wct rfl ?_
                 refine Wskip ?_
                 refine qn ?_
                 refine Wseq ?_
                 refine Wblk ?_
                 refine Wseq ?_
                 refine Wreg ?_
                 refine rs (v := .slice ax1 x1.length qx1) (mv (v := .slice ax1 x1.length qx1) rfl) rfl ?_
                 refine rs (v := .int .i64 j30) (mv (v := .int .i64 j30) rfl) rfl ?_
                 replace hp := bind_some hp; obtain ⟨y33, hy33, hp⟩ := hp
                 obtain ⟨b36, o37, u38, hi34, hi35⟩ := Ctx.rdAt hc (k := 3) rfl rfl hrd1 hy33
                 subst u38
                 refine rs (v := .pointer (some ⟨b36, o37 + (j30).toNat * 7, none⟩)) (ixx rfl rfl Try.underlying55 Try.sizeOf63 hi34 hi35 rfl) rfl ?_
                 replace hc := Ctx.rdCell hc (k := 3) rfl rfl hrd1 hy33; obtain ⟨cs39, hc, hcell40⟩ := hc
                 replace hc := S_law16_Act.op hc; obtain ⟨a42, q43, a44, q45, u41, hc⟩ := hc; subst u41
                 refine rs (v := .agg #[.int .i64 y33.Kind, .int .i64 y33.N, .slice a42 y33.Bodies.length q43, .int .i64 y33.S.Epoch, .int .i64 y33.S.Seq, .int .i64 y33.S.Ack, .slice a44 y33.S.Body.length q45]) (ldg rfl Try.isAgg63 Try.sizeOf63 rfl (elCells hcell40 0 (vs := [.int .i64 y33.Kind, .int .i64 y33.N, .slice a42 y33.Bodies.length q43, .int .i64 y33.S.Epoch, .int .i64 y33.S.Seq, .int .i64 y33.S.Ack, .slice a44 y33.S.Body.length q45]) rfl)) rfl ?_
                 refine rsE (Ctx.allocOp (cs := [.int .i64 0, .int .i64 0, .slice none 0 0, .int .i64 0, .int .i64 0, .int .i64 0, .slice none 0 0]) hc Try.zeroValue63 rfl) rfl ?_
                 clear hc; rintro _ w48 ⟨b46, rfl, hc⟩
                 refine ruE (A := fun w' => Ctx w' (B b46 [.int .i64 y33.Kind, .int .i64 y33.N, .slice a42 y33.Bodies.length q43, .int .i64 y33.S.Epoch, .int .i64 y33.S.Seq, .int .i64 y33.S.Ack, .slice a44 y33.S.Body.length q45] 63 :: Hold (pRo (pRo (pInt .u8))) [.slice a42 y33.Bodies.length q43] y33.Bodies :: Hold (pRo (pInt .u8)) [.slice a44 y33.S.Body.length q45] y33.S.Body :: S_ref16_Link.hp b25 j28 :: S_link_Link.hp b22 j29 :: B b1 [.int .i64 x0.Window, .int .i64 x0.Span, .int .i64 x0.Room] 23 :: P1 :: Fr)) (Ctx.putAgg hc (k := 0) rfl rfl (vs := [.int .i64 y33.Kind, .int .i64 y33.N, .slice a42 y33.Bodies.length q43, .int .i64 y33.S.Epoch, .int .i64 y33.S.Seq, .int .i64 y33.S.Ack, .slice a44 y33.S.Body.length q45]) rfl rfl rfl Try.sizeOf63 rfl rfl rfl) rfl ?_
                 clear hc; rintro w49 hc
                 refine rn ?_
                 refine qn ?_
                 refine Wseq ?_
                 refine Wseq ?_
                 refine Wreg ?_
                 refine rs (v := .agg #[.int .i64 y33.Kind, .int .i64 y33.N, .slice a42 y33.Bodies.length q43, .int .i64 y33.S.Epoch, .int .i64 y33.S.Seq, .int .i64 y33.S.Ack, .slice a44 y33.S.Body.length q45]) (ldg rfl Try.isAgg63 Try.sizeOf63 rfl (Ctx.cells hc (k := 0) rfl rfl 0 (vs := [.int .i64 y33.Kind, .int .i64 y33.N, .slice a42 y33.Bodies.length q43, .int .i64 y33.S.Epoch, .int .i64 y33.S.Seq, .int .i64 y33.S.Ack, .slice a44 y33.S.Body.length q45]) rfl)) rfl ?_
                 replace hc := hc.dup (k := 1) rfl rfl
                 replace hc := hc.dup (k := 3) rfl rfl
                 replace hp := bind_some hp; obtain ⟨r50, hr50, hp⟩ := hp
                 replace hc := hc.pull 1 rfl rfl
                 refine rc (cl Try.call17 rfl rfl) rfl ?_
                 refine law16_Act_small_any (x0 := (⟨y33.Kind, y33.N, y33.Bodies, (⟨y33.S.Epoch, y33.S.Seq, y33.S.Ack, y33.S.Body⟩ : S_api_Seg)⟩ : S_law16_Act)) hc hr50 ?_
                 clear hc; intro w51 hc
                 cases hb52 : r50
                 · replace hp := gneg hp (by rw [hb52]; exact Bool.false_ne_true)
                   subst hb52
                   refine rs (v := .bool true) (ntf rfl) rfl ?_
                   refine rn ?_
                   refine qn ?_
                   refine Wct rfl ?_
                   refine Wseq ?_
                   refine Wreg ?_
                   refine rs (v := .bool true) (av (v := .bool true) rfl) rfl ?_
                   refine rn ?_
                   refine qn ?_
                   refine Wret ?_
                   refine qr ?_
                   refine br ?_
                   refine qr ?_
                   refine qr ?_
                   refine br ?_
                   refine qr ?_
                   replace hc := hc.rem 5 rfl rfl
                   replace hc := hc.rem 4 rfl rfl
                   replace hc := hc.rem 3 rfl rfl
                   replace hc := hc.rem 2 rfl rfl
                   replace hc := hc.rem 1 rfl rfl
                   replace hc := hc.rem 0 rfl rfl
                   injection hp with hp; subst hp
                   refine f1 (v := .bool true) Try.results5 Try.ntmps5 rfl ?_
                   exact ⟨_, rfl, k _ hc⟩
                 · replace hp := gpos hp hb52
                   subst hb52
                   refine rs (v := .bool false) (ntt rfl) rfl ?_
                   refine rn ?_
                   refine qn ?_
                   refine Wcf rfl ?_
                   refine Wskip ?_
                   refine qn ?_
                   refine Wseqm (4 :: 10 :: 11 :: 12 :: 13 :: 73 :: 74 :: 75 :: 76 :: 77 :: 78 :: 79 :: 80 :: 81 :: 82 :: 83 :: 84 :: 85 :: 86 :: 87 :: 88 :: 89 :: 90 :: 91 :: 92 :: 93 :: 94 :: 95 :: 96 :: 97 :: 98 :: 99 :: 100 :: 101 :: 102 :: 103 :: 104 :: 105 :: 106 :: 107 :: 108 :: 109 :: 110 :: 111 :: 112 :: 113 :: 114 :: 115 :: 116 :: 117 :: 118 :: 119 :: 120 :: 121 :: 122 :: 123 :: 124 :: 125 :: 126 :: 127 :: 128 :: 129 :: []) [] (fun vs w' => ∃ j53 : S_ref16_Link, ∃ j54 : S_link_Link, vs = [] ∧ law16_LinkActs.J3 x0 j30 (law16_LinkActs.L2 N x0 x1 m2) j53 j54 = some r ∧ Ctx w' (S_ref16_Link.hp b25 j53 :: S_link_Link.hp b22 j54 :: B b1 [.int .i64 x0.Window, .int .i64 x0.Span, .int .i64 x0.Room] 23 :: P1 :: Fr)) ?_ ?_
                   · refine Wseq ?_
                     refine Wreg ?_
                     refine rs (v := .pointer (some ⟨b46, 0, none⟩)) (fax 0 rfl Try.underlying63 rfl Try.sizeOf3 rfl rfl rfl) rfl ?_
                     refine rs (v := .int .i64 y33.Kind) (ld rfl Try.isAgg3 (Ctx.cell hc (k := 0) rfl rfl rfl)) rfl ?_
                     refine rn ?_
                     refine qn ?_
                     refine Wblk ?_
                     refine Wseq ?_
                     refine Wreg ?_
                     refine rs (v := .bool (decide (y33.Kind = 0))) (eqd rfl rfl) rfl ?_
                     refine rs (v := .bool (decide (y33.Kind = 0))) (av (v := .bool (decide (y33.Kind = 0))) rfl) rfl ?_
                     refine rn ?_
                     refine qn ?_
                     cases hb55 : (decide (y33.Kind = 0))
                     · replace hp := gneg hp (of_decide_eq_false hb55)
                       refine Wcf rfl ?_
                       refine Wseq ?_
                       refine Wreg ?_
                       refine rs (v := .bool (decide (y33.Kind = 1))) (eqd rfl rfl) rfl ?_
                       refine rs (v := .bool (decide (y33.Kind = 1))) (av (v := .bool (decide (y33.Kind = 1))) rfl) rfl ?_
                       refine rn ?_
                       refine qn ?_
                       cases hb56 : (decide (y33.Kind = 1))
                       · replace hp := gneg hp (of_decide_eq_false hb56)
                         refine Wcf rfl ?_
                         refine Wseq ?_
                         refine Wreg ?_
                         refine rs (v := .bool (decide (y33.Kind = 2))) (eqd rfl rfl) rfl ?_
                         refine rs (v := .bool (decide (y33.Kind = 2))) (av (v := .bool (decide (y33.Kind = 2))) rfl) rfl ?_
                         refine rn ?_
                         refine qn ?_
                         cases hb57 : (decide (y33.Kind = 2))
                         · replace hp := gneg hp (of_decide_eq_false hb57)
                           refine Wcf rfl ?_
                           refine Wseq ?_
                           refine Wreg ?_
                           refine rs (v := .bool (decide (y33.Kind = 3))) (eqd rfl rfl) rfl ?_
                           refine rs (v := .bool (decide (y33.Kind = 3))) (av (v := .bool (decide (y33.Kind = 3))) rfl) rfl ?_
                           refine rn ?_
                           refine qn ?_
                           cases hb58 : (decide (y33.Kind = 3))
                           · replace hp := gneg hp (of_decide_eq_false hb58)
                             refine Wcf rfl ?_
                             refine Wskip ?_
                             refine bn ?_
                             refine qn ?_
                             replace hc := hc.rem 2 rfl rfl
                             replace hc := hc.rem 1 rfl rfl
                             replace hc := hc.rem 0 rfl rfl
                             exact ⟨⟨j28, j29, rfl, hp, hc⟩, (kl rfl kb)⟩
                           · replace hp := gpos hp (of_decide_eq_true hb58)
                             refine Wct rfl ?_
                             refine Wseq ?_
                             replace hc := hc.drew
                             have hF : ∀ j, free [0, 0, 2, 7, 0, 0, 32, 127, 255] 0 j = true → (fun j w' => (j = 6 → w'.cell? ⟨b46, 1, none⟩ = some (.int .i64 y33.N)) ∧ True) j (World.drew w51) := fun j hj => ⟨fun _ => hc.cell (k := 0) rfl rfl rfl, trivial⟩
                             refine Wdrw (fun j w' => (j = 6 → w'.cell? ⟨b46, 1, none⟩ = some (.int .i64 y33.N)) ∧ True) [0, 0, 2, 7, 0, 0, 32, 127, 255] 0 4 rfl (by kernel_rfl) (hF) ?_
                             generalize hw : World.drew w51 = w59 at *
                             clear hw
                             refine ds (v := .pointer (some ⟨b22, 0, none⟩)) rfl (fun w' hF => mv (v := .pointer (some ⟨b22, 0, none⟩)) rfl) rfl ?_
                             refine ds (v := .pointer (some ⟨b46, 1, none⟩)) rfl (fun w' hF => fax 1 rfl Try.underlying63 rfl Try.sizeOf3 rfl rfl rfl) rfl ?_
                             refine dx (v := .int .i64 y33.N) rfl (ld rfl Try.isAgg3 (Ctx.cell hc (k := 0) rfl rfl rfl)) rfl rfl ?_
                             replace hp := bind_some hp; obtain ⟨r60, hr60, hp⟩ := hp
                             replace hc := hc.pull 4 rfl rfl
                             refine dc (cl Try.call23 rfl rfl) rfl rfl ?_
                             refine link_Link_Reset_any hc hr60 ?_
                             clear hc; intro w61 hc
                             refine ⟨fun j hj hb => ⟨fun _ => hc.cell (k := 1) rfl rfl rfl, trivial⟩, ?_⟩
                             refine ds (v := .pointer (some ⟨b25, 0, none⟩)) rfl (fun w' hF => mv (v := .pointer (some ⟨b25, 0, none⟩)) rfl) rfl ?_
                             refine ds (v := .pointer (some ⟨b46, 1, none⟩)) rfl (fun w' hF => fax 1 rfl Try.underlying63 rfl Try.sizeOf3 rfl rfl rfl) rfl ?_
                             refine ds (v := .int .i64 y33.N) rfl (fun w' hF => ld rfl Try.isAgg3 ((hF.1 rfl))) rfl ?_
                             replace hp := bind_some hp; obtain ⟨r62, hr62, hp⟩ := hp
                             replace hc := hc.pull 4 rfl rfl
                             refine dc (cl Try.call24 rfl rfl) rfl rfl ?_
                             refine ref16_Link_Reset_any hc hr62 ?_
                             clear hc; intro w63 hc
                             refine ⟨fun j hj hb => ⟨fun e => (by subst e; exact absurd hj (by decide)), trivial⟩, ?_⟩
                             refine ds (v := .bool (decide (r60.1 ≠ r62.1))) rfl (fun w' hF => ned rfl rfl) rfl ?_
                             refine dn ?_
                             refine qn ?_
                             cases hb64 : (decide (r60.1 ≠ r62.1))
                             · replace hp := gneg hp (of_decide_eq_false hb64)
                               refine Wcf rfl ?_
                               refine Wskip ?_
                               refine bn ?_
                               refine qn ?_
                               replace hc := hc.rem 4 rfl rfl
                               replace hc := hc.rem 3 rfl rfl
                               replace hc := hc.rem 2 rfl rfl
                               exact ⟨⟨r62.2, r60.2, rfl, hp, hc⟩, (kl rfl kb)⟩
                             · replace hp := gpos hp (of_decide_eq_true hb64)
                               refine Wct rfl ?_
                               refine Wseq ?_
                               refine Wreg ?_
                               refine rs (v := .bool false) (av (v := .bool false) rfl) rfl ?_
                               refine rn ?_
                               refine qn ?_
                               refine Wret ?_
                               refine br ?_
                               refine qr ?_
                               refine br ?_
                               refine qr ?_
                               refine qr ?_
                               refine br ?_
                               refine qr ?_
                               replace hc := hc.rem 5 rfl rfl
                               replace hc := hc.rem 4 rfl rfl
                               replace hc := hc.rem 3 rfl rfl
                               replace hc := hc.rem 2 rfl rfl
                               replace hc := hc.rem 1 rfl rfl
                               replace hc := hc.rem 0 rfl rfl
                               injection hp with hp; subst hp
                               refine f1 (v := .bool false) Try.results5 Try.ntmps5 rfl ?_
                               exact ⟨_, rfl, k _ hc⟩
                         · replace hp := gpos hp (of_decide_eq_true hb57)
                           refine Wct rfl ?_
                           refine Wseq ?_
                           refine Wreg ?_
                           refine rs (v := .pointer (some ⟨b22, 0, none⟩)) (mv (v := .pointer (some ⟨b22, 0, none⟩)) rfl) rfl ?_
                           refine rs (v := .pointer (some ⟨b46, 3, none⟩)) (fax 3 rfl Try.underlying63 rfl Try.sizeOf46 rfl rfl rfl) rfl ?_
                           refine rs (v := .agg #[.int .i64 y33.S.Epoch, .int .i64 y33.S.Seq, .int .i64 y33.S.Ack, .slice a44 y33.S.Body.length q45]) (ldg rfl Try.isAgg46 Try.sizeOf46 rfl (Ctx.cells hc (k := 0) rfl rfl 3 (vs := [.int .i64 y33.S.Epoch, .int .i64 y33.S.Seq, .int .i64 y33.S.Ack, .slice a44 y33.S.Body.length q45]) rfl)) rfl ?_
                           replace hc := hc.dup (k := 2) rfl rfl
                           replace hp := bind_some hp; obtain ⟨r65, hr65, hp⟩ := hp
                           replace hc := hc.pull 5 rfl rfl
                           refine rc (cl Try.call15 rfl rfl) rfl ?_
                           refine link_Link_Hear_any (x1 := (⟨y33.S.Epoch, y33.S.Seq, y33.S.Ack, y33.S.Body⟩ : S_api_Seg)) hc hr65 ?_
                           clear hc; intro a66 n67 q68 w69 hc
                           obtain ⟨u70, _⟩ := Ctx.rdLen hc (k := 0) rfl rfl reads_own; subst u70
                           refine rs (v := .tuple #[.slice a66 r65.1.length q68, .int .i64 r65.2.1]) (mv (v := .tuple #[.slice a66 r65.1.length q68, .int .i64 r65.2.1]) rfl) rfl ?_
                           refine rs (v := .slice a66 r65.1.length q68) (ext (v := .slice a66 r65.1.length q68) rfl rfl) rfl ?_
                           refine rs (v := .int .i64 r65.2.1) (ext (v := .int .i64 r65.2.1) rfl rfl) rfl ?_
                           refine rs (v := .slice a66 r65.1.length q68) (av (v := .slice a66 r65.1.length q68) rfl) rfl ?_
                           refine rs (v := .int .i64 r65.2.1) (av (v := .int .i64 r65.2.1) rfl) rfl ?_
                           refine rn ?_
                           refine qn ?_
                           refine Wseq ?_
                           refine Wreg ?_
                           refine rs (v := .pointer (some ⟨b25, 0, none⟩)) (mv (v := .pointer (some ⟨b25, 0, none⟩)) rfl) rfl ?_
                           refine rs (v := .pointer (some ⟨b46, 3, none⟩)) (fax 3 rfl Try.underlying63 rfl Try.sizeOf46 rfl rfl rfl) rfl ?_
                           refine rs (v := .agg #[.int .i64 y33.S.Epoch, .int .i64 y33.S.Seq, .int .i64 y33.S.Ack, .slice a44 y33.S.Body.length q45]) (ldg rfl Try.isAgg46 Try.sizeOf46 rfl (Ctx.cells hc (k := 2) rfl rfl 3 (vs := [.int .i64 y33.S.Epoch, .int .i64 y33.S.Seq, .int .i64 y33.S.Ack, .slice a44 y33.S.Body.length q45]) rfl)) rfl ?_
                           replace hc := hc.dup (k := 4) rfl rfl
                           replace hp := bind_some hp; obtain ⟨r71, hr71, hp⟩ := hp
                           replace hc := hc.pull 6 rfl rfl
                           refine rc (cl Try.call21 rfl rfl) rfl ?_
                           refine ref16_Link_Hear_any (x1 := (⟨y33.S.Epoch, y33.S.Seq, y33.S.Ack, y33.S.Body⟩ : S_api_Seg)) hc hr71 ?_
                           clear hc; intro a72 n73 q74 w75 hc
                           obtain ⟨u76, _⟩ := Ctx.rdLen hc (k := 0) rfl rfl reads_own; subst u76
                           refine rs (v := .tuple #[.slice a72 r71.1.length q74, .int .i64 r71.2.1]) (mv (v := .tuple #[.slice a72 r71.1.length q74, .int .i64 r71.2.1]) rfl) rfl ?_
                           refine rs (v := .slice a72 r71.1.length q74) (ext (v := .slice a72 r71.1.length q74) rfl rfl) rfl ?_
                           refine rs (v := .int .i64 r71.2.1) (ext (v := .int .i64 r71.2.1) rfl rfl) rfl ?_
                           refine rs (v := .slice a72 r71.1.length q74) (av (v := .slice a72 r71.1.length q74) rfl) rfl ?_
                           refine rs (v := .int .i64 r71.2.1) (av (v := .int .i64 r71.2.1) rfl) rfl ?_
                           refine rn ?_
                           refine qn ?_
                           refine Wseq ?_
                           refine Wreg ?_
                           refine rs (v := .int .i64 r65.2.1) (mv (v := .int .i64 r65.2.1) rfl) rfl ?_
                           refine rs (v := .int .i64 r71.2.1) (mv (v := .int .i64 r71.2.1) rfl) rfl ?_
                           refine rs (v := .bool (decide (r65.2.1 ≠ r71.2.1))) (ned rfl rfl) rfl ?_
                           refine rs (v := .bool (decide (r65.2.1 ≠ r71.2.1))) (mv (v := .bool (decide (r65.2.1 ≠ r71.2.1))) rfl) rfl ?_
                           cases hb77 : (decide (r65.2.1 ≠ r71.2.1))
                           · replace hp := gneg hp (of_decide_eq_false hb77)
                             refine rs (v := .slice a66 r65.1.length q68) (mv (v := .slice a66 r65.1.length q68) rfl) rfl ?_
                             refine rs (v := .slice a72 r71.1.length q74) (mv (v := .slice a72 r71.1.length q74) rfl) rfl ?_
                             replace hp := bind_some hp; obtain ⟨r78, hr78, hp⟩ := hp
                             replace hc := hc.pull 2 rfl rfl
                             refine rc (cl Try.call22 rfl rfl) rfl ?_
                             refine law16_bodies_any reads_own reads_own hc hr78 ?_
                             clear hc; intro w79 hc
                             cases hb80 : r78
                             · replace hp := gneg hp (by rw [hb80]; exact Bool.false_ne_true)
                               subst hb80
                               refine rs (v := .bool true) (ntf rfl) rfl ?_
                               refine rs (v := .bool true) (pkf (v := .bool true) rfl rfl) rfl ?_
                               refine rn ?_
                               refine qn ?_
                               refine Wct rfl ?_
                               refine Wseq ?_
                               refine Wreg ?_
                               refine rs (v := .bool false) (av (v := .bool false) rfl) rfl ?_
                               refine rn ?_
                               refine qn ?_
                               refine Wret ?_
                               refine br ?_
                               refine qr ?_
                               refine br ?_
                               refine qr ?_
                               refine qr ?_
                               refine br ?_
                               refine qr ?_
                               replace hc := hc.rem 7 rfl rfl
                               replace hc := hc.rem 6 rfl rfl
                               replace hc := hc.rem 5 rfl rfl
                               replace hc := hc.rem 4 rfl rfl
                               replace hc := hc.rem 3 rfl rfl
                               replace hc := hc.rem 2 rfl rfl
                               replace hc := hc.rem 1 rfl rfl
                               replace hc := hc.rem 0 rfl rfl
                               injection hp with hp; subst hp
                               refine f1 (v := .bool false) Try.results5 Try.ntmps5 rfl ?_
                               exact ⟨_, rfl, k _ hc⟩
                             · replace hp := gpos hp hb80
                               subst hb80
                               refine rs (v := .bool false) (ntt rfl) rfl ?_
                               refine rs (v := .bool false) (pkf (v := .bool false) rfl rfl) rfl ?_
                               refine rn ?_
                               refine qn ?_
                               refine Wcf rfl ?_
                               refine Wskip ?_
                               refine bn ?_
                               refine qn ?_
                               replace hc := hc.rem 6 rfl rfl
                               replace hc := hc.rem 5 rfl rfl
                               replace hc := hc.rem 4 rfl rfl
                               replace hc := hc.rem 1 rfl rfl
                               replace hc := hc.rem 0 rfl rfl
                               exact ⟨⟨r71.2.2, r65.2.2, rfl, hp, hc⟩, (kl rfl kb)⟩
                           · replace hp := gpos hp (of_decide_eq_true hb77)
                             refine r0 rfl ?_
                             refine r0 rfl ?_
                             refine r0 rfl ?_
                             refine r0 rfl ?_
                             refine rs (v := .bool true) (pkt (v := .bool true) rfl rfl) rfl ?_
                             refine rn ?_
                             refine qn ?_
                             refine Wct rfl ?_
                             refine Wseq ?_
                             refine Wreg ?_
                             refine rs (v := .bool false) (av (v := .bool false) rfl) rfl ?_
                             refine rn ?_
                             refine qn ?_
                             refine Wret ?_
                             refine br ?_
                             refine qr ?_
                             refine br ?_
                             refine qr ?_
                             refine qr ?_
                             refine br ?_
                             refine qr ?_
                             replace hc := hc.rem 7 rfl rfl
                             replace hc := hc.rem 6 rfl rfl
                             replace hc := hc.rem 5 rfl rfl
                             replace hc := hc.rem 4 rfl rfl
                             replace hc := hc.rem 3 rfl rfl
                             replace hc := hc.rem 2 rfl rfl
                             replace hc := hc.rem 1 rfl rfl
                             replace hc := hc.rem 0 rfl rfl
                             injection hp with hp; subst hp
                             refine f1 (v := .bool false) Try.results5 Try.ntmps5 rfl ?_
                             exact ⟨_, rfl, k _ hc⟩
                       · replace hp := gpos hp (of_decide_eq_true hb56)
                         refine Wct rfl ?_
                         refine Wseq ?_
                         refine Wreg ?_
                         refine rs (v := .pointer (some ⟨b22, 0, none⟩)) (mv (v := .pointer (some ⟨b22, 0, none⟩)) rfl) rfl ?_
                         replace hp := bind_some hp; obtain ⟨r81, hr81, hp⟩ := hp
                         replace hc := hc.pull 4 rfl rfl
                         refine rc (cl Try.call14 rfl rfl) rfl ?_
                         refine link_Link_Tick_any hc hr81 ?_
                         clear hc; intro a82 n83 q84 w85 hc
                         obtain ⟨u86, _⟩ := Ctx.rdLen hc (k := 0) rfl rfl reads_own; subst u86
                         refine rs (v := .pointer (some ⟨b25, 0, none⟩)) (mv (v := .pointer (some ⟨b25, 0, none⟩)) rfl) rfl ?_
                         replace hp := bind_some hp; obtain ⟨r87, hr87, hp⟩ := hp
                         replace hc := hc.pull 5 rfl rfl
                         refine rc (cl Try.call20 rfl rfl) rfl ?_
                         refine ref16_Link_Tick_any hc hr87 ?_
                         clear hc; intro a88 n89 q90 w91 hc
                         obtain ⟨u92, _⟩ := Ctx.rdLen hc (k := 0) rfl rfl reads_own; subst u92
                         replace hp := bind_some hp; obtain ⟨r93, hr93, hp⟩ := hp
                         replace hc := hc.pull 2 rfl rfl
                         refine rc (cl Try.call19 rfl rfl) rfl ?_
                         refine law16_segs_any reads_own reads_own hc hr93 ?_
                         clear hc; intro w94 hc
                         cases hb95 : r93
                         · replace hp := gneg hp (by rw [hb95]; exact Bool.false_ne_true)
                           subst hb95
                           refine rs (v := .bool true) (ntf rfl) rfl ?_
                           refine rn ?_
                           refine qn ?_
                           refine Wct rfl ?_
                           refine Wseq ?_
                           refine Wreg ?_
                           refine rs (v := .bool false) (av (v := .bool false) rfl) rfl ?_
                           refine rn ?_
                           refine qn ?_
                           refine Wret ?_
                           refine br ?_
                           refine qr ?_
                           refine br ?_
                           refine qr ?_
                           refine qr ?_
                           refine br ?_
                           refine qr ?_
                           replace hc := hc.rem 7 rfl rfl
                           replace hc := hc.rem 6 rfl rfl
                           replace hc := hc.rem 5 rfl rfl
                           replace hc := hc.rem 4 rfl rfl
                           replace hc := hc.rem 3 rfl rfl
                           replace hc := hc.rem 2 rfl rfl
                           replace hc := hc.rem 1 rfl rfl
                           replace hc := hc.rem 0 rfl rfl
                           injection hp with hp; subst hp
                           refine f1 (v := .bool false) Try.results5 Try.ntmps5 rfl ?_
                           exact ⟨_, rfl, k _ hc⟩
                         · replace hp := gpos hp hb95
                           subst hb95
                           refine rs (v := .bool false) (ntt rfl) rfl ?_
                           refine rn ?_
                           refine qn ?_
                           refine Wcf rfl ?_
                           refine Wskip ?_
                           refine bn ?_
                           refine qn ?_
                           replace hc := hc.rem 6 rfl rfl
                           replace hc := hc.rem 5 rfl rfl
                           replace hc := hc.rem 4 rfl rfl
                           replace hc := hc.rem 1 rfl rfl
                           replace hc := hc.rem 0 rfl rfl
                           exact ⟨⟨r87.2, r81.2, rfl, hp, hc⟩, (kl rfl kb)⟩
                     · replace hp := gpos hp (of_decide_eq_true hb55)
                       refine Wct rfl ?_
                       refine Wseq ?_
                       replace hc := hc.drew
                       have hF : ∀ j, free [0, 0, 2, 7, 0, 0, 32, 127, 255] 0 j = true → (fun j w' => (j = 6 → w'.cell? ⟨b46, 2, none⟩ = some (.slice a42 y33.Bodies.length q43)) ∧ True) j (World.drew w51) := fun j hj => ⟨fun _ => hc.cell (k := 0) rfl rfl rfl, trivial⟩
                       refine Wdrw (fun j w' => (j = 6 → w'.cell? ⟨b46, 2, none⟩ = some (.slice a42 y33.Bodies.length q43)) ∧ True) [0, 0, 2, 7, 0, 0, 32, 127, 255] 0 4 rfl (by kernel_rfl) (hF) ?_
                       generalize hw : World.drew w51 = w96 at *
                       clear hw
                       refine ds (v := .pointer (some ⟨b22, 0, none⟩)) rfl (fun w' hF => mv (v := .pointer (some ⟨b22, 0, none⟩)) rfl) rfl ?_
                       refine ds (v := .pointer (some ⟨b46, 2, none⟩)) rfl (fun w' hF => fax 2 rfl Try.underlying63 rfl Try.sizeOf51 rfl rfl rfl) rfl ?_
                       refine dx (v := .slice a42 y33.Bodies.length q43) rfl (ld rfl Try.isAgg51 (Ctx.cell hc (k := 0) rfl rfl rfl)) rfl rfl ?_
                       replace hc := hc.dup (k := 1) rfl rfl
                       replace hp := bind_some hp; obtain ⟨r97, hr97, hp⟩ := hp
                       replace hc := hc.pull 5 rfl rfl
                       refine dc (cl Try.call13 rfl rfl) rfl rfl ?_
                       refine link_Link_Send_any reads_ro hc hr97 ?_
                       clear hc; intro w98 hc
                       refine ⟨fun j hj hb => ⟨fun _ => hc.cell (k := 2) rfl rfl rfl, trivial⟩, ?_⟩
                       refine ds (v := .pointer (some ⟨b25, 0, none⟩)) rfl (fun w' hF => mv (v := .pointer (some ⟨b25, 0, none⟩)) rfl) rfl ?_
                       refine ds (v := .pointer (some ⟨b46, 2, none⟩)) rfl (fun w' hF => fax 2 rfl Try.underlying63 rfl Try.sizeOf51 rfl rfl rfl) rfl ?_
                       refine ds (v := .slice a42 y33.Bodies.length q43) rfl (fun w' hF => ld rfl Try.isAgg51 ((hF.1 rfl))) rfl ?_
                       replace hc := hc.dup (k := 3) rfl rfl
                       replace hp := bind_some hp; obtain ⟨r99, hr99, hp⟩ := hp
                       replace hc := hc.pull 6 rfl rfl
                       refine dc (cl Try.call18 rfl rfl) rfl rfl ?_
                       refine ref16_Link_Send_any reads_ro hc hr99 ?_
                       clear hc; intro w100 hc
                       refine ⟨fun j hj hb => ⟨fun e => (by subst e; exact absurd hj (by decide)), trivial⟩, ?_⟩
                       refine ds (v := .bool (decide (r97.1 ≠ r99.1))) rfl (fun w' hF => ned rfl rfl) rfl ?_
                       refine dn ?_
                       refine qn ?_
                       cases hb101 : (decide (r97.1 ≠ r99.1))
                       · replace hp := gneg hp (of_decide_eq_false hb101)
                         refine Wcf rfl ?_
                         refine Wskip ?_
                         refine bn ?_
                         refine qn ?_
                         replace hc := hc.rem 6 rfl rfl
                         replace hc := hc.rem 5 rfl rfl
                         replace hc := hc.rem 4 rfl rfl
                         replace hc := hc.rem 3 rfl rfl
                         replace hc := hc.rem 1 rfl rfl
                         exact ⟨⟨r99.2, r97.2, rfl, hp, hc⟩, (kl rfl kb)⟩
                       · replace hp := gpos hp (of_decide_eq_true hb101)
                         refine Wct rfl ?_
                         refine Wseq ?_
                         refine Wreg ?_
                         refine rs (v := .bool false) (av (v := .bool false) rfl) rfl ?_
                         refine rn ?_
                         refine qn ?_
                         refine Wret ?_
                         refine br ?_
                         refine qr ?_
                         refine br ?_
                         refine qr ?_
                         refine qr ?_
                         refine br ?_
                         refine qr ?_
                         replace hc := hc.rem 7 rfl rfl
                         replace hc := hc.rem 6 rfl rfl
                         replace hc := hc.rem 5 rfl rfl
                         replace hc := hc.rem 4 rfl rfl
                         replace hc := hc.rem 3 rfl rfl
                         replace hc := hc.rem 2 rfl rfl
                         replace hc := hc.rem 1 rfl rfl
                         replace hc := hc.rem 0 rfl rfl
                         injection hp with hp; subst hp
                         refine f1 (v := .bool false) Try.results5 Try.ntmps5 rfl ?_
                         exact ⟨_, rfl, k _ hc⟩
                   · clear hp hc; intro vs u w102 hJ
                     obtain ⟨j53, j54, rfl, hp, hc⟩ := hJ
                     unfold law16_LinkActs.J3 at hp
                     refine Wseq ?_
                     replace hc := Ctx.exF hc; obtain ⟨v103, hc⟩ := hc
                     replace hc := Ctx.exF hc; obtain ⟨v104, hc⟩ := hc
                     replace hc := Ctx.sepF hc
                     replace hc := Ctx.sepF hc
                     obtain ⟨a105, q106, u107⟩ := hc.rd (k := 1) rfl rfl reads_own; subst u107
                     obtain ⟨a108, q109, u110⟩ := hc.rd (k := 2) rfl rfl reads_own; subst u110
                     replace hc := hc.drew
                     have hF : ∀ j, free (0 :: 1 :: 0 :: 4 :: 12 :: 28 :: 60 :: 127 :: 255 :: 511 :: 1023 :: 511 :: 2559 :: 6655 :: 14847 :: 32767 :: 65535 :: 131071 :: 262143 :: 524287 :: 262143 :: 1310719 :: 3407871 :: 7602175 :: 16777215 :: 33554431 :: 67108863 :: 134217727 :: 268435455 :: 134217727 :: 671088639 :: 2147483647 :: 4294967295 :: []) 525314 j = true → (fun j w' => (j = 5 → w'.cell? ⟨b25, 8, none⟩ = some (.slice a105 j53.Out.length q106)) ∧ (j = 14 → w'.cell? ⟨b25, 7, none⟩ = some (.int .i64 j53.Got)) ∧ (j = 23 → w'.cell? ⟨b25, 3, none⟩ = some (.int .i64 j53.Epoch)) ∧ (j = 30 → w'.cell? ⟨b1, 2, none⟩ = some (.int .i64 x0.Room)) ∧ True) j (World.drew w102) := fun j hj => ⟨fun _ => hc.cell (k := 0) rfl rfl rfl, fun e => (by subst e; exact absurd hj (by decide)), fun e => (by subst e; exact absurd hj (by decide)), fun e => (by subst e; exact absurd hj (by decide)), trivial⟩
                     refine Wdrw (fun j w' => (j = 5 → w'.cell? ⟨b25, 8, none⟩ = some (.slice a105 j53.Out.length q106)) ∧ (j = 14 → w'.cell? ⟨b25, 7, none⟩ = some (.int .i64 j53.Got)) ∧ (j = 23 → w'.cell? ⟨b25, 3, none⟩ = some (.int .i64 j53.Epoch)) ∧ (j = 30 → w'.cell? ⟨b1, 2, none⟩ = some (.int .i64 x0.Room)) ∧ True) (0 :: 1 :: 0 :: 4 :: 12 :: 28 :: 60 :: 127 :: 255 :: 511 :: 1023 :: 511 :: 2559 :: 6655 :: 14847 :: 32767 :: 65535 :: 131071 :: 262143 :: 524287 :: 262143 :: 1310719 :: 3407871 :: 7602175 :: 16777215 :: 33554431 :: 67108863 :: 134217727 :: 268435455 :: 134217727 :: 671088639 :: 2147483647 :: 4294967295 :: []) 525314 0 rfl (by kernel_rfl) (hF) ?_
                     generalize hw : World.drew w102 = w111 at *
                     clear hw
                     refine ds (v := .pointer (some ⟨b22, 0, none⟩)) rfl (fun w' hF => mv (v := .pointer (some ⟨b22, 0, none⟩)) rfl) rfl ?_
                     replace hp := bind_some hp; obtain ⟨r112, hr112, hp⟩ := hp
                     replace hc := hc.pull 3 rfl rfl
                     refine dc (cl Try.call10 rfl rfl) rfl rfl ?_
                     refine link_Link_Left_any hc hr112 ?_
                     clear hc; intro w113 hc
                     refine ⟨fun j hj hb => ⟨fun _ => hc.cell (k := 1) rfl rfl rfl, fun _ => hc.cell (k := 1) rfl rfl rfl, fun e => (by subst e; exact absurd hb (by decide)), fun e => (by subst e; exact absurd hb (by decide)), trivial⟩, ?_⟩
                     refine ds (v := .pointer (some ⟨b25, 0, none⟩)) rfl (fun w' hF => mv (v := .pointer (some ⟨b25, 0, none⟩)) rfl) rfl ?_
                     refine ds (v := .pointer (some ⟨b25, 0, none⟩)) rfl (fun w' hF => nl rfl) rfl ?_
                     refine ds (v := .pointer (some ⟨b25, 8, none⟩)) rfl (fun w' hF => fax 8 rfl Try.underlying61 rfl Try.sizeOf58 rfl rfl rfl) rfl ?_
                     refine ds (v := .slice a105 j53.Out.length q106) rfl (fun w' hF => ld rfl Try.isAgg58 ((hF.1 rfl))) rfl ?_
                     refine ds (v := .int .i64 ((j53.Out.length : Nat) : Int)) rfl (fun w' hF => ln rfl Try.underlying58) rfl ?_
                     refine ds (v := .bool (decide (r112 ≠ ((j53.Out.length : Nat) : Int)))) rfl (fun w' hF => ned rfl rfl) rfl ?_
                     refine ds (v := .bool (decide (r112 ≠ ((j53.Out.length : Nat) : Int)))) rfl (fun w' hF => mv (v := .bool (decide (r112 ≠ ((j53.Out.length : Nat) : Int)))) rfl) rfl ?_
                     cases hb114 : (decide (r112 ≠ ((j53.Out.length : Nat) : Int)))
                     · replace hp := gneg hp (of_decide_eq_false hb114)
                       refine ds (v := .pointer (some ⟨b22, 0, none⟩)) rfl (fun w' hF => mv (v := .pointer (some ⟨b22, 0, none⟩)) rfl) rfl ?_
                       replace hp := bind_some hp; obtain ⟨r115, hr115, hp⟩ := hp
                       refine dc (cl Try.call25 rfl rfl) rfl rfl ?_
                       refine link_Link_Got_any hc hr115 ?_
                       clear hc; intro w116 hc
                       refine ⟨fun j hj hb => ⟨fun e => (by subst e; exact absurd hj (by decide)), fun _ => hc.cell (k := 1) rfl rfl rfl, fun _ => hc.cell (k := 1) rfl rfl rfl, fun e => (by subst e; exact absurd hb (by decide)), trivial⟩, ?_⟩
                       refine ds (v := .pointer (some ⟨b25, 0, none⟩)) rfl (fun w' hF => mv (v := .pointer (some ⟨b25, 0, none⟩)) rfl) rfl ?_
                       refine ds (v := .pointer (some ⟨b25, 0, none⟩)) rfl (fun w' hF => nl rfl) rfl ?_
                       refine ds (v := .pointer (some ⟨b25, 7, none⟩)) rfl (fun w' hF => fax 7 rfl Try.underlying61 rfl Try.sizeOf3 rfl rfl rfl) rfl ?_
                       refine ds (v := .int .i64 j53.Got) rfl (fun w' hF => ld rfl Try.isAgg3 ((hF.2.1 rfl))) rfl ?_
                       refine ds (v := .bool (decide (r115 ≠ j53.Got))) rfl (fun w' hF => ned rfl rfl) rfl ?_
                       refine ds (v := .bool (decide (r115 ≠ j53.Got))) rfl (fun w' hF => pkf (v := .bool (decide (r115 ≠ j53.Got))) rfl rfl) rfl ?_
                       refine ds (v := .bool (decide (r115 ≠ j53.Got))) rfl (fun w' hF => mv (v := .bool (decide (r115 ≠ j53.Got))) rfl) rfl ?_
                       cases hb117 : (decide (r115 ≠ j53.Got))
                       · replace hp := gneg hp (of_decide_eq_false hb117)
                         refine ds (v := .pointer (some ⟨b22, 0, none⟩)) rfl (fun w' hF => mv (v := .pointer (some ⟨b22, 0, none⟩)) rfl) rfl ?_
                         replace hp := bind_some hp; obtain ⟨r118, hr118, hp⟩ := hp
                         refine dc (cl Try.call26 rfl rfl) rfl rfl ?_
                         refine link_Link_Epoch_any hc hr118 ?_
                         clear hc; intro w119 hc
                         refine ⟨fun j hj hb => ⟨fun e => (by subst e; exact absurd hj (by decide)), fun e => (by subst e; exact absurd hj (by decide)), fun _ => hc.cell (k := 1) rfl rfl rfl, fun _ => hc.cell (k := 4) rfl rfl rfl, trivial⟩, ?_⟩
                         refine ds (v := .pointer (some ⟨b25, 0, none⟩)) rfl (fun w' hF => mv (v := .pointer (some ⟨b25, 0, none⟩)) rfl) rfl ?_
                         refine ds (v := .pointer (some ⟨b25, 0, none⟩)) rfl (fun w' hF => nl rfl) rfl ?_
                         refine ds (v := .pointer (some ⟨b25, 3, none⟩)) rfl (fun w' hF => fax 3 rfl Try.underlying61 rfl Try.sizeOf3 rfl rfl rfl) rfl ?_
                         refine ds (v := .int .i64 j53.Epoch) rfl (fun w' hF => ld rfl Try.isAgg3 ((hF.2.2.1 rfl))) rfl ?_
                         refine ds (v := .bool (decide (r118 ≠ j53.Epoch))) rfl (fun w' hF => ned rfl rfl) rfl ?_
                         refine ds (v := .bool (decide (r118 ≠ j53.Epoch))) rfl (fun w' hF => pkf (v := .bool (decide (r118 ≠ j53.Epoch))) rfl rfl) rfl ?_
                         refine ds (v := .bool (decide (r118 ≠ j53.Epoch))) rfl (fun w' hF => mv (v := .bool (decide (r118 ≠ j53.Epoch))) rfl) rfl ?_
                         cases hb120 : (decide (r118 ≠ j53.Epoch))
                         · replace hp := gneg hp (of_decide_eq_false hb120)
                           refine ds (v := .pointer (some ⟨b22, 0, none⟩)) rfl (fun w' hF => mv (v := .pointer (some ⟨b22, 0, none⟩)) rfl) rfl ?_
                           replace hp := bind_some hp; obtain ⟨r121, hr121, hp⟩ := hp
                           refine dc (cl Try.call10 rfl rfl) rfl rfl ?_
                           refine link_Link_Left_any hc hr121 ?_
                           clear hc; intro w122 hc
                           refine ⟨fun j hj hb => ⟨fun e => (by subst e; exact absurd hj (by decide)), fun e => (by subst e; exact absurd hj (by decide)), fun e => (by subst e; exact absurd hj (by decide)), fun _ => hc.cell (k := 4) rfl rfl rfl, trivial⟩, ?_⟩
                           refine ds (v := .pointer (some ⟨b1, 2, none⟩)) rfl (fun w' hF => fax 2 rfl Try.underlying23 rfl Try.sizeOf3 rfl rfl rfl) rfl ?_
                           refine ds (v := .int .i64 x0.Room) rfl (fun w' hF => ld rfl Try.isAgg3 ((hF.2.2.2.1 rfl))) rfl ?_
                           refine ds (v := .bool (decide (r121 > x0.Room))) rfl (fun w' hF => gt' rfl rfl) rfl ?_
                           refine ds (v := .bool (decide (r121 > x0.Room))) rfl (fun w' hF => pkf (v := .bool (decide (r121 > x0.Room))) rfl rfl) rfl ?_
                           refine dn ?_
                           refine qn ?_
                           cases hb123 : (decide (r121 > x0.Room))
                           · replace hp := gneg hp (of_decide_eq_false hb123)
                             refine Wcf rfl ?_
                             refine Wskip ?_
                             refine bn ?_
                             refine qn ?_
                             refine Wreg ?_
                             refine rs (v := .int .i64 j30) (mv (v := .int .i64 j30) rfl) rfl ?_
                             refine rs (v := .int .i64 (IntKind.i64.wrap (j30 + 1))) (adw rfl rfl) rfl ?_
                             refine rs (v := .int .i64 (IntKind.i64.wrap (j30 + 1))) (av (v := .int .i64 (IntKind.i64.wrap (j30 + 1))) rfl) rfl ?_
                             refine rn ?_
                             refine qn ?_
                             replace hc := hc.pull 3 rfl rfl
                             replace hc := hc.pull 3 rfl rfl
                             replace hc := hc.pull 3 rfl rfl
                             replace hc : Ctx w122 (S_ref16_Link.hp b25 j53 :: S_link_Link.hp b22 j54 :: B b1 [.int .i64 x0.Window, .int .i64 x0.Span, .int .i64 x0.Room] 23 :: P1 :: Fr) := Ctx.exB _ _ (Ctx.exB _ _ (Ctx.sepB (Ctx.sepB hc)))
                             exact ⟨m2, Nat.lt_succ_self _, ⟨j53, j54, (IntKind.i64.wrap (j30 + 1)), rfl, hp, hc⟩, (kl rfl (km rfl (kl rfl k0)))⟩
                           · replace hp := gpos hp (of_decide_eq_true hb123)
                             refine Wct rfl ?_
                             refine Wseq ?_
                             refine Wreg ?_
                             refine rs (v := .bool false) (av (v := .bool false) rfl) rfl ?_
                             refine rn ?_
                             refine qn ?_
                             refine Wret ?_
                             refine br ?_
                             refine qr ?_
                             refine qr ?_
                             refine br ?_
                             refine qr ?_
                             replace hc := hc.rem 4 rfl rfl
                             replace hc := hc.rem 3 rfl rfl
                             replace hc := hc.rem 2 rfl rfl
                             replace hc := hc.rem 1 rfl rfl
                             replace hc := hc.rem 0 rfl rfl
                             injection hp with hp; subst hp
                             refine f1 (v := .bool false) Try.results5 Try.ntmps5 rfl ?_
                             exact ⟨_, rfl, k _ hc⟩
                         · replace hp := gpos hp (of_decide_eq_true hb120)
                           refine d0 rfl rfl ?_
                           refine d0 rfl rfl ?_
                           refine d0 rfl rfl ?_
                           refine d0 rfl rfl ?_
                           refine d0 rfl rfl ?_
                           refine ds (v := .bool true) rfl (fun w' hF => pkt (v := .bool true) rfl rfl) rfl ?_
                           refine dn ?_
                           refine qn ?_
                           refine Wct rfl ?_
                           refine Wseq ?_
                           refine Wreg ?_
                           refine rs (v := .bool false) (av (v := .bool false) rfl) rfl ?_
                           refine rn ?_
                           refine qn ?_
                           refine Wret ?_
                           refine br ?_
                           refine qr ?_
                           refine qr ?_
                           refine br ?_
                           refine qr ?_
                           replace hc := hc.rem 4 rfl rfl
                           replace hc := hc.rem 3 rfl rfl
                           replace hc := hc.rem 2 rfl rfl
                           replace hc := hc.rem 1 rfl rfl
                           replace hc := hc.rem 0 rfl rfl
                           injection hp with hp; subst hp
                           refine f1 (v := .bool false) Try.results5 Try.ntmps5 rfl ?_
                           exact ⟨_, rfl, k _ hc⟩
                       · replace hp := gpos hp (of_decide_eq_true hb117)
                         refine d0 rfl rfl ?_
                         refine d0e rfl (fun j hj hb => ⟨fun e => (by subst e; exact absurd hj (by decide)), fun e => (by subst e; exact absurd hj (by decide)), fun _ => hc.cell (k := 1) rfl rfl rfl, fun _ => hc.cell (k := 4) rfl rfl rfl, trivial⟩) rfl ?_
                         refine d0 rfl rfl ?_
                         refine d0 rfl rfl ?_
                         refine d0 rfl rfl ?_
                         refine d0 rfl rfl ?_
                         refine d0 rfl rfl ?_
                         refine ds (v := .bool true) rfl (fun w' hF => pkt (v := .bool true) rfl rfl) rfl ?_
                         refine ds (v := .bool true) rfl (fun w' hF => mv (v := .bool true) rfl) rfl ?_
                         refine d0 rfl rfl ?_
                         refine d0 rfl rfl ?_
                         refine d0 rfl rfl ?_
                         refine d0 rfl rfl ?_
                         refine d0 rfl rfl ?_
                         refine ds (v := .bool true) rfl (fun w' hF => pkt (v := .bool true) rfl rfl) rfl ?_
                         refine dn ?_
                         refine qn ?_
                         refine Wct rfl ?_
                         refine Wseq ?_
                         refine Wreg ?_
                         refine rs (v := .bool false) (av (v := .bool false) rfl) rfl ?_
                         refine rn ?_
                         refine qn ?_
                         refine Wret ?_
                         refine br ?_
                         refine qr ?_
                         refine qr ?_
                         refine br ?_
                         refine qr ?_
                         replace hc := hc.rem 4 rfl rfl
                         replace hc := hc.rem 3 rfl rfl
                         replace hc := hc.rem 2 rfl rfl
                         replace hc := hc.rem 1 rfl rfl
                         replace hc := hc.rem 0 rfl rfl
                         injection hp with hp; subst hp
                         refine f1 (v := .bool false) Try.results5 Try.ntmps5 rfl ?_
                         exact ⟨_, rfl, k _ hc⟩
                     · replace hp := gpos hp (of_decide_eq_true hb114)
                       refine d0 rfl rfl ?_
                       refine d0e rfl (fun j hj hb => ⟨fun e => (by subst e; exact absurd hj (by decide)), fun _ => hc.cell (k := 1) rfl rfl rfl, fun _ => hc.cell (k := 1) rfl rfl rfl, fun e => (by subst e; exact absurd hb (by decide)), trivial⟩) rfl ?_
                       refine d0 rfl rfl ?_
                       refine d0 rfl rfl ?_
                       refine d0 rfl rfl ?_
                       refine d0 rfl rfl ?_
                       refine d0 rfl rfl ?_
                       refine ds (v := .bool true) rfl (fun w' hF => pkt (v := .bool true) rfl rfl) rfl ?_
                       refine ds (v := .bool true) rfl (fun w' hF => mv (v := .bool true) rfl) rfl ?_
                       refine d0 rfl rfl ?_
                       refine d0e rfl (fun j hj hb => ⟨fun e => (by subst e; exact absurd hj (by decide)), fun e => (by subst e; exact absurd hj (by decide)), fun _ => hc.cell (k := 1) rfl rfl rfl, fun _ => hc.cell (k := 4) rfl rfl rfl, trivial⟩) rfl ?_
                       refine d0 rfl rfl ?_
                       refine d0 rfl rfl ?_
                       refine d0 rfl rfl ?_
                       refine d0 rfl rfl ?_
                       refine d0 rfl rfl ?_
                       refine ds (v := .bool true) rfl (fun w' hF => pkt (v := .bool true) rfl rfl) rfl ?_
                       refine ds (v := .bool true) rfl (fun w' hF => mv (v := .bool true) rfl) rfl ?_
                       refine d0 rfl rfl ?_
                       refine d0 rfl rfl ?_
                       refine d0 rfl rfl ?_
                       refine d0 rfl rfl ?_
                       refine d0 rfl rfl ?_
                       refine ds (v := .bool true) rfl (fun w' hF => pkt (v := .bool true) rfl rfl) rfl ?_
                       refine dn ?_
                       refine qn ?_
                       refine Wct rfl ?_
                       refine Wseq ?_
                       refine Wreg ?_
                       refine rs (v := .bool false) (av (v := .bool false) rfl) rfl ?_
                       refine rn ?_
                       refine qn ?_
                       refine Wret ?_
                       refine br ?_
                       refine qr ?_
                       refine qr ?_
                       refine br ?_
                       refine qr ?_
                       replace hc := hc.rem 4 rfl rfl
                       replace hc := hc.rem 3 rfl rfl
                       replace hc := hc.rem 2 rfl rfl
                       replace hc := hc.rem 1 rfl rfl
                       replace hc := hc.rem 0 rfl rfl
                       injection hp with hp; subst hp
                       refine f1 (v := .bool false) Try.results5 Try.ntmps5 rfl ?_
                       exact ⟨_, rfl, k _ hc⟩
           · replace hp := gpos hp (of_decide_eq_true hb24)
             refine Wct rfl ?_
             refine Wseq ?_
             refine Wreg ?_
             refine rs (v := .bool false) (av (v := .bool false) rfl) rfl ?_
             refine rn ?_
             refine qn ?_
             refine Wret ?_
             refine qr ?_
             replace hc := hc.rem 1 rfl rfl
             replace hc := hc.rem 0 rfl rfl
             injection hp with hp; subst hp
             refine f1 (v := .bool false) Try.results5 Try.ntmps5 rfl ?_
             exact ⟨_, rfl, k _ hc⟩
       · replace hp := gpos hp hb18
         subst hb18
         refine Wct rfl ?_
         refine Wseq ?_
         refine Wreg ?_
         refine rs (v := v11) (mv (v := v11) rfl) rfl ?_
         cases hb124 : r10.1
         · replace hp := optN hp hb124
           rw [hb124] at hc
           replace hc := Ctx.ptoN hc; obtain ⟨u126, hc⟩ := hc; subst u126
           refine rs (v := .bool true) (ept Try.underlying27 rfl rfl) rfl ?_
           refine rs (v := .bool true) (mv (v := .bool true) rfl) rfl ?_
           refine rs (v := .int .i64 r10.2) (mv (v := .int .i64 r10.2) rfl) rfl ?_
           refine rs (v := .bool (decide (r10.2 = 2))) (eqd rfl rfl) rfl ?_
           refine rs (v := .bool (decide (r10.2 = 2))) (pkt (v := .bool (decide (r10.2 = 2))) rfl rfl) rfl ?_
           refine rs (v := .bool (decide (r10.2 = 2))) (av (v := .bool (decide (r10.2 = 2))) rfl) rfl ?_
           refine rn ?_
           refine qn ?_
           refine Wret ?_
           refine qr ?_
           replace hc := hc.rem 0 rfl rfl
           injection hp with hp; subst hp
           refine f1 (v := .bool (decide (r10.2 = 2))) Try.results5 Try.ntmps5 rfl ?_
           exact ⟨_, rfl, k _ hc⟩
         · rename_i y125
           replace hp := optS hp hb124
           rw [hb124] at hc
           replace hc := Ctx.ptoS hc; obtain ⟨b127, u128, hc⟩ := hc; subst u128
           refine rs (v := .bool false) (epf Try.underlying27 rfl rfl) rfl ?_
           refine rs (v := .bool false) (mv (v := .bool false) rfl) rfl ?_
           refine r0 rfl ?_
           refine r0 rfl ?_
           refine rs (v := .bool false) (pkf (v := .bool false) rfl rfl) rfl ?_
           refine rs (v := .bool false) (av (v := .bool false) rfl) rfl ?_
           refine rn ?_
           refine qn ?_
           refine Wret ?_
           refine qr ?_
           replace hc := hc.rem 1 rfl rfl
           replace hc := hc.rem 0 rfl rfl
           injection hp with hp; subst hp
           refine f1 (v := .bool false) Try.results5 Try.ntmps5 rfl ?_
           exact ⟨_, rfl, k _ hc⟩
   · replace hp := gpos hp (of_decide_eq_true hb9)
     refine Wct rfl ?_
     refine Wseq ?_
     refine Wreg ?_
     replace hp := bind_some hp; obtain ⟨r129, hr129, hp⟩ := hp
     refine rc (cl Try.call7 rfl rfl) rfl ?_
     refine law16_awake_any hc hr129 ?_
     clear hc; intro w130 hc
     refine rs (v := .bool r129) (av (v := .bool r129) rfl) rfl ?_
     refine rn ?_
     refine qn ?_
     refine Wret ?_
     refine qr ?_
     replace hc := hc.rem 0 rfl rfl
     injection hp with hp; subst hp
     refine f1 (v := .bool r129) Try.results5 Try.ntmps5 rfl ?_
     exact ⟨_, rfl, k _ hc⟩

end Go.Proofs.Ytjileigclbohdaa
