/- Functions of the program as plain functions, and the proofs that walks compute them. Printed by a program of this session. -/
import Derived.Test.YtjileigclbohdaaT1b
namespace Go.Proofs.Ytjileigclbohdaa
open Go Go.RowKit Go.Hp
set_option linter.unusedVariables false
set_option linter.unusedSimpArgs false
set_option maxRecDepth 100000

-- FN peloton/pelotonlaw16.LinkEpochs
def law16_LinkEpochs.L7 (N : Nat) (j63 : Int) (j87 : (List (List Int))) (r95 : ((List S_api_Seg) × S_link_Link)) (k4 : S_link_Link → S_link_Link → (List (List Int)) → Int → Option (Bool)) : Nat → S_link_Link → Int → Option (Bool)
  | 0, _, _ => none
  | m7 + 1, j101, j102 =>
    if j102 < ((r95.1.length : Nat) : Int) then
      (idx r95.1 j102).bind fun y105 =>
      (link_Link_Hear N j101 y105).bind fun r116 =>
      if r116.2.1 ≠ 0 then
        some false
      else
        (law16_LinkEpochs.L7 N j63 j87 r95 k4 m7) r116.2.2 (IntKind.i64.wrap (j102 + 1))
    else
      k4 j101 r95.2 j87 (IntKind.i64.wrap (j63 + 1))

def law16_LinkEpochs.L6 (N : Nat) (j63 : Int) (r80 : ((List S_api_Seg) × S_link_Link)) (k4 : S_link_Link → S_link_Link → (List (List Int)) → Int → Option (Bool)) : Nat → S_link_Link → (List (List Int)) → Int → Option (Bool)
  | 0, _, _, _ => none
  | m6 + 1, j86, j87, j91 =>
    if j91 < ((r80.1.length : Nat) : Int) then
      (idx r80.1 j91).bind fun y123 =>
      (link_Link_Hear N j86 y123).bind fun r134 =>
      if r134.2.1 ≠ 0 then
        some false
      else
        (app j87 r134.1).bind fun z141 =>
        (law16_LinkEpochs.L6 N j63 r80 k4 m6) r134.2.2 z141 (IntKind.i64.wrap (j91 + 1))
    else
      (link_Link_Tick N j86).bind fun r95 =>
      law16_LinkEpochs.L7 N j63 j87 r95 k4 N r80.2 0

def law16_LinkEpochs.J5 (N : Nat) (x1 : (List (List Int))) (e30 : Int) (j57 : S_link_Link) (j58 : S_link_Link) (j59 : (List (List Int))) (j63 : Int) (k4 : S_link_Link → S_link_Link → (List (List Int)) → Int → Option (Bool)) (j66 : Bool) : Option (Bool) :=
  if j66 = true then
    (link_Link_Tick N j57).bind fun r80 =>
    law16_LinkEpochs.L6 N j63 r80 k4 N j58 j59 0
  else
    (law16_bodies N j59 x1).bind fun r72 =>
    if r72 = true then
      (link_Link_Got j58).bind fun r75 =>
      if r75 = ((x1.length : Nat) : Int) then
        (link_Link_Epoch j57).bind fun r78 =>
        some (decide (r78 = e30))
      else
        some false
    else
      some false

def law16_LinkEpochs.L4 (N : Nat) (x1 : (List (List Int))) (e30 : Int) : Nat → S_link_Link → S_link_Link → (List (List Int)) → Int → Option (Bool)
  | 0, _, _, _, _ => none
  | m4 + 1, j57, j58, j59, j63 =>
    if j63 < 200 then
      (link_Link_Left j57).bind fun r68 =>
      law16_LinkEpochs.J5 N x1 e30 j57 j58 j59 j63 (law16_LinkEpochs.L4 N x1 e30 m4) (decide (r68 > 0))
    else
      law16_LinkEpochs.J5 N x1 e30 j57 j58 j59 j63 (law16_LinkEpochs.L4 N x1 e30 m4) false

def law16_LinkEpochs.L3 (N : Nat) (x1 : (List (List Int))) (e30 : Int) (r33 : ((List S_api_Seg) × S_link_Link)) (r45 : (Int × S_link_Link)) : Nat → S_link_Link → Int → Option (Bool)
  | 0, _, _ => none
  | m3 + 1, j51, j52 =>
    if j52 < ((r33.1.length : Nat) : Int) then
      (idx r33.1 j52).bind fun y147 =>
      (link_Link_Hear N j51 y147).bind fun r158 =>
      if r158.2.1 ≠ 160 then
        some false
      else
        if ((r158.1.length : Nat) : Int) ≠ 0 then
          some false
        else
          (link_Link_Got r158.2.2).bind fun r166 =>
          if r166 ≠ 0 then
            some false
          else
            (law16_LinkEpochs.L3 N x1 e30 r33 r45 m3) r158.2.2 (IntKind.i64.wrap (j52 + 1))
    else
      (link_Link_Send N r45.2 x1).bind fun r55 =>
      law16_LinkEpochs.L4 N x1 e30 N r55.2 j51 ([]) 0

def law16_LinkEpochs.L2 (N : Nat) (x0 : (List (List Int))) (x1 : (List (List Int))) (x2 : Int) (y15 : S_link_Link) (y20 : S_link_Link) : Nat → Int → Option (Bool)
  | 0, _ => none
  | m2 + 1, j27 =>
    if j27 < ((x1.length : Nat) : Int) then
      (idx x1 j27).bind fun y169 =>
      if ((y169.length : Nat) : Int) > 500 then
        some true
      else
        (law16_LinkEpochs.L2 N x0 x1 x2 y15 y20 m2) (IntKind.i64.wrap (j27 + 1))
    else
      (some (IntKind.i64.wrap (1 + (Int.tmod (IntKind.i64.wrap ((Int.tmod x2 1000) + 1000)) 1000)))).bind fun e30 =>
      (link_Link_Send N y15 x0).bind fun r31 =>
      (link_Link_Tick N r31.2).bind fun r33 =>
      (link_Link_Reset r33.2 e30).bind fun r39 =>
      if r39.1 ≠ 0 then
        some false
      else
        (link_Link_Reset y20 e30).bind fun r42 =>
        if r42.1 ≠ 0 then
          some false
        else
          (link_Link_Reset r39.2 e30).bind fun r45 =>
          if r45.1 ≠ 160 then
            some false
          else
            (link_Link_Left r45.2).bind fun r48 =>
            if r48 ≠ 0 then
              some false
            else
              law16_LinkEpochs.L3 N x1 e30 r33 r45 N r42.2 0

def law16_LinkEpochs.L1 (N : Nat) (x0 : (List (List Int))) (x1 : (List (List Int))) (x2 : Int) (y15 : S_link_Link) (y20 : S_link_Link) : Nat → Int → Option (Bool)
  | 0, _ => none
  | m1 + 1, j24 =>
    if j24 < ((x0.length : Nat) : Int) then
      (idx x0 j24).bind fun y182 =>
      if ((y182.length : Nat) : Int) > 500 then
        some true
      else
        (law16_LinkEpochs.L1 N x0 x1 x2 y15 y20 m1) (IntKind.i64.wrap (j24 + 1))
    else
      law16_LinkEpochs.L2 N x0 x1 x2 y15 y20 N 0

def law16_LinkEpochs (N : Nat) (x0 : (List (List Int))) (x1 : (List (List Int))) (x2 : Int) : Option (Bool) :=
  (law16_awake N).bind fun r1 =>
  if r1 = true then
    if ((x0.length : Nat) : Int) > 30 then
      (law16_awake N).bind fun r197 =>
      some r197
    else
      if ((x1.length : Nat) : Int) > 30 then
        (law16_awake N).bind fun r195 =>
        some r195
      else
        (link_New 8 2 100).bind fun r8 =>
        (link_New 8 2 100).bind fun r11 =>
        optc r8.1 (
          some false) fun y15 =>
        optc r11.1 (
          some false) fun y20 =>
        law16_LinkEpochs.L1 N x0 x1 x2 y15 y20 N 0
  else
    (law16_awake N).bind fun r4 =>
    some r4

set_option maxHeartbeats 8000000 in
theorem law16_LinkEpochs_any {N : Nat} {x0 : (List (List Int))} {ax0 : Option Addr} {nx0 : Nat} {qx0 : Nat} {P0 : HP} {x1 : (List (List Int))} {ax1 : Option Addr} {nx1 : Nat} {qx1 : Nat} {P1 : HP} {x2 : Int} {Fr : List HP} {w : World} {r : Bool} {K : Value → World → Prop} (hrd0 : Reads P0 (pRo (pInt .u8)) (.slice ax0 nx0 qx0) x0) (hrd1 : Reads P1 (pRo (pInt .u8)) (.slice ax1 nx1 qx1) x1) (hc : Ctx w (P0 :: P1 :: Fr)) (hp : law16_LinkEpochs N x0 x1 x2 = some r)
    (k : ∀ w', Ctx w' (P0 :: P1 :: Fr) → K (.bool r) w') : Calls Try.prog 6 #[.slice ax0 nx0 qx0, .slice ax1 nx1 qx1, .int .i64 x2] w (Ret K) := by
 unfold law16_LinkEpochs at hp
 refine Center (args := [.slice ax0 nx0 qx0, .slice ax1 nx1 qx1, .int .i64 x2]) (l := [(0, .slice ax0 nx0 qx0), (1, .slice ax1 nx1 qx1), (2, .int .i64 x2)]) Try.func6 Try.ntmps6 rfl rfl rfl ?_
 obtain ⟨hn0, _⟩ := Ctx.rdLen hc (k := 0) rfl rfl hrd0; subst hn0
 obtain ⟨hn1, _⟩ := Ctx.rdLen hc (k := 1) rfl rfl hrd1; subst hn1
 refine Wseq ?_
 refine Wreg ?_
 refine rs (v := .bool false) (av (v := .bool false) rfl) rfl ?_
 refine rn ?_
 refine qn ?_
 refine Wseq ?_
 refine Wseq ?_
 refine Wreg ?_
 replace hp := bind_some hp; obtain ⟨r1, hr1, hp⟩ := hp
 refine rc (cl Try.call7 rfl rfl) rfl ?_
 refine law16_awake_any hc hr1 ?_
 clear hc; intro w2 hc
 cases hb3 : r1
 · replace hp := gneg hp (by rw [hb3]; exact Bool.false_ne_true)
   subst hb3
   refine rs (v := .bool true) (ntf rfl) rfl ?_
   refine rs (v := .bool true) (mv (v := .bool true) rfl) rfl ?_
   refine r0 rfl ?_
   refine r0 rfl ?_
   refine r0 rfl ?_
   refine rs (v := .bool true) (pkt (v := .bool true) rfl rfl) rfl ?_
   refine rs (v := .bool true) (mv (v := .bool true) rfl) rfl ?_
   refine r0 rfl ?_
   refine r0 rfl ?_
   refine r0 rfl ?_
   refine rs (v := .bool true) (pkt (v := .bool true) rfl rfl) rfl ?_
   refine rn ?_
   refine qn ?_
   refine Wct rfl ?_
   refine Wseq ?_
   refine Wreg ?_
   replace hp := bind_some hp; obtain ⟨r4, hr4, hp⟩ := hp
   refine rc (cl Try.call7 rfl rfl) rfl ?_
   refine law16_awake_any hc hr4 ?_
   clear hc; intro w5 hc
   refine rs (v := .bool r4) (av (v := .bool r4) rfl) rfl ?_
   refine rn ?_
   refine qn ?_
   refine Wret ?_
   refine qr ?_
   injection hp with hp; subst hp
   refine f1 (v := .bool r4) Try.results6 Try.ntmps6 rfl ?_
   exact ⟨_, rfl, k _ hc⟩
 · replace hp := gpos hp hb3
   subst hb3
   refine rs (v := .bool false) (ntt rfl) rfl ?_
   refine rs (v := .bool false) (mv (v := .bool false) rfl) rfl ?_
   refine rs (v := .slice ax0 x0.length qx0) (mv (v := .slice ax0 x0.length qx0) rfl) rfl ?_
   refine rs (v := .int .i64 ((x0.length : Nat) : Int)) (ln rfl Try.underlying51) rfl ?_
   refine rs (v := .bool (decide (((x0.length : Nat) : Int) > 30))) (gt' rfl rfl) rfl ?_
   refine rs (v := .bool (decide (((x0.length : Nat) : Int) > 30))) (pkf (v := .bool (decide (((x0.length : Nat) : Int) > 30))) rfl rfl) rfl ?_
   refine rs (v := .bool (decide (((x0.length : Nat) : Int) > 30))) (mv (v := .bool (decide (((x0.length : Nat) : Int) > 30))) rfl) rfl ?_
   cases hb6 : (decide (((x0.length : Nat) : Int) > 30))
   · replace hp := gneg hp (of_decide_eq_false hb6)
     refine rs (v := .slice ax1 x1.length qx1) (mv (v := .slice ax1 x1.length qx1) rfl) rfl ?_
     refine rs (v := .int .i64 ((x1.length : Nat) : Int)) (ln rfl Try.underlying51) rfl ?_
     refine rs (v := .bool (decide (((x1.length : Nat) : Int) > 30))) (gt' rfl rfl) rfl ?_
     refine rs (v := .bool (decide (((x1.length : Nat) : Int) > 30))) (pkf (v := .bool (decide (((x1.length : Nat) : Int) > 30))) rfl rfl) rfl ?_
     refine rn ?_
     refine qn ?_
     cases hb7 : (decide (((x1.length : Nat) : Int) > 30))
     · replace hp := gneg hp (of_decide_eq_false hb7)
       refine Wcf rfl ?_
       refine Wskip ?_
       refine qn ?_
       refine Wseq ?_
       refine Wreg ?_
       replace hp := bind_some hp; obtain ⟨r8, hr8, hp⟩ := hp
       refine rc (cl Try.call8 rfl rfl) rfl ?_
       refine link_New_any hc hr8 ?_
       clear hc; intro v9 w10 hc
       refine rs (v := .tuple #[v9, .int .i64 r8.2]) (mv (v := .tuple #[v9, .int .i64 r8.2]) rfl) rfl ?_
       refine rs (v := v9) (ext (v := v9) rfl rfl) rfl ?_
       refine rs (v := .int .i64 r8.2) (ext (v := .int .i64 r8.2) rfl rfl) rfl ?_
       refine rs (v := v9) (av (v := v9) rfl) rfl ?_
       refine rs (v := .int .i64 r8.2) (av (v := .int .i64 r8.2) rfl) rfl ?_
       refine rn ?_
       refine qn ?_
       refine Wseq ?_
       refine Wreg ?_
       replace hp := bind_some hp; obtain ⟨r11, hr11, hp⟩ := hp
       refine rc (cl Try.call8 rfl rfl) rfl ?_
       refine link_New_any hc hr11 ?_
       clear hc; intro v12 w13 hc
       refine rs (v := .tuple #[v12, .int .i64 r11.2]) (mv (v := .tuple #[v12, .int .i64 r11.2]) rfl) rfl ?_
       refine rs (v := v12) (ext (v := v12) rfl rfl) rfl ?_
       refine rs (v := .int .i64 r11.2) (ext (v := .int .i64 r11.2) rfl rfl) rfl ?_
       refine rs (v := v12) (av (v := v12) rfl) rfl ?_
       refine rs (v := .int .i64 r11.2) (av (v := .int .i64 r11.2) rfl) rfl ?_
       refine rn ?_
       refine qn ?_
       refine Wseq ?_
       refine Wseq ?_
       refine Wreg ?_
       refine rs (v := v9) (mv (v := v9) rfl) rfl ?_
       replace hc := hc.pull 1 rfl rfl
       replace hc : Ctx w13 (PtO S_link_Link.hp v9 r8.1 :: PtO S_link_Link.hp v12 r11.1 :: P0 :: P1 :: Fr) := hc
       cases hb14 : r8.1
       · replace hp := optN hp hb14
         rw [hb14] at hc
         replace hc := Ctx.ptoN hc; obtain ⟨u16, hc⟩ := hc; subst u16
         refine rs (v := .bool true) (ept Try.underlying27 rfl rfl) rfl ?_
         refine rs (v := .bool true) (mv (v := .bool true) rfl) rfl ?_
         refine r0 rfl ?_
         refine r0 rfl ?_
         refine rs (v := .bool true) (pkt (v := .bool true) rfl rfl) rfl ?_
         refine rn ?_
         refine qn ?_
         refine Wct rfl ?_
         refine Wseq ?_
         refine Wreg ?_
         refine rs (v := .bool false) (av (v := .bool false) rfl) rfl ?_
         refine rn ?_
         refine qn ?_
         refine Wret ?_
         refine qr ?_
         replace hc := hc.rem 0 rfl rfl
         injection hp with hp; subst hp
         refine f1 (v := .bool false) Try.results6 Try.ntmps6 rfl ?_
         exact ⟨_, rfl, k _ hc⟩
       · rename_i y15
         replace hp := optS hp hb14
         rw [hb14] at hc
         replace hc := Ctx.ptoS hc; obtain ⟨b17, u18, hc⟩ := hc; subst u18
         refine rs (v := .bool false) (epf Try.underlying27 rfl rfl) rfl ?_
         refine rs (v := .bool false) (mv (v := .bool false) rfl) rfl ?_
         refine rs (v := v12) (mv (v := v12) rfl) rfl ?_
         replace hc := hc.pull 1 rfl rfl
         replace hc : Ctx w13 (PtO S_link_Link.hp v12 r11.1 :: S_link_Link.hp b17 y15 :: P0 :: P1 :: Fr) := hc
         cases hb19 : r11.1
         · replace hp := optN hp hb19
           rw [hb19] at hc
           replace hc := Ctx.ptoN hc; obtain ⟨u21, hc⟩ := hc; subst u21
           refine rs (v := .bool true) (ept Try.underlying27 rfl rfl) rfl ?_
           refine rs (v := .bool true) (pkf (v := .bool true) rfl rfl) rfl ?_
           refine rn ?_
           refine qn ?_
           refine Wct rfl ?_
           refine Wseq ?_
           refine Wreg ?_
           refine rs (v := .bool false) (av (v := .bool false) rfl) rfl ?_
           refine rn ?_
           refine qn ?_
           refine Wret ?_
           refine qr ?_
           replace hc := hc.rem 0 rfl rfl
           injection hp with hp; subst hp
           refine f1 (v := .bool false) Try.results6 Try.ntmps6 rfl ?_
           exact ⟨_, rfl, k _ hc⟩
         · rename_i y20
           replace hp := optS hp hb19
           rw [hb19] at hc
           replace hc := Ctx.ptoS hc; obtain ⟨b22, u23, hc⟩ := hc; subst u23
           refine rs (v := .bool false) (epf Try.underlying27 rfl rfl) rfl ?_
           refine rs (v := .bool false) (pkf (v := .bool false) rfl rfl) rfl ?_
           refine rn ?_
           refine qn ?_
           refine Wcf rfl ?_
           refine Wskip ?_
           refine qn ?_
           refine Wseq ?_
           refine Wseq ?_
           refine Wreg ?_
           refine rs (v := .int .i64 0) (av (v := .int .i64 0) rfl) rfl ?_
           refine rn ?_
           refine qn ?_
           refine Wblk ?_
           refine Wloop [6, 11, 54, 55, 56, 57, 58, 59, 60, 61, 62, 63, 64, 65] [11] (fun m vs w' => ∃ j24 : Int, vs = [.int .i64 j24] ∧ law16_LinkEpochs.L1 N x0 x1 x2 y15 y20 m j24 = some r ∧ Ctx w' (S_link_Link.hp b22 y20 :: S_link_Link.hp b17 y15 :: P0 :: P1 :: Fr)) N ?_ ?_
           · exact ⟨0, rfl, hp, hc⟩
           · clear hp hc; intro m vs u w25 hJ
             obtain ⟨j24, rfl, hp, hc⟩ := hJ
             rcases m with _ | m1
             · cases (show none = some r from hp)
             rw [law16_LinkEpochs.L1] at hp
             refine Wseq ?_
             refine Wseq ?_
             refine Wreg ?_
             refine rs (v := .int .i64 j24) (mv (v := .int .i64 j24) rfl) rfl ?_
             refine rs (v := .slice ax0 x0.length qx0) (mv (v := .slice ax0 x0.length qx0) rfl) rfl ?_
             refine rs (v := .int .i64 ((x0.length : Nat) : Int)) (ln rfl Try.underlying51) rfl ?_
             refine rs (v := .bool (decide (j24 < ((x0.length : Nat) : Int)))) (lt' rfl rfl) rfl ?_
             refine rn ?_
             refine qn ?_
             cases hb26 : (decide (j24 < ((x0.length : Nat) : Int)))
             · replace hp := gneg hp (of_decide_eq_false hb26)
               refine Wcf rfl ?_
               refine Wexit ?_
               refine qx ?_
               refine qx ?_
               refine be ?_
               refine qn ?_
               refine Wseq ?_
               refine Wseq ?_
               refine Wreg ?_
               refine rs (v := .int .i64 0) (av (v := .int .i64 0) rfl) rfl ?_
               refine rn ?_
               refine qn ?_
               refine Wblk ?_
               refine Wloop [6, 12, 66, 67, 68, 69, 70, 71, 72, 73, 74, 75, 76, 77] [12] (fun m vs w' => ∃ j27 : Int, vs = [.int .i64 j27] ∧ law16_LinkEpochs.L2 N x0 x1 x2 y15 y20 m j27 = some r ∧ Ctx w' (S_link_Link.hp b22 y20 :: S_link_Link.hp b17 y15 :: P0 :: P1 :: Fr)) N ?_ ?_
               · exact ⟨0, rfl, hp, hc⟩
               · clear hp hc; intro m vs u w28 hJ
                 obtain ⟨j27, rfl, hp, hc⟩ := hJ
                 rcases m with _ | m2
                 · cases (show none = some r from hp)
                 rw [law16_LinkEpochs.L2] at hp
                 refine Wseq ?_
                 refine Wseq ?_
                 refine Wreg ?_
                 refine rs (v := .int .i64 j27) (mv (v := .int .i64 j27) rfl) rfl ?_
                 refine rs (v := .slice ax1 x1.length qx1) (mv (v := .slice ax1 x1.length qx1) rfl) rfl ?_
                 refine rs (v := .int .i64 ((x1.length : Nat) : Int)) (ln rfl Try.underlying51) rfl ?_
                 refine rs (v := .bool (decide (j27 < ((x1.length : Nat) : Int)))) (lt' rfl rfl) rfl ?_
                 refine rn ?_
                 refine qn ?_
                 cases hb29 : (decide (j27 < ((x1.length : Nat) : Int)))
                 · replace hp := gneg hp (of_decide_eq_false hb29)
                   refine Wcf rfl ?_
                   refine Wexit ?_
                   refine qx ?_
                   refine qx ?_
                   refine be ?_
                   refine qn ?_
                   refine Wseq ?_
                   refine Wreg ?_
                   refine rs (v := .int .i64 x2) (mv (v := .int .i64 x2) rfl) rfl ?_
                   refine rs (v := .int .i64 (Int.tmod x2 1000)) (rm rfl rfl (by decide)) rfl ?_
                   refine rs (v := .int .i64 (IntKind.i64.wrap ((Int.tmod x2 1000) + 1000))) (adw rfl rfl) rfl ?_
                   refine rs (v := .int .i64 (Int.tmod (IntKind.i64.wrap ((Int.tmod x2 1000) + 1000)) 1000)) (rm rfl rfl (by decide)) rfl ?_
                   refine rs (v := .int .i64 (IntKind.i64.wrap (1 + (Int.tmod (IntKind.i64.wrap ((Int.tmod x2 1000) + 1000)) 1000)))) (adw rfl rfl) rfl ?_
                   replace hp := bind_some hp; obtain ⟨e30, he30, hp⟩ := hp
                   injection he30 with he30
                   refine rs (v := .int .i64 e30) (av (v := .int .i64 e30) (by rw [← he30]; rfl)) rfl ?_
                   refine rn ?_
                   refine qn ?_
                   refine Wseq ?_
                   refine Wreg ?_
                   refine rs (v := .pointer (some ⟨b17, 0, none⟩)) (mv (v := .pointer (some ⟨b17, 0, none⟩)) rfl) rfl ?_
                   refine rs (v := .slice ax0 x0.length qx0) (mv (v := .slice ax0 x0.length qx0) rfl) rfl ?_
                   replace hp := bind_some hp; obtain ⟨r31, hr31, hp⟩ := hp
                   replace hc := hc.pull 2 rfl rfl
                   replace hc := hc.pull 2 rfl rfl
                   refine rc (cl Try.call13 rfl rfl) rfl ?_
                   refine link_Link_Send_any hrd0 hc hr31 ?_
                   clear hc; intro w32 hc
                   refine rn ?_
                   refine qn ?_
                   refine Wseq ?_
                   refine Wreg ?_
                   refine rs (v := .pointer (some ⟨b17, 0, none⟩)) (mv (v := .pointer (some ⟨b17, 0, none⟩)) rfl) rfl ?_
                   replace hp := bind_some hp; obtain ⟨r33, hr33, hp⟩ := hp
                   refine rc (cl Try.call14 rfl rfl) rfl ?_
                   refine link_Link_Tick_any hc hr33 ?_
                   clear hc; intro a34 n35 q36 w37 hc
                   obtain ⟨u38, _⟩ := Ctx.rdLen hc (k := 0) rfl rfl reads_own; subst u38
                   refine rs (v := .slice a34 r33.1.length q36) (av (v := .slice a34 r33.1.length q36) rfl) rfl ?_
                   refine rn ?_
                   refine qn ?_
                   refine Wseq ?_
                   refine Wseq ?_
                   refine Wreg ?_
                   refine rs (v := .pointer (some ⟨b17, 0, none⟩)) (mv (v := .pointer (some ⟨b17, 0, none⟩)) rfl) rfl ?_
                   refine rs (v := .int .i64 e30) (mv (v := .int .i64 e30) rfl) rfl ?_
                   replace hp := bind_some hp; obtain ⟨r39, hr39, hp⟩ := hp
                   replace hc := hc.pull 1 rfl rfl
                   refine rc (cl Try.call23 rfl rfl) rfl ?_
                   refine link_Link_Reset_any hc hr39 ?_
                   clear hc; intro w40 hc
                   refine rs (v := .bool (decide (r39.1 ≠ 0))) (ned rfl rfl) rfl ?_
                   refine rs (v := .bool (decide (r39.1 ≠ 0))) (mv (v := .bool (decide (r39.1 ≠ 0))) rfl) rfl ?_
                   cases hb41 : (decide (r39.1 ≠ 0))
                   · replace hp := gneg hp (of_decide_eq_false hb41)
                     refine rs (v := .pointer (some ⟨b22, 0, none⟩)) (mv (v := .pointer (some ⟨b22, 0, none⟩)) rfl) rfl ?_
                     refine rs (v := .int .i64 e30) (mv (v := .int .i64 e30) rfl) rfl ?_
                     replace hp := bind_some hp; obtain ⟨r42, hr42, hp⟩ := hp
                     replace hc := hc.pull 3 rfl rfl
                     refine rc (cl Try.call23 rfl rfl) rfl ?_
                     refine link_Link_Reset_any hc hr42 ?_
                     clear hc; intro w43 hc
                     refine rs (v := .bool (decide (r42.1 ≠ 0))) (ned rfl rfl) rfl ?_
                     refine rs (v := .bool (decide (r42.1 ≠ 0))) (pkf (v := .bool (decide (r42.1 ≠ 0))) rfl rfl) rfl ?_
                     refine rs (v := .bool (decide (r42.1 ≠ 0))) (mv (v := .bool (decide (r42.1 ≠ 0))) rfl) rfl ?_
                     cases hb44 : (decide (r42.1 ≠ 0))
                     · replace hp := gneg hp (of_decide_eq_false hb44)
                       refine rs (v := .pointer (some ⟨b17, 0, none⟩)) (mv (v := .pointer (some ⟨b17, 0, none⟩)) rfl) rfl ?_
                       refine rs (v := .int .i64 e30) (mv (v := .int .i64 e30) rfl) rfl ?_
                       replace hp := bind_some hp; obtain ⟨r45, hr45, hp⟩ := hp
                       replace hc := hc.pull 1 rfl rfl
                       refine rc (cl Try.call23 rfl rfl) rfl ?_
                       refine link_Link_Reset_any hc hr45 ?_
                       clear hc; intro w46 hc
                       refine rs (v := .bool (decide (r45.1 ≠ 160))) (ned rfl rfl) rfl ?_
                       refine rs (v := .bool (decide (r45.1 ≠ 160))) (pkf (v := .bool (decide (r45.1 ≠ 160))) rfl rfl) rfl ?_
                       refine rs (v := .bool (decide (r45.1 ≠ 160))) (mv (v := .bool (decide (r45.1 ≠ 160))) rfl) rfl ?_
                       cases hb47 : (decide (r45.1 ≠ 160))
                       · replace hp := gneg hp (of_decide_eq_false hb47)
                         refine rs (v := .pointer (some ⟨b17, 0, none⟩)) (mv (v := .pointer (some ⟨b17, 0, none⟩)) rfl) rfl ?_
                         replace hp := bind_some hp; obtain ⟨r48, hr48, hp⟩ := hp
                         refine rc (cl Try.call10 rfl rfl) rfl ?_
                         refine link_Link_Left_any hc hr48 ?_
                         clear hc; intro w49 hc
                         refine rs (v := .bool (decide (r48 ≠ 0))) (ned rfl rfl) rfl ?_
                         refine rs (v := .bool (decide (r48 ≠ 0))) (pkf (v := .bool (decide (r48 ≠ 0))) rfl rfl) rfl ?_
                         refine rn ?_
                         refine qn ?_
                         cases hb50 : (decide (r48 ≠ 0))
                         · replace hp := gneg hp (of_decide_eq_false hb50)
                           refine Wcf rfl ?_
                           refine Wskip ?_
                           refine qn ?_
                           refine Wseq ?_
                           refine Wseq ?_
                           refine Wreg ?_
                           refine rs (v := .int .i64 0) (av (v := .int .i64 0) rfl) rfl ?_
                           refine rn ?_
                           refine qn ?_
                           refine Wblk ?_
                           refine Wloop [6, 15, 16, 17, 109, 110, 111, 112, 113, 114, 115, 116, 117, 118, 119, 120, 121, 122, 123, 124, 125, 126, 127, 128, 129, 130, 131, 132, 133, 134, 135] [15] (fun m vs w' => ∃ j51 : S_link_Link, ∃ j52 : Int, vs = [.int .i64 j52] ∧ law16_LinkEpochs.L3 N x1 e30 r33 r45 m j51 j52 = some r ∧ Ctx w' (S_link_Link.hp b17 r45.2 :: S_link_Link.hp b22 j51 :: Own S_api_Seg.pr 46 (.slice a34 r33.1.length q36) r33.1 :: P0 :: P1 :: Fr)) N ?_ ?_
                           · exact ⟨r42.2, 0, rfl, hp, hc⟩
                           · clear hp hc; intro m vs u w53 hJ
                             obtain ⟨j51, j52, rfl, hp, hc⟩ := hJ
                             rcases m with _ | m3
                             · cases (show none = some r from hp)
                             rw [law16_LinkEpochs.L3] at hp
                             refine Wseq ?_
                             refine Wseq ?_
                             refine Wreg ?_
                             refine rs (v := .int .i64 j52) (mv (v := .int .i64 j52) rfl) rfl ?_
                             refine rs (v := .slice a34 r33.1.length q36) (mv (v := .slice a34 r33.1.length q36) rfl) rfl ?_
                             refine rs (v := .int .i64 ((r33.1.length : Nat) : Int)) (ln rfl Try.underlying29) rfl ?_
                             refine rs (v := .bool (decide (j52 < ((r33.1.length : Nat) : Int)))) (lt' rfl rfl) rfl ?_
                             refine rn ?_
                             refine qn ?_
                             cases hb54 : (decide (j52 < ((r33.1.length : Nat) : Int)))
                             · replace hp := gneg hp (of_decide_eq_false hb54)
                               refine Wcf rfl ?_
                               refine Wexit ?_
                               refine qx ?_
                               refine qx ?_
                               refine be ?_
                               refine qn ?_
                               refine Wseq ?_
                               refine Wreg ?_
                               refine rs (v := .pointer (some ⟨b17, 0, none⟩)) (mv (v := .pointer (some ⟨b17, 0, none⟩)) rfl) rfl ?_
                               refine rs (v := .slice ax1 x1.length qx1) (mv (v := .slice ax1 x1.length qx1) rfl) rfl ?_
                               replace hp := bind_some hp; obtain ⟨r55, hr55, hp⟩ := hp
                               replace hc := hc.pull 4 rfl rfl
                               replace hc := hc.pull 1 rfl rfl
                               refine rc (cl Try.call13 rfl rfl) rfl ?_
                               refine link_Link_Send_any hrd1 hc hr55 ?_
                               clear hc; intro w56 hc
                               refine rn ?_
                               refine qn ?_
                               refine Wseq ?_
                               refine Wreg ?_
                               refine rs (v := .slice none 0 0) (av (v := .slice none 0 0) rfl) rfl ?_
                               refine rn ?_
                               refine qn ?_
                               refine Wseq ?_
                               refine Wseq ?_
                               refine Wreg ?_
                               refine rs (v := .int .i64 0) (av (v := .int .i64 0) rfl) rfl ?_
                               refine rn ?_
                               refine qn ?_
                               refine Wblk ?_
                               replace hc := hc.nilOwn (pRo (pInt .u8)) 38
                               replace hc := hc.rem 4 rfl rfl
                               replace hc := hc.pull 4 rfl rfl
                               replace hc := hc.pull 4 rfl rfl
                               replace hc := hc.pull 4 rfl rfl
                               replace hc := hc.pull 4 rfl rfl
                               refine Wloop [6, 18, 19, 20, 21, 22, 23, 24, 25, 26, 139, 140, 141, 142, 143, 144, 145, 146, 147, 148, 149, 150, 151, 152, 153, 154, 155, 156, 157, 158, 159, 160, 161, 162, 163, 164, 165, 166, 167, 168, 169, 170, 171, 172, 173, 174, 175, 176, 177, 178, 179, 180, 181, 182, 183, 184, 185, 186, 187, 188] [18, 19] (fun m vs w' => ∃ j57 : S_link_Link, ∃ j58 : S_link_Link, ∃ j59 : (List (List Int)), ∃ j63 : Int, ∃ a60 : Option Addr, ∃ n61 : Nat, ∃ q62 : Nat, vs = [.slice a60 n61 q62, .int .i64 j63] ∧ law16_LinkEpochs.L4 N x1 e30 m j57 j58 j59 j63 = some r ∧ Ctx w' (S_link_Link.hp b17 j57 :: P1 :: S_link_Link.hp b22 j58 :: P0 :: Own (pRo (pInt .u8)) 38 (.slice a60 n61 q62) j59 :: Fr)) N ?_ ?_
                               · exact ⟨r55.2, j51, [], 0, none, 0, 0, rfl, hp, hc⟩
                               · clear hp hc; intro m vs u w64 hJ
                                 obtain ⟨j57, j58, j59, j63, a60, n61, q62, rfl, hp, hc⟩ := hJ
                                 obtain ⟨u65, _⟩ := Ctx.rdLen hc (k := 4) rfl rfl reads_own; subst u65
                                 rcases m with _ | m4
                                 · cases (show none = some r from hp)
                                 rw [law16_LinkEpochs.L4] at hp
                                 refine Wseq ?_
                                 refine Wseqm [139, 140, 141, 142, 143, 144, 145] [145] (fun vs w' => ∃ j66 : Bool, vs = [.bool j66] ∧ law16_LinkEpochs.J5 N x1 e30 j57 j58 j59 j63 (law16_LinkEpochs.L4 N x1 e30 m4) j66 = some r ∧ Ctx w' (S_link_Link.hp b17 j57 :: P1 :: S_link_Link.hp b22 j58 :: P0 :: Own (pRo (pInt .u8)) 38 (.slice a60 j59.length q62) j59 :: Fr)) ?_ ?_
                                 · refine Wreg ?_
                                   refine rs (v := .int .i64 j63) (mv (v := .int .i64 j63) rfl) rfl ?_
                                   refine rs (v := .bool (decide (j63 < 200))) (lt' rfl rfl) rfl ?_
                                   refine rs (v := .bool (decide (j63 < 200))) (mv (v := .bool (decide (j63 < 200))) rfl) rfl ?_
                                   cases hb67 : (decide (j63 < 200))
                                   · replace hp := gneg hp (of_decide_eq_false hb67)
                                     refine r0 rfl ?_
                                     refine r0 rfl ?_
                                     refine r0 rfl ?_
                                     refine rs (v := .bool false) (pkf (v := .bool false) rfl rfl) rfl ?_
                                     refine rn ?_
                                     refine qn ?_
                                     exact ⟨⟨false, rfl, hp, hc⟩, (kl rfl kb)⟩
                                   · replace hp := gpos hp (of_decide_eq_true hb67)
                                     refine rs (v := .pointer (some ⟨b17, 0, none⟩)) (mv (v := .pointer (some ⟨b17, 0, none⟩)) rfl) rfl ?_
                                     replace hp := bind_some hp; obtain ⟨r68, hr68, hp⟩ := hp
                                     refine rc (cl Try.call10 rfl rfl) rfl ?_
                                     refine link_Link_Left_any hc hr68 ?_
                                     clear hc; intro w69 hc
                                     refine rs (v := .bool (decide (r68 > 0))) (gt' rfl rfl) rfl ?_
                                     refine rs (v := .bool (decide (r68 > 0))) (pkt (v := .bool (decide (r68 > 0))) rfl rfl) rfl ?_
                                     refine rn ?_
                                     refine qn ?_
                                     exact ⟨⟨decide (r68 > 0), rfl, hp, hc⟩, (kl rfl kb)⟩
                                 · clear hp hc; intro vs u w70 hJ
                                   obtain ⟨j66, rfl, hp, hc⟩ := hJ
                                   unfold law16_LinkEpochs.J5 at hp
                                   cases hb71 : j66
                                   · replace hp := gneg hp (by rw [hb71]; exact Bool.false_ne_true)
                                     subst hb71
                                     refine Wcf rfl ?_
                                     refine Wexit ?_
                                     refine qx ?_
                                     refine qx ?_
                                     refine be ?_
                                     refine qn ?_
                                     refine Wseq ?_
                                     refine Wreg ?_
                                     refine rs (v := .slice a60 j59.length q62) (mv (v := .slice a60 j59.length q62) rfl) rfl ?_
                                     refine rs (v := .slice ax1 x1.length qx1) (mv (v := .slice ax1 x1.length qx1) rfl) rfl ?_
                                     replace hp := bind_some hp; obtain ⟨r72, hr72, hp⟩ := hp
                                     replace hc := hc.pull 1 rfl rfl
                                     replace hc := hc.pull 4 rfl rfl
                                     refine rc (cl Try.call22 rfl rfl) rfl ?_
                                     refine law16_bodies_any reads_own hrd1 hc hr72 ?_
                                     clear hc; intro w73 hc
                                     refine rs (v := .bool r72) (mv (v := .bool r72) rfl) rfl ?_
                                     cases hb74 : r72
                                     · replace hp := gneg hp (by rw [hb74]; exact Bool.false_ne_true)
                                       subst hb74
                                       refine r0 rfl ?_
                                       refine r0 rfl ?_
                                       refine r0 rfl ?_
                                       refine r0 rfl ?_
                                       refine r0 rfl ?_
                                       refine rs (v := .bool false) (pkf (v := .bool false) rfl rfl) rfl ?_
                                       refine rs (v := .bool false) (mv (v := .bool false) rfl) rfl ?_
                                       refine r0 rfl ?_
                                       refine r0 rfl ?_
                                       refine r0 rfl ?_
                                       refine r0 rfl ?_
                                       refine rs (v := .bool false) (pkf (v := .bool false) rfl rfl) rfl ?_
                                       refine rs (v := .bool false) (av (v := .bool false) rfl) rfl ?_
                                       refine rn ?_
                                       refine qn ?_
                                       refine Wret ?_
                                       replace hc := hc.rem 3 rfl rfl
                                       replace hc := hc.rem 2 rfl rfl
                                       replace hc := hc.rem 0 rfl rfl
                                       replace hc := hc.pull 1 rfl rfl
                                       injection hp with hp; subst hp
                                       refine f1 (v := .bool false) Try.results6 Try.ntmps6 rfl ?_
                                       exact ⟨_, rfl, k _ hc⟩
                                     · replace hp := gpos hp hb74
                                       subst hb74
                                       refine rs (v := .pointer (some ⟨b22, 0, none⟩)) (mv (v := .pointer (some ⟨b22, 0, none⟩)) rfl) rfl ?_
                                       replace hp := bind_some hp; obtain ⟨r75, hr75, hp⟩ := hp
                                       replace hc := hc.pull 3 rfl rfl
                                       refine rc (cl Try.call25 rfl rfl) rfl ?_
                                       refine link_Link_Got_any hc hr75 ?_
                                       clear hc; intro w76 hc
                                       refine rs (v := .slice ax1 x1.length qx1) (mv (v := .slice ax1 x1.length qx1) rfl) rfl ?_
                                       refine rs (v := .int .i64 ((x1.length : Nat) : Int)) (ln rfl Try.underlying51) rfl ?_
                                       refine rs (v := .bool (decide (r75 = ((x1.length : Nat) : Int)))) (eqd rfl rfl) rfl ?_
                                       refine rs (v := .bool (decide (r75 = ((x1.length : Nat) : Int)))) (pkt (v := .bool (decide (r75 = ((x1.length : Nat) : Int)))) rfl rfl) rfl ?_
                                       refine rs (v := .bool (decide (r75 = ((x1.length : Nat) : Int)))) (mv (v := .bool (decide (r75 = ((x1.length : Nat) : Int)))) rfl) rfl ?_
                                       cases hb77 : (decide (r75 = ((x1.length : Nat) : Int)))
                                       · replace hp := gneg hp (of_decide_eq_false hb77)
                                         refine r0 rfl ?_
                                         refine r0 rfl ?_
                                         refine r0 rfl ?_
                                         refine r0 rfl ?_
                                         refine rs (v := .bool false) (pkf (v := .bool false) rfl rfl) rfl ?_
                                         refine rs (v := .bool false) (av (v := .bool false) rfl) rfl ?_
                                         refine rn ?_
                                         refine qn ?_
                                         refine Wret ?_
                                         replace hc := hc.rem 3 rfl rfl
                                         replace hc := hc.rem 1 rfl rfl
                                         replace hc := hc.rem 0 rfl rfl
                                         replace hc := hc.pull 1 rfl rfl
                                         injection hp with hp; subst hp
                                         refine f1 (v := .bool false) Try.results6 Try.ntmps6 rfl ?_
                                         exact ⟨_, rfl, k _ hc⟩
                                       · replace hp := gpos hp (of_decide_eq_true hb77)
                                         refine rs (v := .pointer (some ⟨b17, 0, none⟩)) (mv (v := .pointer (some ⟨b17, 0, none⟩)) rfl) rfl ?_
                                         replace hp := bind_some hp; obtain ⟨r78, hr78, hp⟩ := hp
                                         replace hc := hc.pull 3 rfl rfl
                                         refine rc (cl Try.call26 rfl rfl) rfl ?_
                                         refine link_Link_Epoch_any hc hr78 ?_
                                         clear hc; intro w79 hc
                                         refine rs (v := .int .i64 e30) (mv (v := .int .i64 e30) rfl) rfl ?_
                                         refine rs (v := .bool (decide (r78 = e30))) (eqd rfl rfl) rfl ?_
                                         refine rs (v := .bool (decide (r78 = e30))) (pkt (v := .bool (decide (r78 = e30))) rfl rfl) rfl ?_
                                         refine rs (v := .bool (decide (r78 = e30))) (av (v := .bool (decide (r78 = e30))) rfl) rfl ?_
                                         refine rn ?_
                                         refine qn ?_
                                         refine Wret ?_
                                         replace hc := hc.rem 2 rfl rfl
                                         replace hc := hc.rem 1 rfl rfl
                                         replace hc := hc.rem 0 rfl rfl
                                         replace hc := hc.pull 1 rfl rfl
                                         injection hp with hp; subst hp
                                         refine f1 (v := .bool (decide (r78 = e30))) Try.results6 Try.ntmps6 rfl ?_
                                         exact ⟨_, rfl, k _ hc⟩
                                   · replace hp := gpos hp hb71
                                     subst hb71
                                     refine Wct rfl ?_
                                     refine Wskip ?_
                                     refine qn ?_
                                     refine Wseq ?_
                                     refine Wblk ?_
                                     refine Wseq ?_
                                     refine Wreg ?_
                                     refine rs (v := .pointer (some ⟨b17, 0, none⟩)) (mv (v := .pointer (some ⟨b17, 0, none⟩)) rfl) rfl ?_
                                     replace hp := bind_some hp; obtain ⟨r80, hr80, hp⟩ := hp
                                     refine rc (cl Try.call14 rfl rfl) rfl ?_
                                     refine link_Link_Tick_any hc hr80 ?_
                                     clear hc; intro a81 n82 q83 w84 hc
                                     obtain ⟨u85, _⟩ := Ctx.rdLen hc (k := 0) rfl rfl reads_own; subst u85
                                     refine rs (v := .slice a81 r80.1.length q83) (av (v := .slice a81 r80.1.length q83) rfl) rfl ?_
                                     refine rn ?_
                                     refine qn ?_
                                     refine Wseq ?_
                                     refine Wseq ?_
                                     refine Wreg ?_
                                     refine rs (v := .int .i64 0) (av (v := .int .i64 0) rfl) rfl ?_
                                     refine rn ?_
                                     refine qn ?_
                                     refine Wblk ?_
                                     refine Wloop [6, 18, 21, 22, 23, 150, 151, 152, 153, 154, 155, 156, 157, 158, 159, 160, 161, 162, 163, 164, 165, 166, 167, 168, 169] [18, 21] (fun m vs w' => ∃ j86 : S_link_Link, ∃ j87 : (List (List Int)), ∃ j91 : Int, ∃ a88 : Option Addr, ∃ n89 : Nat, ∃ q90 : Nat, vs = [.slice a88 n89 q90, .int .i64 j91] ∧ law16_LinkEpochs.L6 N j63 r80 (law16_LinkEpochs.L4 N x1 e30 m4) m j86 j87 j91 = some r ∧ Ctx w' (Own S_api_Seg.pr 46 (.slice a81 r80.1.length q83) r80.1 :: S_link_Link.hp b17 r80.2 :: P1 :: S_link_Link.hp b22 j86 :: P0 :: Own (pRo (pInt .u8)) 38 (.slice a88 n89 q90) j87 :: Fr)) N ?_ ?_
                                     · exact ⟨j58, j59, 0, a60, j59.length, q62, rfl, hp, hc⟩
                                     · clear hp hc; intro m vs u w92 hJ
                                       obtain ⟨j86, j87, j91, a88, n89, q90, rfl, hp, hc⟩ := hJ
                                       obtain ⟨u93, _⟩ := Ctx.rdLen hc (k := 5) rfl rfl reads_own; subst u93
                                       rcases m with _ | m6
                                       · cases (show none = some r from hp)
                                       rw [law16_LinkEpochs.L6] at hp
                                       refine Wseq ?_
                                       refine Wseq ?_
                                       refine Wreg ?_
                                       refine rs (v := .int .i64 j91) (mv (v := .int .i64 j91) rfl) rfl ?_
                                       refine rs (v := .slice a81 r80.1.length q83) (mv (v := .slice a81 r80.1.length q83) rfl) rfl ?_
                                       refine rs (v := .int .i64 ((r80.1.length : Nat) : Int)) (ln rfl Try.underlying29) rfl ?_
                                       refine rs (v := .bool (decide (j91 < ((r80.1.length : Nat) : Int)))) (lt' rfl rfl) rfl ?_
                                       refine rn ?_
                                       refine qn ?_
                                       cases hb94 : (decide (j91 < ((r80.1.length : Nat) : Int)))
                                       · replace hp := gneg hp (of_decide_eq_false hb94)
                                         refine Wcf rfl ?_
                                         refine Wexit ?_
                                         refine qx ?_
                                         refine qx ?_
                                         refine be ?_
                                         refine qn ?_
                                         refine Wseq ?_
                                         refine Wreg ?_
                                         refine rs (v := .pointer (some ⟨b22, 0, none⟩)) (mv (v := .pointer (some ⟨b22, 0, none⟩)) rfl) rfl ?_
                                         replace hp := bind_some hp; obtain ⟨r95, hr95, hp⟩ := hp
                                         replace hc := hc.pull 3 rfl rfl
                                         refine rc (cl Try.call14 rfl rfl) rfl ?_
                                         refine link_Link_Tick_any hc hr95 ?_
                                         clear hc; intro a96 n97 q98 w99 hc
                                         obtain ⟨u100, _⟩ := Ctx.rdLen hc (k := 0) rfl rfl reads_own; subst u100
                                         refine rs (v := .slice a96 r95.1.length q98) (av (v := .slice a96 r95.1.length q98) rfl) rfl ?_
                                         refine rn ?_
                                         refine qn ?_
                                         refine Wseq ?_
                                         refine Wreg ?_
                                         refine rs (v := .int .i64 0) (av (v := .int .i64 0) rfl) rfl ?_
                                         refine rn ?_
                                         refine qn ?_
                                         refine Wblk ?_
                                         replace hc := hc.rem 2 rfl rfl
                                         refine Wloop [6, 24, 25, 26, 172, 173, 174, 175, 176, 177, 178, 179, 180, 181, 182, 183, 184, 185, 186, 187, 188] [24] (fun m vs w' => ∃ j101 : S_link_Link, ∃ j102 : Int, vs = [.int .i64 j102] ∧ law16_LinkEpochs.L7 N j63 j87 r95 (law16_LinkEpochs.L4 N x1 e30 m4) m j101 j102 = some r ∧ Ctx w' (Own S_api_Seg.pr 46 (.slice a96 r95.1.length q98) r95.1 :: S_link_Link.hp b22 r95.2 :: S_link_Link.hp b17 j101 :: P1 :: P0 :: Own (pRo (pInt .u8)) 38 (.slice a88 j87.length q90) j87 :: Fr)) N ?_ ?_
                                         · exact ⟨r80.2, 0, rfl, hp, hc⟩
                                         · clear hp hc; intro m vs u w103 hJ
                                           obtain ⟨j101, j102, rfl, hp, hc⟩ := hJ
                                           rcases m with _ | m7
                                           · cases (show none = some r from hp)
                                           rw [law16_LinkEpochs.L7] at hp
                                           refine Wseq ?_
                                           refine Wseq ?_
                                           refine Wreg ?_
                                           refine rs (v := .int .i64 j102) (mv (v := .int .i64 j102) rfl) rfl ?_
                                           refine rs (v := .slice a96 r95.1.length q98) (mv (v := .slice a96 r95.1.length q98) rfl) rfl ?_
                                           refine rs (v := .int .i64 ((r95.1.length : Nat) : Int)) (ln rfl Try.underlying29) rfl ?_
                                           refine rs (v := .bool (decide (j102 < ((r95.1.length : Nat) : Int)))) (lt' rfl rfl) rfl ?_
                                           refine rn ?_
                                           refine qn ?_
                                           cases hb104 : (decide (j102 < ((r95.1.length : Nat) : Int)))
                                           · replace hp := gneg hp (of_decide_eq_false hb104)
                                             refine Wcf rfl ?_
                                             refine Wexit ?_
                                             refine qx ?_
                                             refine qx ?_
                                             refine be ?_
                                             refine bn ?_
                                             refine qn ?_
                                             refine Wreg ?_
                                             refine rs (v := .int .i64 j63) (mv (v := .int .i64 j63) rfl) rfl ?_
                                             refine rs (v := .int .i64 (IntKind.i64.wrap (j63 + 1))) (adw rfl rfl) rfl ?_
                                             refine rs (v := .int .i64 (IntKind.i64.wrap (j63 + 1))) (av (v := .int .i64 (IntKind.i64.wrap (j63 + 1))) rfl) rfl ?_
                                             refine rn ?_
                                             refine qn ?_
                                             replace hc := hc.rem 0 rfl rfl
                                             replace hc := hc.pull 4 rfl rfl
                                             replace hc := hc.pull 4 rfl rfl
                                             replace hc := hc.pull 2 rfl rfl
                                             replace hc := hc.pull 4 rfl rfl
                                             replace hc := hc.pull 4 rfl rfl
                                             exact ⟨m4, Nat.lt_succ_self _, ⟨j101, r95.2, j87, (IntKind.i64.wrap (j63 + 1)), a88, j87.length, q90, rfl, hp, hc⟩, (kl rfl (km rfl (kl rfl (km rfl (kl rfl (km rfl (kl rfl k0)))))))⟩
                                           · replace hp := gpos hp (of_decide_eq_true hb104)
                                             refine Wct rfl ?_
                                             refine Wskip ?_
                                             refine qn ?_
                                             refine Wseq ?_
                                             refine Wblk ?_
                                             refine Wseq ?_
                                             refine Wreg ?_
                                             refine rs (v := .pointer (some ⟨b17, 0, none⟩)) (mv (v := .pointer (some ⟨b17, 0, none⟩)) rfl) rfl ?_
                                             refine rs (v := .slice a96 r95.1.length q98) (mv (v := .slice a96 r95.1.length q98) rfl) rfl ?_
                                             refine rs (v := .int .i64 j102) (mv (v := .int .i64 j102) rfl) rfl ?_
                                             replace hp := bind_some hp; obtain ⟨y105, hy105, hp⟩ := hp
                                             obtain ⟨b108, o109, u110, hi106, hi107⟩ := Ctx.rdAt hc (k := 0) rfl rfl reads_own hy105
                                             subst u110
                                             refine rs (v := .pointer (some ⟨b108, o109 + (j102).toNat * 4, none⟩)) (ixx rfl rfl Try.underlying29 Try.sizeOf46 hi106 hi107 rfl) rfl ?_
                                             replace hc := Ctx.rdCell hc (k := 0) rfl rfl reads_own hy105; obtain ⟨cs111, hc, hcell112⟩ := hc
                                             replace hc := S_api_Seg.op hc; obtain ⟨a114, q115, u113, hc⟩ := hc; subst u113
                                             refine rs (v := .agg #[.int .i64 y105.Epoch, .int .i64 y105.Seq, .int .i64 y105.Ack, .slice a114 y105.Body.length q115]) (ldg rfl Try.isAgg46 Try.sizeOf46 rfl (elCells hcell112 0 (vs := [.int .i64 y105.Epoch, .int .i64 y105.Seq, .int .i64 y105.Ack, .slice a114 y105.Body.length q115]) rfl)) rfl ?_
                                             replace hc := hc.dup (k := 0) rfl rfl
                                             replace hp := bind_some hp; obtain ⟨r116, hr116, hp⟩ := hp
                                             replace hc := hc.pull 4 rfl rfl
                                             refine rc (cl Try.call15 rfl rfl) rfl ?_
                                             refine link_Link_Hear_any hc hr116 ?_
                                             clear hc; intro a117 n118 q119 w120 hc
                                             obtain ⟨u121, _⟩ := Ctx.rdLen hc (k := 0) rfl rfl reads_own; subst u121
                                             refine rs (v := .tuple #[.slice a117 r116.1.length q119, .int .i64 r116.2.1]) (mv (v := .tuple #[.slice a117 r116.1.length q119, .int .i64 r116.2.1]) rfl) rfl ?_
                                             refine rs (v := .slice a117 r116.1.length q119) (ext (v := .slice a117 r116.1.length q119) rfl rfl) rfl ?_
                                             refine rs (v := .int .i64 r116.2.1) (ext (v := .int .i64 r116.2.1) rfl rfl) rfl ?_
                                             refine rs (v := .slice a117 r116.1.length q119) (av (v := .slice a117 r116.1.length q119) rfl) rfl ?_
                                             refine rs (v := .int .i64 r116.2.1) (av (v := .int .i64 r116.2.1) rfl) rfl ?_
                                             refine rn ?_
                                             refine qn ?_
                                             refine Wseq ?_
                                             refine Wreg ?_
                                             refine rs (v := .int .i64 r116.2.1) (mv (v := .int .i64 r116.2.1) rfl) rfl ?_
                                             refine rs (v := .bool (decide (r116.2.1 ≠ 0))) (ned rfl rfl) rfl ?_
                                             refine rn ?_
                                             refine qn ?_
                                             cases hb122 : (decide (r116.2.1 ≠ 0))
                                             · replace hp := gneg hp (of_decide_eq_false hb122)
                                               refine Wcf rfl ?_
                                               refine Wskip ?_
                                               refine bn ?_
                                               refine qn ?_
                                               refine Wreg ?_
                                               refine rs (v := .int .i64 j102) (mv (v := .int .i64 j102) rfl) rfl ?_
                                               refine rs (v := .int .i64 (IntKind.i64.wrap (j102 + 1))) (adw rfl rfl) rfl ?_
                                               refine rs (v := .int .i64 (IntKind.i64.wrap (j102 + 1))) (av (v := .int .i64 (IntKind.i64.wrap (j102 + 1))) rfl) rfl ?_
                                               refine rn ?_
                                               refine qn ?_
                                               replace hc := hc.rem 2 rfl rfl
                                               replace hc := hc.rem 0 rfl rfl
                                               replace hc := hc.pull 5 rfl rfl
                                               replace hc := hc.pull 5 rfl rfl
                                               replace hc := hc.pull 5 rfl rfl
                                               replace hc := hc.pull 3 rfl rfl
                                               replace hc := hc.pull 5 rfl rfl
                                               replace hc := hc.pull 5 rfl rfl
                                               exact ⟨m7, Nat.lt_succ_self _, ⟨r116.2.2, (IntKind.i64.wrap (j102 + 1)), rfl, hp, hc⟩, (kl rfl k0)⟩
                                             · replace hp := gpos hp (of_decide_eq_true hb122)
                                               refine Wct rfl ?_
                                               refine Wseq ?_
                                               refine Wreg ?_
                                               refine rs (v := .bool false) (av (v := .bool false) rfl) rfl ?_
                                               refine rn ?_
                                               refine qn ?_
                                               refine Wret ?_
                                               refine br ?_
                                               refine qr ?_
                                               refine qr ?_
                                               refine br ?_
                                               refine br ?_
                                               refine qr ?_
                                               refine qr ?_
                                               refine br ?_
                                               refine qr ?_
                                               replace hc := hc.rem 7 rfl rfl
                                               replace hc := hc.rem 4 rfl rfl
                                               replace hc := hc.rem 3 rfl rfl
                                               replace hc := hc.rem 2 rfl rfl
                                               replace hc := hc.rem 1 rfl rfl
                                               replace hc := hc.rem 0 rfl rfl
                                               replace hc := hc.pull 1 rfl rfl
                                               injection hp with hp; subst hp
                                               refine f1 (v := .bool false) Try.results6 Try.ntmps6 rfl ?_
                                               exact ⟨_, rfl, k _ hc⟩
                                       · replace hp := gpos hp (of_decide_eq_true hb94)
                                         refine Wct rfl ?_
                                         refine Wskip ?_
                                         refine qn ?_
                                         refine Wseq ?_
                                         refine Wblk ?_
                                         refine Wseq ?_
                                         refine Wreg ?_
                                         refine rs (v := .pointer (some ⟨b22, 0, none⟩)) (mv (v := .pointer (some ⟨b22, 0, none⟩)) rfl) rfl ?_
                                         refine rs (v := .slice a81 r80.1.length q83) (mv (v := .slice a81 r80.1.length q83) rfl) rfl ?_
                                         refine rs (v := .int .i64 j91) (mv (v := .int .i64 j91) rfl) rfl ?_
                                         replace hp := bind_some hp; obtain ⟨y123, hy123, hp⟩ := hp
                                         obtain ⟨b126, o127, u128, hi124, hi125⟩ := Ctx.rdAt hc (k := 0) rfl rfl reads_own hy123
                                         subst u128
                                         refine rs (v := .pointer (some ⟨b126, o127 + (j91).toNat * 4, none⟩)) (ixx rfl rfl Try.underlying29 Try.sizeOf46 hi124 hi125 rfl) rfl ?_
                                         replace hc := Ctx.rdCell hc (k := 0) rfl rfl reads_own hy123; obtain ⟨cs129, hc, hcell130⟩ := hc
                                         replace hc := S_api_Seg.op hc; obtain ⟨a132, q133, u131, hc⟩ := hc; subst u131
                                         refine rs (v := .agg #[.int .i64 y123.Epoch, .int .i64 y123.Seq, .int .i64 y123.Ack, .slice a132 y123.Body.length q133]) (ldg rfl Try.isAgg46 Try.sizeOf46 rfl (elCells hcell130 0 (vs := [.int .i64 y123.Epoch, .int .i64 y123.Seq, .int .i64 y123.Ack, .slice a132 y123.Body.length q133]) rfl)) rfl ?_
                                         replace hc := hc.dup (k := 0) rfl rfl
                                         replace hp := bind_some hp; obtain ⟨r134, hr134, hp⟩ := hp
                                         replace hc := hc.pull 5 rfl rfl
                                         refine rc (cl Try.call15 rfl rfl) rfl ?_
                                         refine link_Link_Hear_any hc hr134 ?_
                                         clear hc; intro a135 n136 q137 w138 hc
                                         obtain ⟨u139, _⟩ := Ctx.rdLen hc (k := 0) rfl rfl reads_own; subst u139
                                         refine rs (v := .tuple #[.slice a135 r134.1.length q137, .int .i64 r134.2.1]) (mv (v := .tuple #[.slice a135 r134.1.length q137, .int .i64 r134.2.1]) rfl) rfl ?_
                                         refine rs (v := .slice a135 r134.1.length q137) (ext (v := .slice a135 r134.1.length q137) rfl rfl) rfl ?_
                                         refine rs (v := .int .i64 r134.2.1) (ext (v := .int .i64 r134.2.1) rfl rfl) rfl ?_
                                         refine rs (v := .slice a135 r134.1.length q137) (av (v := .slice a135 r134.1.length q137) rfl) rfl ?_
                                         refine rs (v := .int .i64 r134.2.1) (av (v := .int .i64 r134.2.1) rfl) rfl ?_
                                         refine rn ?_
                                         refine qn ?_
                                         refine Wseq ?_
                                         refine Wseq ?_
                                         refine Wreg ?_
                                         refine rs (v := .int .i64 r134.2.1) (mv (v := .int .i64 r134.2.1) rfl) rfl ?_
                                         refine rs (v := .bool (decide (r134.2.1 ≠ 0))) (ned rfl rfl) rfl ?_
                                         refine rn ?_
                                         refine qn ?_
                                         cases hb140 : (decide (r134.2.1 ≠ 0))
                                         · replace hp := gneg hp (of_decide_eq_false hb140)
                                           refine Wcf rfl ?_
                                           refine Wskip ?_
                                           refine qn ?_
                                           refine Wreg ?_
                                           refine rs (v := .slice a88 j87.length q90) (mv (v := .slice a88 j87.length q90) rfl) rfl ?_
                                           refine rs (v := .slice a135 r134.1.length q137) (mv (v := .slice a135 r134.1.length q137) rfl) rfl ?_
                                           replace hp := bind_some hp; obtain ⟨z141, hz141, hp⟩ := hp
                                           obtain ⟨hg142, e143⟩ := app_some hz141
                                           refine rsE (Ctx.append hc (k := 7) rfl rfl (k2 := 0) rfl rfl reads_own Try.underlying51 (i := Try.t38) rfl rfl rfl rfl rfl rfl rfl rfl hg142) rfl ?_
                                           clear hc; rintro _ w146 ⟨a144, q145, rfl, hc⟩
                                           rw [← e143] at hc ⊢
                                           refine rs (v := .slice a144 z141.length q145) (av (v := .slice a144 z141.length q145) rfl) rfl ?_
                                           refine rn ?_
                                           refine bn ?_
                                           refine qn ?_
                                           refine Wreg ?_
                                           refine rs (v := .int .i64 j91) (mv (v := .int .i64 j91) rfl) rfl ?_
                                           refine rs (v := .int .i64 (IntKind.i64.wrap (j91 + 1))) (adw rfl rfl) rfl ?_
                                           refine rs (v := .int .i64 (IntKind.i64.wrap (j91 + 1))) (av (v := .int .i64 (IntKind.i64.wrap (j91 + 1))) rfl) rfl ?_
                                           refine rn ?_
                                           refine qn ?_
                                           replace hc := hc.rem 2 rfl rfl
                                           replace hc := hc.rem 0 rfl rfl
                                           replace hc := hc.pull 5 rfl rfl
                                           replace hc := hc.pull 5 rfl rfl
                                           replace hc := hc.pull 2 rfl rfl
                                           replace hc := hc.pull 5 rfl rfl
                                           replace hc := hc.pull 5 rfl rfl
                                           replace hc := hc.pull 5 rfl rfl
                                           exact ⟨m6, Nat.lt_succ_self _, ⟨r134.2.2, z141, (IntKind.i64.wrap (j91 + 1)), a144, z141.length, q145, rfl, hp, hc⟩, (kl rfl k0)⟩
                                         · replace hp := gpos hp (of_decide_eq_true hb140)
                                           refine Wct rfl ?_
                                           refine Wseq ?_
                                           refine Wreg ?_
                                           refine rs (v := .bool false) (av (v := .bool false) rfl) rfl ?_
                                           refine rn ?_
                                           refine qn ?_
                                           refine Wret ?_
                                           refine qr ?_
                                           refine br ?_
                                           refine qr ?_
                                           refine qr ?_
                                           refine br ?_
                                           refine qr ?_
                                           refine br ?_
                                           refine qr ?_
                                           refine qr ?_
                                           refine br ?_
                                           refine qr ?_
                                           replace hc := hc.rem 7 rfl rfl
                                           replace hc := hc.rem 4 rfl rfl
                                           replace hc := hc.rem 3 rfl rfl
                                           replace hc := hc.rem 2 rfl rfl
                                           replace hc := hc.rem 1 rfl rfl
                                           replace hc := hc.rem 0 rfl rfl
                                           replace hc := hc.pull 1 rfl rfl
                                           injection hp with hp; subst hp
                                           refine f1 (v := .bool false) Try.results6 Try.ntmps6 rfl ?_
                                           exact ⟨_, rfl, k _ hc⟩
                             · replace hp := gpos hp (of_decide_eq_true hb54)
                               refine Wct rfl ?_
                               refine Wskip ?_
                               refine qn ?_
                               refine Wseq ?_
                               refine Wblk ?_
                               refine Wseq ?_
                               refine Wreg ?_
                               refine rs (v := .pointer (some ⟨b22, 0, none⟩)) (mv (v := .pointer (some ⟨b22, 0, none⟩)) rfl) rfl ?_
                               refine rs (v := .slice a34 r33.1.length q36) (mv (v := .slice a34 r33.1.length q36) rfl) rfl ?_
                               refine rs (v := .int .i64 j52) (mv (v := .int .i64 j52) rfl) rfl ?_
                               replace hp := bind_some hp; obtain ⟨y147, hy147, hp⟩ := hp
                               obtain ⟨b150, o151, u152, hi148, hi149⟩ := Ctx.rdAt hc (k := 2) rfl rfl reads_own hy147
                               subst u152
                               refine rs (v := .pointer (some ⟨b150, o151 + (j52).toNat * 4, none⟩)) (ixx rfl rfl Try.underlying29 Try.sizeOf46 hi148 hi149 rfl) rfl ?_
                               replace hc := Ctx.rdCell hc (k := 2) rfl rfl reads_own hy147; obtain ⟨cs153, hc, hcell154⟩ := hc
                               replace hc := S_api_Seg.op hc; obtain ⟨a156, q157, u155, hc⟩ := hc; subst u155
                               refine rs (v := .agg #[.int .i64 y147.Epoch, .int .i64 y147.Seq, .int .i64 y147.Ack, .slice a156 y147.Body.length q157]) (ldg rfl Try.isAgg46 Try.sizeOf46 rfl (elCells hcell154 0 (vs := [.int .i64 y147.Epoch, .int .i64 y147.Seq, .int .i64 y147.Ack, .slice a156 y147.Body.length q157]) rfl)) rfl ?_
                               replace hc := hc.dup (k := 0) rfl rfl
                               replace hp := bind_some hp; obtain ⟨r158, hr158, hp⟩ := hp
                               replace hc := hc.pull 3 rfl rfl
                               refine rc (cl Try.call15 rfl rfl) rfl ?_
                               refine link_Link_Hear_any hc hr158 ?_
                               clear hc; intro a159 n160 q161 w162 hc
                               obtain ⟨u163, _⟩ := Ctx.rdLen hc (k := 0) rfl rfl reads_own; subst u163
                               refine rs (v := .tuple #[.slice a159 r158.1.length q161, .int .i64 r158.2.1]) (mv (v := .tuple #[.slice a159 r158.1.length q161, .int .i64 r158.2.1]) rfl) rfl ?_
                               refine rs (v := .slice a159 r158.1.length q161) (ext (v := .slice a159 r158.1.length q161) rfl rfl) rfl ?_
                               refine rs (v := .int .i64 r158.2.1) (ext (v := .int .i64 r158.2.1) rfl rfl) rfl ?_
                               refine rs (v := .slice a159 r158.1.length q161) (av (v := .slice a159 r158.1.length q161) rfl) rfl ?_
                               refine rs (v := .int .i64 r158.2.1) (av (v := .int .i64 r158.2.1) rfl) rfl ?_
                               refine rn ?_
                               refine qn ?_
                               refine Wseq ?_
                               refine Wreg ?_
                               refine rs (v := .int .i64 r158.2.1) (mv (v := .int .i64 r158.2.1) rfl) rfl ?_
                               refine rs (v := .bool (decide (r158.2.1 ≠ 160))) (ned rfl rfl) rfl ?_
                               refine rs (v := .bool (decide (r158.2.1 ≠ 160))) (mv (v := .bool (decide (r158.2.1 ≠ 160))) rfl) rfl ?_
                               cases hb164 : (decide (r158.2.1 ≠ 160))
                               · replace hp := gneg hp (of_decide_eq_false hb164)
                                 refine rs (v := .slice a159 r158.1.length q161) (mv (v := .slice a159 r158.1.length q161) rfl) rfl ?_
                                 refine rs (v := .int .i64 ((r158.1.length : Nat) : Int)) (ln rfl Try.underlying51) rfl ?_
                                 refine rs (v := .bool (decide (((r158.1.length : Nat) : Int) ≠ 0))) (ned rfl rfl) rfl ?_
                                 refine rs (v := .bool (decide (((r158.1.length : Nat) : Int) ≠ 0))) (pkf (v := .bool (decide (((r158.1.length : Nat) : Int) ≠ 0))) rfl rfl) rfl ?_
                                 refine rs (v := .bool (decide (((r158.1.length : Nat) : Int) ≠ 0))) (mv (v := .bool (decide (((r158.1.length : Nat) : Int) ≠ 0))) rfl) rfl ?_
                                 cases hb165 : (decide (((r158.1.length : Nat) : Int) ≠ 0))
                                 · replace hp := gneg hp (of_decide_eq_false hb165)
                                   refine rs (v := .pointer (some ⟨b22, 0, none⟩)) (mv (v := .pointer (some ⟨b22, 0, none⟩)) rfl) rfl ?_
                                   replace hp := bind_some hp; obtain ⟨r166, hr166, hp⟩ := hp
                                   replace hc := hc.pull 1 rfl rfl
                                   refine rc (cl Try.call25 rfl rfl) rfl ?_
                                   refine link_Link_Got_any hc hr166 ?_
                                   clear hc; intro w167 hc
                                   refine rs (v := .bool (decide (r166 ≠ 0))) (ned rfl rfl) rfl ?_
                                   refine rs (v := .bool (decide (r166 ≠ 0))) (pkf (v := .bool (decide (r166 ≠ 0))) rfl rfl) rfl ?_
                                   refine rn ?_
                                   refine qn ?_
                                   cases hb168 : (decide (r166 ≠ 0))
                                   · replace hp := gneg hp (of_decide_eq_false hb168)
                                     refine Wcf rfl ?_
                                     refine Wskip ?_
                                     refine bn ?_
                                     refine qn ?_
                                     refine Wreg ?_
                                     refine rs (v := .int .i64 j52) (mv (v := .int .i64 j52) rfl) rfl ?_
                                     refine rs (v := .int .i64 (IntKind.i64.wrap (j52 + 1))) (adw rfl rfl) rfl ?_
                                     refine rs (v := .int .i64 (IntKind.i64.wrap (j52 + 1))) (av (v := .int .i64 (IntKind.i64.wrap (j52 + 1))) rfl) rfl ?_
                                     refine rn ?_
                                     refine qn ?_
                                     replace hc := hc.rem 2 rfl rfl
                                     replace hc := hc.rem 1 rfl rfl
                                     replace hc := hc.pull 4 rfl rfl
                                     replace hc := hc.pull 4 rfl rfl
                                     replace hc := hc.pull 4 rfl rfl
                                     replace hc := hc.pull 3 rfl rfl
                                     replace hc := hc.pull 4 rfl rfl
                                     exact ⟨m3, Nat.lt_succ_self _, ⟨r158.2.2, (IntKind.i64.wrap (j52 + 1)), rfl, hp, hc⟩, (kl rfl k0)⟩
                                   · replace hp := gpos hp (of_decide_eq_true hb168)
                                     refine Wct rfl ?_
                                     refine Wseq ?_
                                     refine Wreg ?_
                                     refine rs (v := .bool false) (av (v := .bool false) rfl) rfl ?_
                                     refine rn ?_
                                     refine qn ?_
                                     refine Wret ?_
                                     refine br ?_
                                     refine qr ?_
                                     refine qr ?_
                                     refine br ?_
                                     refine qr ?_
                                     replace hc := hc.rem 4 rfl rfl
                                     replace hc := hc.rem 3 rfl rfl
                                     replace hc := hc.rem 2 rfl rfl
                                     replace hc := hc.rem 1 rfl rfl
                                     replace hc := hc.rem 0 rfl rfl
                                     injection hp with hp; subst hp
                                     refine f1 (v := .bool false) Try.results6 Try.ntmps6 rfl ?_
                                     exact ⟨_, rfl, k _ hc⟩
                                 · replace hp := gpos hp (of_decide_eq_true hb165)
                                   refine r0 rfl ?_
                                   refine r0 rfl ?_
                                   refine r0 rfl ?_
                                   refine rs (v := .bool true) (pkt (v := .bool true) rfl rfl) rfl ?_
                                   refine rn ?_
                                   refine qn ?_
                                   refine Wct rfl ?_
                                   refine Wseq ?_
                                   refine Wreg ?_
                                   refine rs (v := .bool false) (av (v := .bool false) rfl) rfl ?_
                                   refine rn ?_
                                   refine qn ?_
                                   refine Wret ?_
                                   refine br ?_
                                   refine qr ?_
                                   refine qr ?_
                                   refine br ?_
                                   refine qr ?_
                                   replace hc := hc.rem 4 rfl rfl
                                   replace hc := hc.rem 3 rfl rfl
                                   replace hc := hc.rem 2 rfl rfl
                                   replace hc := hc.rem 1 rfl rfl
                                   replace hc := hc.rem 0 rfl rfl
                                   injection hp with hp; subst hp
                                   refine f1 (v := .bool false) Try.results6 Try.ntmps6 rfl ?_
                                   exact ⟨_, rfl, k _ hc⟩
                               · replace hp := gpos hp (of_decide_eq_true hb164)
                                 refine r0 rfl ?_
                                 refine r0 rfl ?_
                                 refine r0 rfl ?_
                                 refine rs (v := .bool true) (pkt (v := .bool true) rfl rfl) rfl ?_
                                 refine rs (v := .bool true) (mv (v := .bool true) rfl) rfl ?_
                                 refine r0 rfl ?_
                                 refine r0 rfl ?_
                                 refine r0 rfl ?_
                                 refine rs (v := .bool true) (pkt (v := .bool true) rfl rfl) rfl ?_
                                 refine rn ?_
                                 refine qn ?_
                                 refine Wct rfl ?_
                                 refine Wseq ?_
                                 refine Wreg ?_
                                 refine rs (v := .bool false) (av (v := .bool false) rfl) rfl ?_
                                 refine rn ?_
                                 refine qn ?_
                                 refine Wret ?_
                                 refine br ?_
                                 refine qr ?_
                                 refine qr ?_
                                 refine br ?_
                                 refine qr ?_
                                 replace hc := hc.rem 4 rfl rfl
                                 replace hc := hc.rem 3 rfl rfl
                                 replace hc := hc.rem 2 rfl rfl
                                 replace hc := hc.rem 1 rfl rfl
                                 replace hc := hc.rem 0 rfl rfl
                                 injection hp with hp; subst hp
                                 refine f1 (v := .bool false) Try.results6 Try.ntmps6 rfl ?_
                                 exact ⟨_, rfl, k _ hc⟩
                         · replace hp := gpos hp (of_decide_eq_true hb50)
                           refine Wct rfl ?_
                           refine Wseq ?_
                           refine Wreg ?_
                           refine rs (v := .bool false) (av (v := .bool false) rfl) rfl ?_
                           refine rn ?_
                           refine qn ?_
                           refine Wret ?_
                           refine qr ?_
                           replace hc := hc.rem 2 rfl rfl
                           replace hc := hc.rem 1 rfl rfl
                           replace hc := hc.rem 0 rfl rfl
                           injection hp with hp; subst hp
                           refine f1 (v := .bool false) Try.results6 Try.ntmps6 rfl ?_
                           exact ⟨_, rfl, k _ hc⟩
                       · replace hp := gpos hp (of_decide_eq_true hb47)
                         refine r0 rfl ?_
                         refine r0 rfl ?_
                         refine r0 rfl ?_
                         refine rs (v := .bool true) (pkt (v := .bool true) rfl rfl) rfl ?_
                         refine rn ?_
                         refine qn ?_
                         refine Wct rfl ?_
                         refine Wseq ?_
                         refine Wreg ?_
                         refine rs (v := .bool false) (av (v := .bool false) rfl) rfl ?_
                         refine rn ?_
                         refine qn ?_
                         refine Wret ?_
                         refine qr ?_
                         replace hc := hc.rem 2 rfl rfl
                         replace hc := hc.rem 1 rfl rfl
                         replace hc := hc.rem 0 rfl rfl
                         injection hp with hp; subst hp
                         refine f1 (v := .bool false) Try.results6 Try.ntmps6 rfl ?_
                         exact ⟨_, rfl, k _ hc⟩
                     · replace hp := gpos hp (of_decide_eq_true hb44)
                       refine r0 rfl ?_
                       refine r0 rfl ?_
                       refine r0 rfl ?_
                       refine r0 rfl ?_
                       refine rs (v := .bool true) (pkt (v := .bool true) rfl rfl) rfl ?_
                       refine rs (v := .bool true) (mv (v := .bool true) rfl) rfl ?_
                       refine r0 rfl ?_
                       refine r0 rfl ?_
                       refine r0 rfl ?_
                       refine rs (v := .bool true) (pkt (v := .bool true) rfl rfl) rfl ?_
                       refine rn ?_
                       refine qn ?_
                       refine Wct rfl ?_
                       refine Wseq ?_
                       refine Wreg ?_
                       refine rs (v := .bool false) (av (v := .bool false) rfl) rfl ?_
                       refine rn ?_
                       refine qn ?_
                       refine Wret ?_
                       refine qr ?_
                       replace hc := hc.rem 2 rfl rfl
                       replace hc := hc.rem 1 rfl rfl
                       replace hc := hc.rem 0 rfl rfl
                       injection hp with hp; subst hp
                       refine f1 (v := .bool false) Try.results6 Try.ntmps6 rfl ?_
                       exact ⟨_, rfl, k _ hc⟩
                   · replace hp := gpos hp (of_decide_eq_true hb41)
                     refine r0 rfl ?_
                     refine r0 rfl ?_
                     refine r0 rfl ?_
                     refine r0 rfl ?_
                     refine rs (v := .bool true) (pkt (v := .bool true) rfl rfl) rfl ?_
                     refine rs (v := .bool true) (mv (v := .bool true) rfl) rfl ?_
                     refine r0 rfl ?_
                     refine r0 rfl ?_
                     refine r0 rfl ?_
                     refine r0 rfl ?_
                     refine rs (v := .bool true) (pkt (v := .bool true) rfl rfl) rfl ?_
                     refine rs (v := .bool true) (mv (v := .bool true) rfl) rfl ?_
                     refine r0 rfl ?_
                     refine r0 rfl ?_
                     refine r0 rfl ?_
                     refine rs (v := .bool true) (pkt (v := .bool true) rfl rfl) rfl ?_
                     refine rn ?_
                     refine qn ?_
                     refine Wct rfl ?_
                     refine Wseq ?_
                     refine Wreg ?_
                     refine rs (v := .bool false) (av (v := .bool false) rfl) rfl ?_
                     refine rn ?_
                     refine qn ?_
                     refine Wret ?_
                     refine qr ?_
                     replace hc := hc.rem 3 rfl rfl
                     replace hc := hc.rem 1 rfl rfl
                     replace hc := hc.rem 0 rfl rfl
                     injection hp with hp; subst hp
                     refine f1 (v := .bool false) Try.results6 Try.ntmps6 rfl ?_
                     exact ⟨_, rfl, k _ hc⟩
                 · replace hp := gpos hp (of_decide_eq_true hb29)
                   refine Wct rfl ?_
                   refine Wskip ?_
                   refine qn ?_
                   refine Wseq ?_
                   refine Wblk ?_
                   refine Wseq ?_
                   refine Wreg ?_
                   refine rs (v := .slice ax1 x1.length qx1) (mv (v := .slice ax1 x1.length qx1) rfl) rfl ?_
                   refine rs (v := .int .i64 j27) (mv (v := .int .i64 j27) rfl) rfl ?_
                   replace hp := bind_some hp; obtain ⟨y169, hy169, hp⟩ := hp
                   obtain ⟨b172, o173, u174, hi170, hi171⟩ := Ctx.rdAt hc (k := 3) rfl rfl hrd1 hy169
                   subst u174
                   refine rs (v := .pointer (some ⟨b172, o173 + (j27).toNat * 1, none⟩)) (ixx rfl rfl Try.underlying51 Try.sizeOf38 hi170 hi171 rfl) rfl ?_
                   replace hc := Ctx.rdCell hc (k := 3) rfl rfl hrd1 hy169; obtain ⟨cs175, hc, hcell176⟩ := hc
                   replace hc := Ctx.holdRo hc; obtain ⟨v180, u177, hc⟩ := hc; subst u177
                   obtain ⟨a178, q179, u177⟩ := hc.rd (k := 0) rfl rfl reads_ro; subst u177
                   refine rs (v := .slice a178 y169.length q179) (ld rfl Try.isAgg38 (hcell176 0 _ rfl)) rfl ?_
                   refine rs (v := .int .i64 ((y169.length : Nat) : Int)) (ln rfl Try.underlying38) rfl ?_
                   refine rs (v := .bool (decide (((y169.length : Nat) : Int) > 500))) (gt' rfl rfl) rfl ?_
                   refine rn ?_
                   refine qn ?_
                   cases hb181 : (decide (((y169.length : Nat) : Int) > 500))
                   · replace hp := gneg hp (of_decide_eq_false hb181)
                     refine Wcf rfl ?_
                     refine Wskip ?_
                     refine bn ?_
                     refine qn ?_
                     refine Wreg ?_
                     refine rs (v := .int .i64 j27) (mv (v := .int .i64 j27) rfl) rfl ?_
                     refine rs (v := .int .i64 (IntKind.i64.wrap (j27 + 1))) (adw rfl rfl) rfl ?_
                     refine rs (v := .int .i64 (IntKind.i64.wrap (j27 + 1))) (av (v := .int .i64 (IntKind.i64.wrap (j27 + 1))) rfl) rfl ?_
                     refine rn ?_
                     refine qn ?_
                     replace hc := hc.rem 0 rfl rfl
                     exact ⟨m2, Nat.lt_succ_self _, ⟨(IntKind.i64.wrap (j27 + 1)), rfl, hp, hc⟩, (kl rfl k0)⟩
                   · replace hp := gpos hp (of_decide_eq_true hb181)
                     refine Wct rfl ?_
                     refine Wseq ?_
                     refine Wreg ?_
                     refine rs (v := .bool true) (av (v := .bool true) rfl) rfl ?_
                     refine rn ?_
                     refine qn ?_
                     refine Wret ?_
                     refine br ?_
                     refine qr ?_
                     refine qr ?_
                     refine br ?_
                     refine qr ?_
                     replace hc := hc.rem 2 rfl rfl
                     replace hc := hc.rem 1 rfl rfl
                     replace hc := hc.rem 0 rfl rfl
                     injection hp with hp; subst hp
                     refine f1 (v := .bool true) Try.results6 Try.ntmps6 rfl ?_
                     exact ⟨_, rfl, k _ hc⟩
             · replace hp := gpos hp (of_decide_eq_true hb26)
               refine Wct rfl ?_
               refine Wskip ?_
               refine qn ?_
               refine Wseq ?_
               refine Wblk ?_
               refine Wseq ?_
               refine Wreg ?_
               refine rs (v := .slice ax0 x0.length qx0) (mv (v := .slice ax0 x0.length qx0) rfl) rfl ?_
               refine rs (v := .int .i64 j24) (mv (v := .int .i64 j24) rfl) rfl ?_
               replace hp := bind_some hp; obtain ⟨y182, hy182, hp⟩ := hp
               obtain ⟨b185, o186, u187, hi183, hi184⟩ := Ctx.rdAt hc (k := 2) rfl rfl hrd0 hy182
               subst u187
               refine rs (v := .pointer (some ⟨b185, o186 + (j24).toNat * 1, none⟩)) (ixx rfl rfl Try.underlying51 Try.sizeOf38 hi183 hi184 rfl) rfl ?_
               replace hc := Ctx.rdCell hc (k := 2) rfl rfl hrd0 hy182; obtain ⟨cs188, hc, hcell189⟩ := hc
               replace hc := Ctx.holdRo hc; obtain ⟨v193, u190, hc⟩ := hc; subst u190
               obtain ⟨a191, q192, u190⟩ := hc.rd (k := 0) rfl rfl reads_ro; subst u190
               refine rs (v := .slice a191 y182.length q192) (ld rfl Try.isAgg38 (hcell189 0 _ rfl)) rfl ?_
               refine rs (v := .int .i64 ((y182.length : Nat) : Int)) (ln rfl Try.underlying38) rfl ?_
               refine rs (v := .bool (decide (((y182.length : Nat) : Int) > 500))) (gt' rfl rfl) rfl ?_
               refine rn ?_
               refine qn ?_
               cases hb194 : (decide (((y182.length : Nat) : Int) > 500))
               · replace hp := gneg hp (of_decide_eq_false hb194)
                 refine Wcf rfl ?_
                 refine Wskip ?_
                 refine bn ?_
                 refine qn ?_
                 refine Wreg ?_
                 refine rs (v := .int .i64 j24) (mv (v := .int .i64 j24) rfl) rfl ?_
                 refine rs (v := .int .i64 (IntKind.i64.wrap (j24 + 1))) (adw rfl rfl) rfl ?_
                 refine rs (v := .int .i64 (IntKind.i64.wrap (j24 + 1))) (av (v := .int .i64 (IntKind.i64.wrap (j24 + 1))) rfl) rfl ?_
                 refine rn ?_
                 refine qn ?_
                 replace hc := hc.rem 0 rfl rfl
                 exact ⟨m1, Nat.lt_succ_self _, ⟨(IntKind.i64.wrap (j24 + 1)), rfl, hp, hc⟩, (kl rfl k0)⟩
               · replace hp := gpos hp (of_decide_eq_true hb194)
                 refine Wct rfl ?_
                 refine Wseq ?_
                 refine Wreg ?_
                 refine rs (v := .bool true) (av (v := .bool true) rfl) rfl ?_
                 refine rn ?_
                 refine qn ?_
                 refine Wret ?_
                 refine br ?_
                 refine qr ?_
                 refine qr ?_
                 refine br ?_
                 refine qr ?_
                 replace hc := hc.rem 2 rfl rfl
                 replace hc := hc.rem 1 rfl rfl
                 replace hc := hc.rem 0 rfl rfl
                 injection hp with hp; subst hp
                 refine f1 (v := .bool true) Try.results6 Try.ntmps6 rfl ?_
                 exact ⟨_, rfl, k _ hc⟩
     · replace hp := gpos hp (of_decide_eq_true hb7)
       refine Wct rfl ?_
       refine Wseq ?_
       refine Wreg ?_
       replace hp := bind_some hp; obtain ⟨r195, hr195, hp⟩ := hp
       refine rc (cl Try.call7 rfl rfl) rfl ?_
       refine law16_awake_any hc hr195 ?_
       clear hc; intro w196 hc
       refine rs (v := .bool r195) (av (v := .bool r195) rfl) rfl ?_
       refine rn ?_
       refine qn ?_
       refine Wret ?_
       refine qr ?_
       injection hp with hp; subst hp
       refine f1 (v := .bool r195) Try.results6 Try.ntmps6 rfl ?_
       exact ⟨_, rfl, k _ hc⟩
   · replace hp := gpos hp (of_decide_eq_true hb6)
     refine r0 rfl ?_
     refine r0 rfl ?_
     refine r0 rfl ?_
     refine rs (v := .bool true) (pkt (v := .bool true) rfl rfl) rfl ?_
     refine rn ?_
     refine qn ?_
     refine Wct rfl ?_
     refine Wseq ?_
     refine Wreg ?_
     replace hp := bind_some hp; obtain ⟨r197, hr197, hp⟩ := hp
     refine rc (cl Try.call7 rfl rfl) rfl ?_
     refine law16_awake_any hc hr197 ?_
     clear hc; intro w198 hc
     refine rs (v := .bool r197) (av (v := .bool r197) rfl) rfl ?_
     refine rn ?_
     refine qn ?_
     refine Wret ?_
     refine qr ?_
     injection hp with hp; subst hp
     refine f1 (v := .bool r197) Try.results6 Try.ntmps6 rfl ?_
     exact ⟨_, rfl, k _ hc⟩

end Go.Proofs.Ytjileigclbohdaa
