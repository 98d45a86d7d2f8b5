/- Functions of the program as plain functions, and the proofs that walks compute them. Printed by a program of this session. -/
import Derived.Test.YtfhpmaphgkiegaaT1
namespace Go.Proofs.Ytfhpmaphgkiegaa
open Go Go.RowKit Go.Hp
set_option linter.unusedVariables false
set_option linter.unusedSimpArgs false
set_option maxRecDepth 100000

-- FN peloton/pelotonlaw23.LedgerApart
def law23_LedgerApart.J4 (j27 : Int) (k2 : S_ledger_Ledger → (List S_ledger_Ledger) → Int → Option (Bool)) (j33 : S_ledger_Ledger) (j34 : (List S_ledger_Ledger)) : Option (Bool) :=
  k2 j33 j34 (IntKind.i64.wrap (j27 + 1))

def law23_LedgerApart.J3 (N : Nat) (x1 : (List Int)) (j16 : (List Int)) (j25 : S_ledger_Ledger) (j26 : (List S_ledger_Ledger)) (j27 : Int) (k2 : S_ledger_Ledger → (List S_ledger_Ledger) → Int → Option (Bool)) (j29 : Bool) : Option (Bool) :=
  if j29 = true then
    (idx x1 j27).bind fun y35 =>
    chk (((j16.length : Nat) : Int) ≠ 0) <|
    chk (((j16.length : Nat) : Int) ≠ 0) <|
    (some (Int.tmod (IntKind.i64.wrap ((Int.tmod y35 ((j16.length : Nat) : Int)) + ((j16.length : Nat) : Int))) ((j16.length : Nat) : Int))).bind fun e46 =>
    (ledger_Ledger_Next j25 e46).bind fun r47 =>
    (idx j26 e46).bind fun y49 =>
    (ledger_Ledger_Next y49 e46).bind fun r61 =>
    if r47.1 ≠ r61.1 then
      some false
    else
      if r47.2.1 ≠ r61.2.1 then
        some false
      else
        if (!(r47.2.2 == r61.2.2)) = true then
          some false
        else
          (ledger_Ledger_Answer j25 e46 r47.1 j27).bind fun r66 =>
          (ledger_Ledger_Answer y49 e46 r47.1 j27).bind fun r77 =>
          if (!decide ((⟨r66.1.Request, r66.1.Place, r66.1.Token⟩ : S_api_Say) = (⟨r77.1.Request, r77.1.Place, r77.1.Token⟩ : S_api_Say))) = true then
            some false
          else
            if (!(r66.2.1 == r77.2.1)) = true then
              some false
            else
              if r66.2.2.1 ≠ r77.2.2.1 then
                some false
              else
                (ledger_Ledger_Log r66.2.2.2 e46).bind fun r87 =>
                (ledger_Ledger_Log r77.2.2.2 e46).bind fun r98 =>
                (ref09_Ints N r87 r98).bind fun r104 =>
                if r104 = true then
                  (idx x1 j27).bind fun y107 =>
                  if (Int.tmod y107 5) = 0 then
                    (ledger_Ledger_Rewind N r66.2.2.2 ([e46])).bind fun r119 =>
                    (ledger_Ledger_Rewind N r77.2.2.2 ([])).bind fun r126 =>
                    law23_LedgerApart.J4 j27 k2 r119 (j26.set (e46).toNat r126)
                  else
                    law23_LedgerApart.J4 j27 k2 r66.2.2.2 (j26.set (e46).toNat r77.2.2.2)
                else
                  some false
  else
    some true

def law23_LedgerApart.L2 (N : Nat) (x1 : (List Int)) (j16 : (List Int)) : Nat → S_ledger_Ledger → (List S_ledger_Ledger) → Int → Option (Bool)
  | 0, _, _, _ => none
  | m2 + 1, j25, j26, j27 =>
    if j27 < ((x1.length : Nat) : Int) then
      law23_LedgerApart.J3 N x1 j16 j25 j26 j27 (law23_LedgerApart.L2 N x1 j16 m2) (decide (((j16.length : Nat) : Int) > 0))
    else
      law23_LedgerApart.J3 N x1 j16 j25 j26 j27 (law23_LedgerApart.L2 N x1 j16 m2) false

def law23_LedgerApart.L1 (N : Nat) (x0 : (List S_api_Request)) (x1 : (List Int)) : Nat → S_ledger_Ledger → (List S_ledger_Ledger) → (List Int) → Int → Option (Bool)
  | 0, _, _, _, _ => none
  | m1 + 1, j11, j12, j16, j20 =>
    if j20 < ((x0.length : Nat) : Int) then
      (idx x0 j20).bind fun y129 =>
      if ((y129.Prompt.length : Nat) : Int) > 30 then
        some true
      else
        (ledger_New).bind fun r141 =>
        (idx x0 j20).bind fun y144 =>
        (ledger_Ledger_Open j11 (⟨j20, y144.Most, y144.Prompt⟩ : S_api_Request)).bind fun r161 =>
        (ledger_Ledger_Open r141 (⟨j20, y144.Most, y144.Prompt⟩ : S_api_Request)).bind fun r163 =>
        if r161.1 ≠ r163.1 then
          some false
        else
          (app j12 ([r163.2])).bind fun z168 =>
          (app j16 ([j20])).bind fun z176 =>
          (law23_LedgerApart.L1 N x0 x1 m1) r161.2 z168 z176 (IntKind.i64.wrap (j20 + 1))
    else
      law23_LedgerApart.L2 N x1 j16 N j11 j12 0

def law23_LedgerApart (N : Nat) (x0 : (List S_api_Request)) (x1 : (List Int)) : Option (Bool) :=
  (law23_awake N).bind fun r1 =>
  if r1 = true then
    if ((x0.length : Nat) : Int) > 6 then
      (law23_awake N).bind fun r184 =>
      some r184
    else
      if ((x1.length : Nat) : Int) > 100 then
        (law23_awake N).bind fun r182 =>
        some r182
      else
        (ledger_New).bind fun r8 =>
        law23_LedgerApart.L1 N x0 x1 N r8 ([]) ([]) 0
  else
    (law23_awake N).bind fun r4 =>
    some r4

set_option maxHeartbeats 8000000 in
theorem law23_LedgerApart_any {N : Nat} {x0 : (List S_api_Request)} {ax0 : Option Addr} {nx0 : Nat} {qx0 : Nat} {P0 : HP} {x1 : (List Int)} {ax1 : Option Addr} {nx1 : Nat} {qx1 : Nat} {P1 : HP} {Fr : List HP} {w : World} {r : Bool} {K : Value → World → Prop} (hrd0 : Reads P0 S_api_Request.pr (.slice ax0 nx0 qx0) x0) (hrd1 : Reads P1 (pInt .i64) (.slice ax1 nx1 qx1) x1) (hc : Ctx w (P0 :: P1 :: Fr)) (hp : law23_LedgerApart N x0 x1 = some r)
    (k : ∀ w', Ctx w' (P0 :: P1 :: Fr) → K (.bool r) w') : Calls Try.prog 3 #[.slice ax0 nx0 qx0, .slice ax1 nx1 qx1] w (Ret K) := by
 unfold law23_LedgerApart at hp
 refine Center (args := [.slice ax0 nx0 qx0, .slice ax1 nx1 qx1]) (l := [(0, .slice ax0 nx0 qx0), (1, .slice ax1 nx1 qx1)]) Try.func3 Try.ntmps3 rfl rfl rfl ?_
 obtain ⟨hn0, _⟩ := Ctx.rdLen hc (k := 0) rfl rfl hrd0; subst hn0
 obtain ⟨hn1, _⟩ := Ctx.rdLen hc (k := 1) rfl rfl hrd1; subst hn1
 refine Wseq ?_
 refine Wreg ?_
 refine rs (v := .bool false) (av (v := .bool false) rfl) rfl ?_
 refine rn ?_
 refine qn ?_
 refine Wseq ?_
 refine Wseq ?_
 refine Wreg ?_
 replace hp := bind_some hp; obtain ⟨r1, hr1, hp⟩ := hp
 refine rc (cl Try.call6 rfl rfl) rfl ?_
 refine law23_awake_any hc hr1 ?_
 clear hc; intro w2 hc
 cases hb3 : r1
 · replace hp := gneg hp (by rw [hb3]; exact Bool.false_ne_true)
   subst hb3
   refine rs (v := .bool true) (ntf rfl) rfl ?_
   refine rs (v := .bool true) (mv (v := .bool true) rfl) rfl ?_
   refine r0 rfl ?_
   refine r0 rfl ?_
   refine r0 rfl ?_
   refine rs (v := .bool true) (pkt (v := .bool true) rfl rfl) rfl ?_
   refine rs (v := .bool true) (mv (v := .bool true) rfl) rfl ?_
   refine r0 rfl ?_
   refine r0 rfl ?_
   refine r0 rfl ?_
   refine rs (v := .bool true) (pkt (v := .bool true) rfl rfl) rfl ?_
   refine rn ?_
   refine qn ?_
   refine Wct rfl ?_
   refine Wseq ?_
   refine Wreg ?_
   replace hp := bind_some hp; obtain ⟨r4, hr4, hp⟩ := hp
   refine rc (cl Try.call6 rfl rfl) rfl ?_
   refine law23_awake_any hc hr4 ?_
   clear hc; intro w5 hc
   refine rs (v := .bool r4) (av (v := .bool r4) rfl) rfl ?_
   refine rn ?_
   refine qn ?_
   refine Wret ?_
   refine qr ?_
   injection hp with hp; subst hp
   refine f1 (v := .bool r4) Try.results3 Try.ntmps3 rfl ?_
   exact ⟨_, rfl, k _ hc⟩
 · replace hp := gpos hp hb3
   subst hb3
   refine rs (v := .bool false) (ntt rfl) rfl ?_
   refine rs (v := .bool false) (mv (v := .bool false) rfl) rfl ?_
   refine rs (v := .slice ax0 x0.length qx0) (mv (v := .slice ax0 x0.length qx0) rfl) rfl ?_
   refine rs (v := .int .i64 ((x0.length : Nat) : Int)) (ln rfl Try.underlying22) rfl ?_
   refine rs (v := .bool (decide (((x0.length : Nat) : Int) > 6))) (gt' rfl rfl) rfl ?_
   refine rs (v := .bool (decide (((x0.length : Nat) : Int) > 6))) (pkf (v := .bool (decide (((x0.length : Nat) : Int) > 6))) rfl rfl) rfl ?_
   refine rs (v := .bool (decide (((x0.length : Nat) : Int) > 6))) (mv (v := .bool (decide (((x0.length : Nat) : Int) > 6))) rfl) rfl ?_
   cases hb6 : (decide (((x0.length : Nat) : Int) > 6))
   · replace hp := gneg hp (of_decide_eq_false hb6)
     refine rs (v := .slice ax1 x1.length qx1) (mv (v := .slice ax1 x1.length qx1) rfl) rfl ?_
     refine rs (v := .int .i64 ((x1.length : Nat) : Int)) (ln rfl Try.underlying23) rfl ?_
     refine rs (v := .bool (decide (((x1.length : Nat) : Int) > 100))) (gt' rfl rfl) rfl ?_
     refine rs (v := .bool (decide (((x1.length : Nat) : Int) > 100))) (pkf (v := .bool (decide (((x1.length : Nat) : Int) > 100))) rfl rfl) rfl ?_
     refine rn ?_
     refine qn ?_
     cases hb7 : (decide (((x1.length : Nat) : Int) > 100))
     · replace hp := gneg hp (of_decide_eq_false hb7)
       refine Wcf rfl ?_
       refine Wskip ?_
       refine qn ?_
       refine Wseq ?_
       refine Wreg ?_
       replace hp := bind_some hp; obtain ⟨r8, hr8, hp⟩ := hp
       refine rc (cl Try.call7 rfl rfl) rfl ?_
       refine ledger_New_any hc hr8 ?_
       clear hc; intro b9 w10 hc
       refine rs (v := .pointer (some ⟨b9, 0, none⟩)) (av (v := .pointer (some ⟨b9, 0, none⟩)) rfl) rfl ?_
       refine rn ?_
       refine qn ?_
       refine Wseq ?_
       refine Wseq ?_
       refine Wreg ?_
       refine rs (v := .pointer (some ⟨b9, 0, none⟩)) (mv (v := .pointer (some ⟨b9, 0, none⟩)) rfl) rfl ?_
       refine rs (v := .bool false) (epf Try.underlying25 rfl rfl) rfl ?_
       refine rn ?_
       refine qn ?_
       refine Wcf rfl ?_
       refine Wskip ?_
       refine qn ?_
       refine Wseq ?_
       refine Wreg ?_
       refine rs (v := .slice none 0 0) (av (v := .slice none 0 0) rfl) rfl ?_
       refine rn ?_
       refine qn ?_
       refine Wseq ?_
       refine Wreg ?_
       refine rs (v := .slice none 0 0) (av (v := .slice none 0 0) rfl) rfl ?_
       refine rn ?_
       refine qn ?_
       refine Wseq ?_
       refine Wseq ?_
       refine Wreg ?_
       refine rs (v := .int .i64 0) (av (v := .int .i64 0) rfl) rfl ?_
       refine rn ?_
       refine qn ?_
       refine Wblk ?_
       replace hc := hc.nilOwnV (vPt S_ledger_Ledger.hp) 25
       replace hc := hc.nilOwn (pInt .i64) 3
       replace hc := hc.pull 1 rfl rfl
       replace hc := hc.pull 4 rfl rfl
       replace hc := hc.pull 4 rfl rfl
       replace hc := hc.pull 4 rfl rfl
       refine Wloop [4, 6, 7, 8, 9, 10, 41, 42, 43, 44, 45, 46, 47, 48, 49, 50, 51, 52, 53, 54, 55, 56, 57, 58, 59, 60, 61, 62, 63, 64, 65, 66, 67, 68, 69, 70, 71, 72, 73, 74, 75, 76, 77] [6, 7, 8] (fun m vs w' => ∃ j11 : S_ledger_Ledger, ∃ j12 : (List S_ledger_Ledger), ∃ j16 : (List Int), ∃ j20 : Int, ∃ a13 : Option Addr, ∃ n14 : Nat, ∃ q15 : Nat, ∃ a17 : Option Addr, ∃ n18 : Nat, ∃ q19 : Nat, vs = [.slice a13 n14 q15, .slice a17 n18 q19, .int .i64 j20] ∧ law23_LedgerApart.L1 N x0 x1 m j11 j12 j16 j20 = some r ∧ Ctx w' (S_ledger_Ledger.hp b9 j11 :: P0 :: P1 :: OwnV (vPt S_ledger_Ledger.hp) 25 (.slice a13 n14 q15) j12 :: Own (pInt .i64) 3 (.slice a17 n18 q19) j16 :: Fr)) N ?_ ?_
       · exact ⟨r8, [], [], 0, none, 0, 0, none, 0, 0, rfl, hp, hc⟩
       · clear hp hc; intro m vs u w21 hJ
         obtain ⟨j11, j12, j16, j20, a13, n14, q15, a17, n18, q19, rfl, hp, hc⟩ := hJ
         have u22 := Ctx.ownVLen' hc (k := 3) rfl rfl; subst u22
         obtain ⟨u23, _⟩ := Ctx.rdLen hc (k := 4) rfl rfl reads_own; subst u23
         rcases m with _ | m1
         · cases (show none = some r from hp)
         rw [law23_LedgerApart.L1] at hp
         refine Wseq ?_
         refine Wseq ?_
         refine Wreg ?_
         refine rs (v := .int .i64 j20) (mv (v := .int .i64 j20) rfl) rfl ?_
         refine rs (v := .slice ax0 x0.length qx0) (mv (v := .slice ax0 x0.length qx0) rfl) rfl ?_
         refine rs (v := .int .i64 ((x0.length : Nat) : Int)) (ln rfl Try.underlying22) rfl ?_
         refine rs (v := .bool (decide (j20 < ((x0.length : Nat) : Int)))) (lt' rfl rfl) rfl ?_
         refine rn ?_
         refine qn ?_
         cases hb24 : (decide (j20 < ((x0.length : Nat) : Int)))
         · replace hp := gneg hp (of_decide_eq_false hb24)
           refine Wcf rfl ?_
           refine Wexit ?_
           refine qx ?_
           refine qx ?_
           refine be ?_
           refine qn ?_
           refine Wseq ?_
           refine Wseq ?_
           refine Wreg ?_
           refine rs (v := .int .i64 0) (av (v := .int .i64 0) rfl) rfl ?_
           refine rn ?_
           refine qn ?_
           refine Wblk ?_
           refine Wloop [4, 11, 12, 13, 14, 15, 16, 17, 18, 19, 20, 21, 22, 23, 24, 78, 79, 80, 81, 82, 83, 84, 85, 86, 87, 88, 89, 90, 91, 92, 93, 94, 95, 96, 97, 98, 99, 100, 101, 102, 103, 104, 105, 106, 107, 108, 109, 110, 111, 112, 113, 114, 115, 116, 117, 118, 119, 120, 121, 122, 123, 124, 125, 126, 127, 128, 129, 130, 131, 132, 133, 134, 135, 136, 137, 138, 139, 140, 141, 142, 143, 144, 145, 146, 147, 148, 149, 150, 151, 152, 153, 154, 155, 156, 157, 158, 159, 160, 161, 162, 163, 164, 165, 166, 167, 168, 169, 170, 171, 172, 173, 174, 175, 176, 177, 178, 179, 180, 181, 182, 183, 184, 185, 186, 187, 188, 189, 190, 191, 192, 193] [11] (fun m vs w' => ∃ j25 : S_ledger_Ledger, ∃ j26 : (List S_ledger_Ledger), ∃ j27 : Int, vs = [.int .i64 j27] ∧ law23_LedgerApart.L2 N x1 j16 m j25 j26 j27 = some r ∧ Ctx w' (S_ledger_Ledger.hp b9 j25 :: P0 :: P1 :: OwnV (vPt S_ledger_Ledger.hp) 25 (.slice a13 j12.length q15) j26 :: Own (pInt .i64) 3 (.slice a17 j16.length q19) j16 :: Fr)) N ?_ ?_
           · exact ⟨j11, j12, 0, rfl, hp, hc⟩
           · clear hp hc; intro m vs u w28 hJ
             obtain ⟨j25, j26, j27, rfl, hp, hc⟩ := hJ
             rcases m with _ | m2
             · cases (show none = some r from hp)
             rw [law23_LedgerApart.L2] at hp
             refine Wseq ?_
             refine Wseqm [78, 79, 80, 81, 82, 83, 84, 85, 86] [86] (fun vs w' => ∃ j29 : Bool, vs = [.bool j29] ∧ law23_LedgerApart.J3 N x1 j16 j25 j26 j27 (law23_LedgerApart.L2 N x1 j16 m2) j29 = some r ∧ Ctx w' (S_ledger_Ledger.hp b9 j25 :: P0 :: P1 :: OwnV (vPt S_ledger_Ledger.hp) 25 (.slice a13 j12.length q15) j26 :: Own (pInt .i64) 3 (.slice a17 j16.length q19) j16 :: Fr)) ?_ ?_
             · refine Wreg ?_
               refine rs (v := .int .i64 j27) (mv (v := .int .i64 j27) rfl) rfl ?_
               refine rs (v := .slice ax1 x1.length qx1) (mv (v := .slice ax1 x1.length qx1) rfl) rfl ?_
               refine rs (v := .int .i64 ((x1.length : Nat) : Int)) (ln rfl Try.underlying23) rfl ?_
               refine rs (v := .bool (decide (j27 < ((x1.length : Nat) : Int)))) (lt' rfl rfl) rfl ?_
               refine rs (v := .bool (decide (j27 < ((x1.length : Nat) : Int)))) (mv (v := .bool (decide (j27 < ((x1.length : Nat) : Int)))) rfl) rfl ?_
               cases hb30 : (decide (j27 < ((x1.length : Nat) : Int)))
               · replace hp := gneg hp (of_decide_eq_false hb30)
                 refine r0 rfl ?_
                 refine r0 rfl ?_
                 refine r0 rfl ?_
                 refine rs (v := .bool false) (pkf (v := .bool false) rfl rfl) rfl ?_
                 refine rn ?_
                 refine qn ?_
                 exact ⟨⟨false, rfl, hp, hc⟩, (kl rfl kb)⟩
               · replace hp := gpos hp (of_decide_eq_true hb30)
                 refine rs (v := .slice a17 j16.length q19) (mv (v := .slice a17 j16.length q19) rfl) rfl ?_
                 refine rs (v := .int .i64 ((j16.length : Nat) : Int)) (ln rfl Try.underlying23) rfl ?_
                 refine rs (v := .bool (decide (((j16.length : Nat) : Int) > 0))) (gt' rfl rfl) rfl ?_
                 refine rs (v := .bool (decide (((j16.length : Nat) : Int) > 0))) (pkt (v := .bool (decide (((j16.length : Nat) : Int) > 0))) rfl rfl) rfl ?_
                 refine rn ?_
                 refine qn ?_
                 exact ⟨⟨decide (((j16.length : Nat) : Int) > 0), rfl, hp, hc⟩, (kl rfl kb)⟩
             · clear hp hc; intro vs u w31 hJ
               obtain ⟨j29, rfl, hp, hc⟩ := hJ
               unfold law23_LedgerApart.J3 at hp
               cases hb32 : j29
               · replace hp := gneg hp (by rw [hb32]; exact Bool.false_ne_true)
                 subst hb32
                 refine Wcf rfl ?_
                 refine Wexit ?_
                 refine qx ?_
                 refine qx ?_
                 refine be ?_
                 refine qn ?_
                 refine Wseq ?_
                 refine Wreg ?_
                 refine rs (v := .bool true) (av (v := .bool true) rfl) rfl ?_
                 refine rn ?_
                 refine qn ?_
                 refine Wret ?_
                 replace hc := hc.rem 4 rfl rfl
                 replace hc := hc.rem 3 rfl rfl
                 replace hc := hc.rem 0 rfl rfl
                 injection hp with hp; subst hp
                 refine f1 (v := .bool true) Try.results3 Try.ntmps3 rfl ?_
                 exact ⟨_, rfl, k _ hc⟩
               · replace hp := gpos hp hb32
                 subst hb32
                 refine Wct rfl ?_
                 refine Wskip ?_
                 refine qn ?_
                 refine Wseqm [4, 12, 13, 14, 15, 16, 17, 18, 19, 20, 21, 22, 23, 24, 89, 90, 91, 92, 93, 94, 95, 96, 97, 98, 99, 100, 101, 102, 103, 104, 105, 106, 107, 108, 109, 110, 111, 112, 113, 114, 115, 116, 117, 118, 119, 120, 121, 122, 123, 124, 125, 126, 127, 128, 129, 130, 131, 132, 133, 134, 135, 136, 137, 138, 139, 140, 141, 142, 143, 144, 145, 146, 147, 148, 149, 150, 151, 152, 153, 154, 155, 156, 157, 158, 159, 160, 161, 162, 163, 164, 165, 166, 167, 168, 169, 170, 171, 172, 173, 174, 175, 176, 177, 178, 179, 180, 181, 182, 183, 184, 185, 186, 187, 188, 189, 190, 191, 192, 193] [] (fun vs w' => ∃ j33 : S_ledger_Ledger, ∃ j34 : (List S_ledger_Ledger), vs = [] ∧ law23_LedgerApart.J4 j27 (law23_LedgerApart.L2 N x1 j16 m2) j33 j34 = some r ∧ Ctx w' (S_ledger_Ledger.hp b9 j33 :: P0 :: P1 :: OwnV (vPt S_ledger_Ledger.hp) 25 (.slice a13 j12.length q15) j34 :: Own (pInt .i64) 3 (.slice a17 j16.length q19) j16 :: Fr)) ?_ ?_
                 · refine Wblk ?_
                   refine Wseq ?_
                   refine Wreg ?_
                   refine rs (v := .slice ax1 x1.length qx1) (mv (v := .slice ax1 x1.length qx1) rfl) rfl ?_
                   refine rs (v := .int .i64 j27) (mv (v := .int .i64 j27) rfl) rfl ?_
                   replace hp := bind_some hp; obtain ⟨y35, hy35, hp⟩ := hp
                   obtain ⟨b38, o39, u40, hi36, hi37⟩ := Ctx.rdAt hc (k := 2) rfl rfl hrd1 hy35
                   subst u40
                   refine rs (v := .pointer (some ⟨b38, o39 + (j27).toNat * 1, none⟩)) (ixx rfl rfl Try.underlying23 Try.sizeOf3 hi36 hi37 rfl) rfl ?_
                   replace hc := Ctx.rdCell hc (k := 2) rfl rfl hrd1 hy35; obtain ⟨cs41, hc, hcell42⟩ := hc
                   replace hc := Ctx.holdC hc; obtain ⟨u43, hc⟩ := hc; subst u43
                   refine rs (v := .int .i64 y35) (ld rfl Try.isAgg3 (hcell42 0 _ rfl)) rfl ?_
                   refine rs (v := .slice a17 j16.length q19) (mv (v := .slice a17 j16.length q19) rfl) rfl ?_
                   refine rs (v := .int .i64 ((j16.length : Nat) : Int)) (ln rfl Try.underlying23) rfl ?_
                   replace hp := chk_some hp; obtain ⟨hg44, hp⟩ := hp
                   refine rs (v := .int .i64 (Int.tmod y35 ((j16.length : Nat) : Int))) (rm rfl rfl hg44) rfl ?_
                   refine rs (v := .slice a17 j16.length q19) (mv (v := .slice a17 j16.length q19) rfl) rfl ?_
                   refine rs (v := .int .i64 ((j16.length : Nat) : Int)) (ln rfl Try.underlying23) rfl ?_
                   refine rs (v := .int .i64 (IntKind.i64.wrap ((Int.tmod y35 ((j16.length : Nat) : Int)) + ((j16.length : Nat) : Int)))) (adw rfl rfl) rfl ?_
                   refine rs (v := .slice a17 j16.length q19) (mv (v := .slice a17 j16.length q19) rfl) rfl ?_
                   refine rs (v := .int .i64 ((j16.length : Nat) : Int)) (ln rfl Try.underlying23) rfl ?_
                   replace hp := chk_some hp; obtain ⟨hg45, hp⟩ := hp
                   refine rs (v := .int .i64 (Int.tmod (IntKind.i64.wrap ((Int.tmod y35 ((j16.length : Nat) : Int)) + ((j16.length : Nat) : Int))) ((j16.length : Nat) : Int))) (rm rfl rfl hg45) rfl ?_
                   replace hp := bind_some hp; obtain ⟨e46, he46, hp⟩ := hp
                   injection he46 with he46
                   refine rs (v := .int .i64 e46) (av (v := .int .i64 e46) (by rw [← he46]; rfl)) rfl ?_
                   refine rn ?_
                   refine qn ?_
                   refine Wseq ?_
                   refine Wreg ?_
                   refine rs (v := .pointer (some ⟨b9, 0, none⟩)) (mv (v := .pointer (some ⟨b9, 0, none⟩)) rfl) rfl ?_
                   refine rs (v := .int .i64 e46) (mv (v := .int .i64 e46) rfl) rfl ?_
                   replace hp := bind_some hp; obtain ⟨r47, hr47, hp⟩ := hp
                   refine rc (cl Try.call9 rfl rfl) rfl ?_
                   refine ledger_Ledger_Next_any hc hr47 ?_
                   clear hc; intro w48 hc
                   refine rs (v := .tuple #[.int .i64 r47.1, .int .i64 r47.2.1, .bool r47.2.2]) (mv (v := .tuple #[.int .i64 r47.1, .int .i64 r47.2.1, .bool r47.2.2]) rfl) rfl ?_
                   refine rs (v := .int .i64 r47.1) (ext (v := .int .i64 r47.1) rfl rfl) rfl ?_
                   refine rs (v := .int .i64 r47.2.1) (ext (v := .int .i64 r47.2.1) rfl rfl) rfl ?_
                   refine rs (v := .bool r47.2.2) (ext (v := .bool r47.2.2) rfl rfl) rfl ?_
                   refine rs (v := .int .i64 r47.1) (av (v := .int .i64 r47.1) rfl) rfl ?_
                   refine rs (v := .int .i64 r47.2.1) (av (v := .int .i64 r47.2.1) rfl) rfl ?_
                   refine rs (v := .bool r47.2.2) (av (v := .bool r47.2.2) rfl) rfl ?_
                   refine rn ?_
                   refine qn ?_
                   refine Wseq ?_
                   refine Wreg ?_
                   refine rs (v := .slice a13 j12.length q15) (mv (v := .slice a13 j12.length q15) rfl) rfl ?_
                   refine rs (v := .int .i64 e46) (mv (v := .int .i64 e46) rfl) rfl ?_
                   replace hp := bind_some hp; obtain ⟨y49, hy49, hp⟩ := hp
                   replace hc := hc.pull 3 rfl rfl
                   replace hc := Ctx.ownVF hc; obtain ⟨hs50, hl53, hc⟩ := hc
                   replace hc := Ctx.bigF hc.swap hy49; obtain ⟨a52, ha51, hc⟩ := hc
                   replace hc := Ctx.exF hc; obtain ⟨b55, hc⟩ := hc
                   replace hc := Ctx.sepF hc
                   replace hc := Ctx.puF hc; obtain ⟨u54, hc⟩ := hc; subst u54
                   have hln := Ctx.rdLen hc (k := 2) rfl rfl reads_own
                   obtain ⟨b58, o59, u60, hi56, hi57⟩ := Ctx.rdAt hc (k := 2) rfl rfl reads_own ha51
                   clear hln
                   subst u60
                   refine rs (v := .pointer (some ⟨b58, o59 + (e46).toNat * 1, none⟩)) (ixx rfl rfl Try.underlying27 Try.sizeOf25 hi56 hi57 rfl) rfl ?_
                   refine rs (v := .pointer (some ⟨b55, 0, none⟩)) (ld rfl Try.isAgg25 (Ctx.rdAny hc (k := 2) rfl rfl ha51 0 _ rfl)) rfl ?_
                   refine rs (v := .int .i64 e46) (mv (v := .int .i64 e46) rfl) rfl ?_
                   replace hp := bind_some hp; obtain ⟨r61, hr61, hp⟩ := hp
                   refine rc (cl Try.call9 rfl rfl) rfl ?_
                   refine ledger_Ledger_Next_any hc hr61 ?_
                   clear hc; intro w62 hc
                   refine rs (v := .tuple #[.int .i64 r61.1, .int .i64 r61.2.1, .bool r61.2.2]) (mv (v := .tuple #[.int .i64 r61.1, .int .i64 r61.2.1, .bool r61.2.2]) rfl) rfl ?_
                   refine rs (v := .int .i64 r61.1) (ext (v := .int .i64 r61.1) rfl rfl) rfl ?_
                   refine rs (v := .int .i64 r61.2.1) (ext (v := .int .i64 r61.2.1) rfl rfl) rfl ?_
                   refine rs (v := .bool r61.2.2) (ext (v := .bool r61.2.2) rfl rfl) rfl ?_
                   refine rs (v := .int .i64 r61.1) (av (v := .int .i64 r61.1) rfl) rfl ?_
                   refine rs (v := .int .i64 r61.2.1) (av (v := .int .i64 r61.2.1) rfl) rfl ?_
                   refine rs (v := .bool r61.2.2) (av (v := .bool r61.2.2) rfl) rfl ?_
                   refine rn ?_
                   refine qn ?_
                   refine Wseq ?_
                   refine Wseq ?_
                   refine Wreg ?_
                   refine rs (v := .int .i64 r47.1) (mv (v := .int .i64 r47.1) rfl) rfl ?_
                   refine rs (v := .int .i64 r61.1) (mv (v := .int .i64 r61.1) rfl) rfl ?_
                   refine rs (v := .bool (decide (r47.1 ≠ r61.1))) (ned rfl rfl) rfl ?_
                   refine rs (v := .bool (decide (r47.1 ≠ r61.1))) (mv (v := .bool (decide (r47.1 ≠ r61.1))) rfl) rfl ?_
                   cases hb63 : (decide (r47.1 ≠ r61.1))
                   · replace hp := gneg hp (of_decide_eq_false hb63)
                     refine rs (v := .int .i64 r47.2.1) (mv (v := .int .i64 r47.2.1) rfl) rfl ?_
                     refine rs (v := .int .i64 r61.2.1) (mv (v := .int .i64 r61.2.1) rfl) rfl ?_
                     refine rs (v := .bool (decide (r47.2.1 ≠ r61.2.1))) (ned rfl rfl) rfl ?_
                     refine rs (v := .bool (decide (r47.2.1 ≠ r61.2.1))) (pkf (v := .bool (decide (r47.2.1 ≠ r61.2.1))) rfl rfl) rfl ?_
                     refine rs (v := .bool (decide (r47.2.1 ≠ r61.2.1))) (mv (v := .bool (decide (r47.2.1 ≠ r61.2.1))) rfl) rfl ?_
                     cases hb64 : (decide (r47.2.1 ≠ r61.2.1))
                     · replace hp := gneg hp (of_decide_eq_false hb64)
                       refine rs (v := .bool r47.2.2) (mv (v := .bool r47.2.2) rfl) rfl ?_
                       refine rs (v := .bool r61.2.2) (mv (v := .bool r61.2.2) rfl) rfl ?_
                       refine rs (v := .bool (!(r47.2.2 == r61.2.2))) (neb Try.underlying4 rfl rfl) rfl ?_
                       refine rs (v := .bool (!(r47.2.2 == r61.2.2))) (pkf (v := .bool (!(r47.2.2 == r61.2.2))) rfl rfl) rfl ?_
                       refine rn ?_
                       refine qn ?_
                       cases hb65 : (!(r47.2.2 == r61.2.2))
                       · replace hp := gneg hp (by rw [hb65]; exact Bool.false_ne_true)
                         refine Wcf rfl ?_
                         refine Wskip ?_
                         refine qn ?_
                         refine Wseq ?_
                         refine Wreg ?_
                         refine rs (v := .pointer (some ⟨b9, 0, none⟩)) (mv (v := .pointer (some ⟨b9, 0, none⟩)) rfl) rfl ?_
                         refine rs (v := .int .i64 e46) (mv (v := .int .i64 e46) rfl) rfl ?_
                         refine rs (v := .int .i64 r47.1) (mv (v := .int .i64 r47.1) rfl) rfl ?_
                         refine rs (v := .int .i64 j27) (mv (v := .int .i64 j27) rfl) rfl ?_
                         replace hp := bind_some hp; obtain ⟨r66, hr66, hp⟩ := hp
                         replace hc := hc.pull 3 rfl rfl
                         refine rc (cl Try.call10 rfl rfl) rfl ?_
                         refine ledger_Ledger_Answer_any hc hr66 ?_
                         clear hc; intro w67 hc
                         refine rs (v := .tuple #[.agg #[.int .i64 r66.1.Request, .int .i64 r66.1.Place, .int .i64 r66.1.Token], .bool r66.2.1, .int .i64 r66.2.2.1]) (mv (v := .tuple #[.agg #[.int .i64 r66.1.Request, .int .i64 r66.1.Place, .int .i64 r66.1.Token], .bool r66.2.1, .int .i64 r66.2.2.1]) rfl) rfl ?_
                         refine rs (v := .agg #[.int .i64 r66.1.Request, .int .i64 r66.1.Place, .int .i64 r66.1.Token]) (ext (v := .agg #[.int .i64 r66.1.Request, .int .i64 r66.1.Place, .int .i64 r66.1.Token]) rfl rfl) rfl ?_
                         refine rs (v := .bool r66.2.1) (ext (v := .bool r66.2.1) rfl rfl) rfl ?_
                         refine rs (v := .int .i64 r66.2.2.1) (ext (v := .int .i64 r66.2.2.1) rfl rfl) rfl ?_
                         refine rsE (Ctx.allocOp (cs := [.int .i64 0, .int .i64 0, .int .i64 0]) hc Try.zeroValue35 rfl) rfl ?_
                         clear hc; rintro _ w70 ⟨b68, rfl, hc⟩
                         refine ruE (A := fun w' => Ctx w' (B b68 [.int .i64 r66.1.Request, .int .i64 r66.1.Place, .int .i64 r66.1.Token] 35 :: S_ledger_Ledger.hp b9 r66.2.2.2 :: S_ledger_Ledger.hp b55 y49 :: BigH (vPt S_ledger_Ledger.hp).r hs50 j26 e46 :: Own (pAny 1) 25 (.slice (some ⟨b58, o59, none⟩) j12.length q15) hs50 :: P0 :: P1 :: Own (pInt .i64) 3 (.slice a17 j16.length q19) j16 :: Fr)) (Ctx.putAgg hc (k := 0) rfl rfl (vs := [.int .i64 r66.1.Request, .int .i64 r66.1.Place, .int .i64 r66.1.Token]) rfl rfl rfl Try.sizeOf35 rfl rfl rfl) rfl ?_
                         clear hc; rintro w71 hc
                         refine rs (v := .bool r66.2.1) (av (v := .bool r66.2.1) rfl) rfl ?_
                         refine rs (v := .int .i64 r66.2.2.1) (av (v := .int .i64 r66.2.2.1) rfl) rfl ?_
                         refine rn ?_
                         refine qn ?_
                         refine Wseq ?_
                         refine Wreg ?_
                         refine rs (v := .slice (some ⟨b58, o59, none⟩) j12.length q15) (mv (v := .slice (some ⟨b58, o59, none⟩) j12.length q15) rfl) rfl ?_
                         refine rs (v := .int .i64 e46) (mv (v := .int .i64 e46) rfl) rfl ?_
                         have hln := Ctx.rdLen hc (k := 4) rfl rfl reads_own
                         obtain ⟨b74, o75, u76, hi72, hi73⟩ := Ctx.rdAt hc (k := 4) rfl rfl reads_own ha51
                         clear hln
                         clear u76
                         refine rs (v := .pointer (some ⟨b58, o59 + (e46).toNat * 1, none⟩)) (ixx rfl rfl Try.underlying27 Try.sizeOf25 hi72 hi73 rfl) rfl ?_
                         refine rs (v := .pointer (some ⟨b55, 0, none⟩)) (ld rfl Try.isAgg25 (Ctx.rdAny hc (k := 4) rfl rfl ha51 0 _ rfl)) rfl ?_
                         refine rs (v := .int .i64 e46) (mv (v := .int .i64 e46) rfl) rfl ?_
                         refine rs (v := .int .i64 r47.1) (mv (v := .int .i64 r47.1) rfl) rfl ?_
                         refine rs (v := .int .i64 j27) (mv (v := .int .i64 j27) rfl) rfl ?_
                         replace hp := bind_some hp; obtain ⟨r77, hr77, hp⟩ := hp
                         replace hc := hc.pull 2 rfl rfl
                         refine rc (cl Try.call10 rfl rfl) rfl ?_
                         refine ledger_Ledger_Answer_any hc hr77 ?_
                         clear hc; intro w78 hc
                         refine rs (v := .tuple #[.agg #[.int .i64 r77.1.Request, .int .i64 r77.1.Place, .int .i64 r77.1.Token], .bool r77.2.1, .int .i64 r77.2.2.1]) (mv (v := .tuple #[.agg #[.int .i64 r77.1.Request, .int .i64 r77.1.Place, .int .i64 r77.1.Token], .bool r77.2.1, .int .i64 r77.2.2.1]) rfl) rfl ?_
                         refine rs (v := .agg #[.int .i64 r77.1.Request, .int .i64 r77.1.Place, .int .i64 r77.1.Token]) (ext (v := .agg #[.int .i64 r77.1.Request, .int .i64 r77.1.Place, .int .i64 r77.1.Token]) rfl rfl) rfl ?_
                         refine rs (v := .bool r77.2.1) (ext (v := .bool r77.2.1) rfl rfl) rfl ?_
                         refine rs (v := .int .i64 r77.2.2.1) (ext (v := .int .i64 r77.2.2.1) rfl rfl) rfl ?_
                         refine rsE (Ctx.allocOp (cs := [.int .i64 0, .int .i64 0, .int .i64 0]) hc Try.zeroValue35 rfl) rfl ?_
                         clear hc; rintro _ w81 ⟨b79, rfl, hc⟩
                         refine ruE (A := fun w' => Ctx w' (B b79 [.int .i64 r77.1.Request, .int .i64 r77.1.Place, .int .i64 r77.1.Token] 35 :: S_ledger_Ledger.hp b55 r77.2.2.2 :: B b68 [.int .i64 r66.1.Request, .int .i64 r66.1.Place, .int .i64 r66.1.Token] 35 :: S_ledger_Ledger.hp b9 r66.2.2.2 :: BigH (vPt S_ledger_Ledger.hp).r hs50 j26 e46 :: Own (pAny 1) 25 (.slice (some ⟨b58, o59, none⟩) j12.length q15) hs50 :: P0 :: P1 :: Own (pInt .i64) 3 (.slice a17 j16.length q19) j16 :: Fr)) (Ctx.putAgg hc (k := 0) rfl rfl (vs := [.int .i64 r77.1.Request, .int .i64 r77.1.Place, .int .i64 r77.1.Token]) rfl rfl rfl Try.sizeOf35 rfl rfl rfl) rfl ?_
                         clear hc; rintro w82 hc
                         refine rs (v := .bool r77.2.1) (av (v := .bool r77.2.1) rfl) rfl ?_
                         refine rs (v := .int .i64 r77.2.2.1) (av (v := .int .i64 r77.2.2.1) rfl) rfl ?_
                         refine rn ?_
                         refine qn ?_
                         refine Wseq ?_
                         refine Wseq ?_
                         replace hc := hc.drew
                         have hF : ∀ j, free [0, 0, 3, 7, 15, 15, 63, 127, 255, 511, 511, 2047, 4095, 8191, 16383, 16383, 65535, 16383, 16383, 409599, 933887, 16383, 4194303, 8388607, 16777215, 33554431] 0 j = true → (fun j w' => (j = 20 → w'.cell? ⟨b58, o59 + (e46).toNat * 1 + 0, none⟩ = some (.pointer (some ⟨b55, 0, none⟩))) ∧ True) j (World.drew w82) := fun j hj => ⟨fun _ => Ctx.rdAny hc (k := 5) rfl rfl ha51 0 _ rfl, trivial⟩
                         refine Wdrw (fun j w' => (j = 20 → w'.cell? ⟨b58, o59 + (e46).toNat * 1 + 0, none⟩ = some (.pointer (some ⟨b55, 0, none⟩))) ∧ True) [0, 0, 3, 7, 15, 15, 63, 127, 255, 511, 511, 2047, 4095, 8191, 16383, 16383, 65535, 16383, 16383, 409599, 933887, 16383, 4194303, 8388607, 16777215, 33554431] 0 3 rfl (by kernel_rfl) (hF) ?_
                         generalize hw : World.drew w82 = w83 at *
                         clear hw
                         refine dx (v := .agg #[.int .i64 r66.1.Request, .int .i64 r66.1.Place, .int .i64 r66.1.Token]) rfl (ldg rfl Try.isAgg35 Try.sizeOf35 rfl (Ctx.cells hc (k := 2) rfl rfl 0 (vs := [.int .i64 r66.1.Request, .int .i64 r66.1.Place, .int .i64 r66.1.Token]) rfl)) rfl rfl ?_
                         refine dx (v := .agg #[.int .i64 r77.1.Request, .int .i64 r77.1.Place, .int .i64 r77.1.Token]) rfl (ldg rfl Try.isAgg35 Try.sizeOf35 rfl (Ctx.cells hc (k := 0) rfl rfl 0 (vs := [.int .i64 r77.1.Request, .int .i64 r77.1.Place, .int .i64 r77.1.Token]) rfl)) rfl rfl ?_
                         refine ds (v := .bool (!decide ((⟨r66.1.Request, r66.1.Place, r66.1.Token⟩ : S_api_Say) = (⟨r77.1.Request, r77.1.Place, r77.1.Token⟩ : S_api_Say)))) rfl (fun w' hF => nes rfl rfl (by kernel_rfl) (fun w => S_api_Say.eql w (⟨r66.1.Request, r66.1.Place, r66.1.Token⟩ : S_api_Say) (⟨r77.1.Request, r77.1.Place, r77.1.Token⟩ : S_api_Say))) rfl ?_
                         refine ds (v := .bool (!decide ((⟨r66.1.Request, r66.1.Place, r66.1.Token⟩ : S_api_Say) = (⟨r77.1.Request, r77.1.Place, r77.1.Token⟩ : S_api_Say)))) rfl (fun w' hF => mv (v := .bool (!decide ((⟨r66.1.Request, r66.1.Place, r66.1.Token⟩ : S_api_Say) = (⟨r77.1.Request, r77.1.Place, r77.1.Token⟩ : S_api_Say)))) rfl) rfl ?_
                         cases hb84 : (!decide ((⟨r66.1.Request, r66.1.Place, r66.1.Token⟩ : S_api_Say) = (⟨r77.1.Request, r77.1.Place, r77.1.Token⟩ : S_api_Say)))
                         · replace hp := gneg hp (by rw [hb84]; exact Bool.false_ne_true)
                           refine ds (v := .bool r66.2.1) rfl (fun w' hF => mv (v := .bool r66.2.1) rfl) rfl ?_
                           refine ds (v := .bool r77.2.1) rfl (fun w' hF => mv (v := .bool r77.2.1) rfl) rfl ?_
                           refine ds (v := .bool (!(r66.2.1 == r77.2.1))) rfl (fun w' hF => neb Try.underlying4 rfl rfl) rfl ?_
                           refine ds (v := .bool (!(r66.2.1 == r77.2.1))) rfl (fun w' hF => pkf (v := .bool (!(r66.2.1 == r77.2.1))) rfl rfl) rfl ?_
                           refine ds (v := .bool (!(r66.2.1 == r77.2.1))) rfl (fun w' hF => mv (v := .bool (!(r66.2.1 == r77.2.1))) rfl) rfl ?_
                           cases hb85 : (!(r66.2.1 == r77.2.1))
                           · replace hp := gneg hp (by rw [hb85]; exact Bool.false_ne_true)
                             refine ds (v := .int .i64 r66.2.2.1) rfl (fun w' hF => mv (v := .int .i64 r66.2.2.1) rfl) rfl ?_
                             refine ds (v := .int .i64 r77.2.2.1) rfl (fun w' hF => mv (v := .int .i64 r77.2.2.1) rfl) rfl ?_
                             refine ds (v := .bool (decide (r66.2.2.1 ≠ r77.2.2.1))) rfl (fun w' hF => ned rfl rfl) rfl ?_
                             refine ds (v := .bool (decide (r66.2.2.1 ≠ r77.2.2.1))) rfl (fun w' hF => pkf (v := .bool (decide (r66.2.2.1 ≠ r77.2.2.1))) rfl rfl) rfl ?_
                             refine ds (v := .bool (decide (r66.2.2.1 ≠ r77.2.2.1))) rfl (fun w' hF => mv (v := .bool (decide (r66.2.2.1 ≠ r77.2.2.1))) rfl) rfl ?_
                             cases hb86 : (decide (r66.2.2.1 ≠ r77.2.2.1))
                             · replace hp := gneg hp (of_decide_eq_false hb86)
                               refine ds (v := .pointer (some ⟨b9, 0, none⟩)) rfl (fun w' hF => mv (v := .pointer (some ⟨b9, 0, none⟩)) rfl) rfl ?_
                               refine ds (v := .int .i64 e46) rfl (fun w' hF => mv (v := .int .i64 e46) rfl) rfl ?_
                               replace hp := bind_some hp; obtain ⟨r87, hr87, hp⟩ := hp
                               replace hc := hc.pull 3 rfl rfl
                               refine dc (cl Try.call12 rfl rfl) rfl rfl ?_
                               refine ledger_Ledger_Log_any hc hr87 ?_
                               clear hc; intro a88 n89 q90 w91 hc
                               obtain ⟨u92, _⟩ := Ctx.rdLen hc (k := 0) rfl rfl reads_own; subst u92
                               refine ⟨fun j hj hb => ⟨fun _ => Ctx.rdAny hc (k := 6) rfl rfl ha51 0 _ rfl, trivial⟩, ?_⟩
                               refine ds (v := .slice (some ⟨b58, o59, none⟩) j12.length q15) rfl (fun w' hF => mv (v := .slice (some ⟨b58, o59, none⟩) j12.length q15) rfl) rfl ?_
                               refine ds (v := .int .i64 e46) rfl (fun w' hF => mv (v := .int .i64 e46) rfl) rfl ?_
                               have hln := Ctx.rdLen hc (k := 6) rfl rfl reads_own
                               obtain ⟨b95, o96, u97, hi93, hi94⟩ := Ctx.rdAt hc (k := 6) rfl rfl reads_own ha51
                               clear hln
                               clear u97
                               refine ds (v := .pointer (some ⟨b58, o59 + (e46).toNat * 1, none⟩)) rfl (fun w' hF => ixx rfl rfl Try.underlying27 Try.sizeOf25 hi93 hi94 rfl) rfl ?_
                               refine ds (v := .pointer (some ⟨b55, 0, none⟩)) rfl (fun w' hF => ld rfl Try.isAgg25 ((hF.1 rfl))) rfl ?_
                               refine ds (v := .int .i64 e46) rfl (fun w' hF => mv (v := .int .i64 e46) rfl) rfl ?_
                               replace hp := bind_some hp; obtain ⟨r98, hr98, hp⟩ := hp
                               replace hc := hc.pull 3 rfl rfl
                               refine dc (cl Try.call12 rfl rfl) rfl rfl ?_
                               refine ledger_Ledger_Log_any hc hr98 ?_
                               clear hc; intro a99 n100 q101 w102 hc
                               obtain ⟨u103, _⟩ := Ctx.rdLen hc (k := 0) rfl rfl reads_own; subst u103
                               refine ⟨fun j hj hb => ⟨fun e => (by subst e; exact absurd hj (by decide)), trivial⟩, ?_⟩
                               replace hp := bind_some hp; obtain ⟨r104, hr104, hp⟩ := hp
                               replace hc := hc.pull 2 rfl rfl
                               refine dc (cl Try.call11 rfl rfl) rfl rfl ?_
                               refine ref09_Ints_any reads_own reads_own hc hr104 ?_
                               clear hc; intro w105 hc
                               refine ⟨fun j hj hb => ⟨fun e => (by subst e; exact absurd hj (by decide)), trivial⟩, ?_⟩
                               cases hb106 : r104
                               · replace hp := gneg hp (by rw [hb106]; exact Bool.false_ne_true)
                                 subst hb106
                                 refine ds (v := .bool true) rfl (fun w' hF => ntf rfl) rfl ?_
                                 refine ds (v := .bool true) rfl (fun w' hF => pkf (v := .bool true) rfl rfl) rfl ?_
                                 refine dn ?_
                                 refine qn ?_
                                 refine Wct rfl ?_
                                 refine Wseq ?_
                                 refine Wreg ?_
                                 refine rs (v := .bool false) (av (v := .bool false) rfl) rfl ?_
                                 refine rn ?_
                                 refine qn ?_
                                 refine Wret ?_
                                 refine qr ?_
                                 refine br ?_
                                 refine qr ?_
                                 refine qr ?_
                                 refine br ?_
                                 refine qr ?_
                                 replace hc := hc.rem 10 rfl rfl
                                 replace hc := hc.rem 7 rfl rfl
                                 replace hc := hc.rem 6 rfl rfl
                                 replace hc := hc.rem 5 rfl rfl
                                 replace hc := hc.rem 4 rfl rfl
                                 replace hc := hc.rem 3 rfl rfl
                                 replace hc := hc.rem 2 rfl rfl
                                 replace hc := hc.rem 1 rfl rfl
                                 replace hc := hc.rem 0 rfl rfl
                                 injection hp with hp; subst hp
                                 refine f1 (v := .bool false) Try.results3 Try.ntmps3 rfl ?_
                                 exact ⟨_, rfl, k _ hc⟩
                               · replace hp := gpos hp hb106
                                 subst hb106
                                 refine ds (v := .bool false) rfl (fun w' hF => ntt rfl) rfl ?_
                                 refine ds (v := .bool false) rfl (fun w' hF => pkf (v := .bool false) rfl rfl) rfl ?_
                                 refine dn ?_
                                 refine qn ?_
                                 refine Wcf rfl ?_
                                 refine Wskip ?_
                                 refine qn ?_
                                 refine Wseq ?_
                                 refine Wreg ?_
                                 refine rs (v := .slice (some ⟨b38, o39, none⟩) x1.length qx1) (mv (v := .slice (some ⟨b38, o39, none⟩) x1.length qx1) rfl) rfl ?_
                                 refine rs (v := .int .i64 j27) (mv (v := .int .i64 j27) rfl) rfl ?_
                                 replace hp := bind_some hp; obtain ⟨y107, hy107, hp⟩ := hp
                                 obtain ⟨b110, o111, u112, hi108, hi109⟩ := Ctx.rdAt hc (k := 9) rfl rfl hrd1 hy107
                                 clear u112
                                 refine rs (v := .pointer (some ⟨b38, o39 + (j27).toNat * 1, none⟩)) (ixx rfl rfl Try.underlying23 Try.sizeOf3 hi108 hi109 rfl) rfl ?_
                                 replace hc := Ctx.rdCell hc (k := 9) rfl rfl hrd1 hy107; obtain ⟨cs113, hc, hcell114⟩ := hc
                                 replace hc := Ctx.holdC hc; obtain ⟨u115, hc⟩ := hc; subst u115
                                 refine rs (v := .int .i64 y107) (ld rfl Try.isAgg3 (hcell114 0 _ rfl)) rfl ?_
                                 refine rs (v := .int .i64 (Int.tmod y107 5)) (rm rfl rfl (by decide)) rfl ?_
                                 refine rs (v := .bool (decide ((Int.tmod y107 5) = 0))) (eqd rfl rfl) rfl ?_
                                 refine rn ?_
                                 refine qn ?_
                                 cases hb116 : (decide ((Int.tmod y107 5) = 0))
                                 · replace hp := gneg hp (of_decide_eq_false hb116)
                                   refine Wcf rfl ?_
                                   refine Wskip ?_
                                   refine bn ?_
                                   refine qn ?_
                                   replace hc := hc.pull 2 rfl rfl
                                   replace hc : Ctx w105 ((vPt S_ledger_Ledger.hp).r [.pointer (some ⟨b55, 0, none⟩)] r77.2.2.2 :: Own (pInt .i64) 3 (.slice a88 r87.length q90) r87 :: Own (pInt .i64) 3 (.slice a99 r98.length q101) r98 :: S_ledger_Ledger.hp b9 r66.2.2.2 :: B b79 [.int .i64 r77.1.Request, .int .i64 r77.1.Place, .int .i64 r77.1.Token] 35 :: B b68 [.int .i64 r66.1.Request, .int .i64 r66.1.Place, .int .i64 r66.1.Token] 35 :: BigH (vPt S_ledger_Ledger.hp).r hs50 j26 e46 :: Own (pAny 1) 25 (.slice (some ⟨b58, o59, none⟩) j12.length q15) hs50 :: P0 :: P1 :: Own (pInt .i64) 3 (.slice a17 j16.length q19) j16 :: Fr) := Ctx.exB _ _ (Ctx.sepB (Ctx.puB rfl hc))
                                   replace hc := hc.pull 7 rfl rfl
                                   replace hc := hc.pull 7 rfl rfl
                                   replace hc := hc.pull 2 rfl rfl
                                   replace hc := Ctx.bigB1 hc ha51 hy49
                                   replace hc : Ctx w105 (OwnV (vPt S_ledger_Ledger.hp) 25 (.slice (some ⟨b58, o59, none⟩) j12.length q15) (j26.set (e46).toNat r77.2.2.2) :: Own (pInt .i64) 3 (.slice a88 r87.length q90) r87 :: Own (pInt .i64) 3 (.slice a99 r98.length q101) r98 :: S_ledger_Ledger.hp b9 r66.2.2.2 :: B b79 [.int .i64 r77.1.Request, .int .i64 r77.1.Place, .int .i64 r77.1.Token] 35 :: B b68 [.int .i64 r66.1.Request, .int .i64 r66.1.Place, .int .i64 r66.1.Token] 35 :: P0 :: P1 :: Own (pInt .i64) 3 (.slice a17 j16.length q19) j16 :: Fr) := Ctx.ownVB hc.swap
                                   replace hc := hc.rem 5 rfl rfl
                                   replace hc := hc.rem 4 rfl rfl
                                   replace hc := hc.rem 2 rfl rfl
                                   replace hc := hc.rem 1 rfl rfl
                                   replace hc := hc.pull 4 rfl rfl
                                   replace hc := hc.pull 1 rfl rfl
                                   replace hc := hc.pull 4 rfl rfl
                                   replace hc := hc.pull 4 rfl rfl
                                   replace hc := hc.pull 4 rfl rfl
                                   exact ⟨⟨r66.2.2.2, (j26.set (e46).toNat r77.2.2.2), rfl, hp, hc⟩, (kl rfl kb)⟩
                                 · replace hp := gpos hp (of_decide_eq_true hb116)
                                   refine Wct rfl ?_
                                   refine Wseq ?_
                                   refine Wreg ?_
                                   refine rs (v := .pointer (some ⟨b9, 0, none⟩)) (mv (v := .pointer (some ⟨b9, 0, none⟩)) rfl) rfl ?_
                                   refine rs (v := .int .i64 e46) (mv (v := .int .i64 e46) rfl) rfl ?_
                                   replace hc : Ctx w105 (Hold (pInt .i64) [.int .i64 e46] e46 :: Own (pInt .i64) 3 (.slice a88 r87.length q90) r87 :: Own (pInt .i64) 3 (.slice a99 r98.length q101) r98 :: S_ledger_Ledger.hp b55 r77.2.2.2 :: S_ledger_Ledger.hp b9 r66.2.2.2 :: B b79 [.int .i64 r77.1.Request, .int .i64 r77.1.Place, .int .i64 r77.1.Token] 35 :: B b68 [.int .i64 r66.1.Request, .int .i64 r66.1.Place, .int .i64 r66.1.Token] 35 :: BigH (vPt S_ledger_Ledger.hp).r hs50 j26 e46 :: Own (pAny 1) 25 (.slice (some ⟨b58, o59, none⟩) j12.length q15) hs50 :: P0 :: P1 :: Own (pInt .i64) 3 (.slice a17 j16.length q19) j16 :: Fr) := hc.add _ fun _ _ _ => ⟨rfl, rfl⟩
                                   refine rsE (Ctx.builtOp (css := [[.int .i64 e46]]) (xs := ([e46] : List Int)) (E := (pInt .i64)) hc Try.underlying23 Try.sizeOf3 Try.zeroValue3 rfl rfl rfl rfl rfl rfl rfl rfl) rfl ?_
                                   clear hc; rintro _ w118 ⟨a117, rfl, hc⟩
                                   replace hp := bind_some hp; obtain ⟨r119, hr119, hp⟩ := hp
                                   replace hc := hc.pull 4 rfl rfl
                                   refine rc (cl Try.call13 rfl rfl) rfl ?_
                                   refine ledger_Ledger_Rewind_any reads_own hc hr119 ?_
                                   clear hc; intro w120 hc
                                   refine rn ?_
                                   refine qn ?_
                                   refine Wreg ?_
                                   refine rs (v := .slice (some ⟨b58, o59, none⟩) j12.length q15) (mv (v := .slice (some ⟨b58, o59, none⟩) j12.length q15) rfl) rfl ?_
                                   refine rs (v := .int .i64 e46) (mv (v := .int .i64 e46) rfl) rfl ?_
                                   have hln := Ctx.rdLen hc (k := 8) rfl rfl reads_own
                                   obtain ⟨b123, o124, u125, hi121, hi122⟩ := Ctx.rdAt hc (k := 8) rfl rfl reads_own ha51
                                   clear hln
                                   clear u125
                                   refine rs (v := .pointer (some ⟨b58, o59 + (e46).toNat * 1, none⟩)) (ixx rfl rfl Try.underlying27 Try.sizeOf25 hi121 hi122 rfl) rfl ?_
                                   refine rs (v := .pointer (some ⟨b55, 0, none⟩)) (ld rfl Try.isAgg25 (Ctx.rdAny hc (k := 8) rfl rfl ha51 0 _ rfl)) rfl ?_
                                   replace hc := hc.nilRo (pInt .i64)
                                   replace hc := hc.dup (k := 0) rfl rfl
                                   replace hp := bind_some hp; obtain ⟨r126, hr126, hp⟩ := hp
                                   replace hc := hc.pull 6 rfl rfl
                                   refine rc (cl Try.call13 rfl rfl) rfl ?_
                                   refine ledger_Ledger_Rewind_any reads_ro hc hr126 ?_
                                   clear hc; intro w127 hc
                                   refine rn ?_
                                   refine bn ?_
                                   refine qn ?_
                                   replace hc : Ctx w127 ((vPt S_ledger_Ledger.hp).r [.pointer (some ⟨b55, 0, none⟩)] r126 :: Hold (pRo (pInt .i64)) [.slice none 0 0] ([]) :: Hold (pRo (pInt .i64)) [.slice none 0 0] ([]) :: S_ledger_Ledger.hp b9 r119 :: Own (pInt .i64) 3 (.slice a117 1 1) ([e46]) :: Own (pInt .i64) 3 (.slice a88 r87.length q90) r87 :: Own (pInt .i64) 3 (.slice a99 r98.length q101) r98 :: B b79 [.int .i64 r77.1.Request, .int .i64 r77.1.Place, .int .i64 r77.1.Token] 35 :: B b68 [.int .i64 r66.1.Request, .int .i64 r66.1.Place, .int .i64 r66.1.Token] 35 :: BigH (vPt S_ledger_Ledger.hp).r hs50 j26 e46 :: Own (pAny 1) 25 (.slice (some ⟨b58, o59, none⟩) j12.length q15) hs50 :: P0 :: P1 :: Own (pInt .i64) 3 (.slice a17 j16.length q19) j16 :: Fr) := Ctx.exB _ _ (Ctx.sepB (Ctx.puB rfl hc))
                                   replace hc := hc.pull 10 rfl rfl
                                   replace hc := hc.pull 10 rfl rfl
                                   replace hc := hc.pull 2 rfl rfl
                                   replace hc := Ctx.bigB1 hc ha51 hy49
                                   replace hc : Ctx w127 (OwnV (vPt S_ledger_Ledger.hp) 25 (.slice (some ⟨b58, o59, none⟩) j12.length q15) (j26.set (e46).toNat r126) :: Hold (pRo (pInt .i64)) [.slice none 0 0] ([]) :: Hold (pRo (pInt .i64)) [.slice none 0 0] ([]) :: S_ledger_Ledger.hp b9 r119 :: Own (pInt .i64) 3 (.slice a117 1 1) ([e46]) :: Own (pInt .i64) 3 (.slice a88 r87.length q90) r87 :: Own (pInt .i64) 3 (.slice a99 r98.length q101) r98 :: B b79 [.int .i64 r77.1.Request, .int .i64 r77.1.Place, .int .i64 r77.1.Token] 35 :: B b68 [.int .i64 r66.1.Request, .int .i64 r66.1.Place, .int .i64 r66.1.Token] 35 :: P0 :: P1 :: Own (pInt .i64) 3 (.slice a17 j16.length q19) j16 :: Fr) := Ctx.ownVB hc.swap
                                   replace hc := hc.rem 8 rfl rfl
                                   replace hc := hc.rem 7 rfl rfl
                                   replace hc := hc.rem 6 rfl rfl
                                   replace hc := hc.rem 5 rfl rfl
                                   replace hc := hc.rem 4 rfl rfl
                                   replace hc := hc.rem 2 rfl rfl
                                   replace hc := hc.rem 1 rfl rfl
                                   replace hc := hc.pull 4 rfl rfl
                                   replace hc := hc.pull 1 rfl rfl
                                   replace hc := hc.pull 4 rfl rfl
                                   replace hc := hc.pull 4 rfl rfl
                                   replace hc := hc.pull 4 rfl rfl
                                   exact ⟨⟨r119, (j26.set (e46).toNat r126), rfl, hp, hc⟩, (kl rfl kb)⟩
                             · replace hp := gpos hp (of_decide_eq_true hb86)
                               refine d0 rfl rfl ?_
                               refine d0 rfl rfl ?_
                               refine d0 rfl rfl ?_
                               refine d0 rfl rfl ?_
                               refine d0 rfl rfl ?_
                               refine d0 rfl rfl ?_
                               refine d0 rfl rfl ?_
                               refine d0 rfl rfl ?_
                               refine d0 rfl rfl ?_
                               refine d0 rfl rfl ?_
                               refine d0 rfl rfl ?_
                               refine ds (v := .bool true) rfl (fun w' hF => pkt (v := .bool true) rfl rfl) rfl ?_
                               refine dn ?_
                               refine qn ?_
                               refine Wct rfl ?_
                               refine Wseq ?_
                               refine Wreg ?_
                               refine rs (v := .bool false) (av (v := .bool false) rfl) rfl ?_
                               refine rn ?_
                               refine qn ?_
                               refine Wret ?_
                               refine qr ?_
                               refine br ?_
                               refine qr ?_
                               refine qr ?_
                               refine br ?_
                               refine qr ?_
                               replace hc := hc.rem 8 rfl rfl
                               replace hc := hc.rem 5 rfl rfl
                               replace hc := hc.rem 4 rfl rfl
                               replace hc := hc.rem 3 rfl rfl
                               replace hc := hc.rem 2 rfl rfl
                               replace hc := hc.rem 1 rfl rfl
                               replace hc := hc.rem 0 rfl rfl
                               injection hp with hp; subst hp
                               refine f1 (v := .bool false) Try.results3 Try.ntmps3 rfl ?_
                               exact ⟨_, rfl, k _ hc⟩
                           · replace hp := gpos hp hb85
                             refine d0 rfl rfl ?_
                             refine d0 rfl rfl ?_
                             refine d0 rfl rfl ?_
                             refine ds (v := .bool true) rfl (fun w' hF => pkt (v := .bool true) rfl rfl) rfl ?_
                             refine ds (v := .bool true) rfl (fun w' hF => mv (v := .bool true) rfl) rfl ?_
                             refine d0 rfl rfl ?_
                             refine d0 rfl rfl ?_
                             refine d0 rfl rfl ?_
                             refine d0 rfl rfl ?_
                             refine d0 rfl rfl ?_
                             refine d0 rfl rfl ?_
                             refine d0 rfl rfl ?_
                             refine d0 rfl rfl ?_
                             refine d0 rfl rfl ?_
                             refine d0 rfl rfl ?_
                             refine d0 rfl rfl ?_
                             refine ds (v := .bool true) rfl (fun w' hF => pkt (v := .bool true) rfl rfl) rfl ?_
                             refine dn ?_
                             refine qn ?_
                             refine Wct rfl ?_
                             refine Wseq ?_
                             refine Wreg ?_
                             refine rs (v := .bool false) (av (v := .bool false) rfl) rfl ?_
                             refine rn ?_
                             refine qn ?_
                             refine Wret ?_
                             refine qr ?_
                             refine br ?_
                             refine qr ?_
                             refine qr ?_
                             refine br ?_
                             refine qr ?_
                             replace hc := hc.rem 8 rfl rfl
                             replace hc := hc.rem 5 rfl rfl
                             replace hc := hc.rem 4 rfl rfl
                             replace hc := hc.rem 3 rfl rfl
                             replace hc := hc.rem 2 rfl rfl
                             replace hc := hc.rem 1 rfl rfl
                             replace hc := hc.rem 0 rfl rfl
                             injection hp with hp; subst hp
                             refine f1 (v := .bool false) Try.results3 Try.ntmps3 rfl ?_
                             exact ⟨_, rfl, k _ hc⟩
                         · replace hp := gpos hp hb84
                           refine d0 rfl rfl ?_
                           refine d0 rfl rfl ?_
                           refine d0 rfl rfl ?_
                           refine ds (v := .bool true) rfl (fun w' hF => pkt (v := .bool true) rfl rfl) rfl ?_
                           refine ds (v := .bool true) rfl (fun w' hF => mv (v := .bool true) rfl) rfl ?_
                           refine d0 rfl rfl ?_
                           refine d0 rfl rfl ?_
                           refine d0 rfl rfl ?_
                           refine ds (v := .bool true) rfl (fun w' hF => pkt (v := .bool true) rfl rfl) rfl ?_
                           refine ds (v := .bool true) rfl (fun w' hF => mv (v := .bool true) rfl) rfl ?_
                           refine d0 rfl rfl ?_
                           refine d0 rfl rfl ?_
                           refine d0 rfl rfl ?_
                           refine d0 rfl rfl ?_
                           refine d0 rfl rfl ?_
                           refine d0 rfl rfl ?_
                           refine d0 rfl rfl ?_
                           refine d0 rfl rfl ?_
                           refine d0 rfl rfl ?_
                           refine d0 rfl rfl ?_
                           refine d0 rfl rfl ?_
                           refine ds (v := .bool true) rfl (fun w' hF => pkt (v := .bool true) rfl rfl) rfl ?_
                           refine dn ?_
                           refine qn ?_
                           refine Wct rfl ?_
                           refine Wseq ?_
                           refine Wreg ?_
                           refine rs (v := .bool false) (av (v := .bool false) rfl) rfl ?_
                           refine rn ?_
                           refine qn ?_
                           refine Wret ?_
                           refine qr ?_
                           refine br ?_
                           refine qr ?_
                           refine qr ?_
                           refine br ?_
                           refine qr ?_
                           replace hc := hc.rem 8 rfl rfl
                           replace hc := hc.rem 5 rfl rfl
                           replace hc := hc.rem 4 rfl rfl
                           replace hc := hc.rem 3 rfl rfl
                           replace hc := hc.rem 2 rfl rfl
                           replace hc := hc.rem 1 rfl rfl
                           replace hc := hc.rem 0 rfl rfl
                           injection hp with hp; subst hp
                           refine f1 (v := .bool false) Try.results3 Try.ntmps3 rfl ?_
                           exact ⟨_, rfl, k _ hc⟩
                       · replace hp := gpos hp hb65
                         refine Wct rfl ?_
                         refine Wseq ?_
                         refine Wreg ?_
                         refine rs (v := .bool false) (av (v := .bool false) rfl) rfl ?_
                         refine rn ?_
                         refine qn ?_
                         refine Wret ?_
                         refine qr ?_
                         refine br ?_
                         refine qr ?_
                         refine qr ?_
                         refine br ?_
                         refine qr ?_
                         replace hc := hc.rem 6 rfl rfl
                         replace hc := hc.rem 3 rfl rfl
                         replace hc := hc.rem 2 rfl rfl
                         replace hc := hc.rem 1 rfl rfl
                         replace hc := hc.rem 0 rfl rfl
                         injection hp with hp; subst hp
                         refine f1 (v := .bool false) Try.results3 Try.ntmps3 rfl ?_
                         exact ⟨_, rfl, k _ hc⟩
                     · replace hp := gpos hp (of_decide_eq_true hb64)
                       refine r0 rfl ?_
                       refine r0 rfl ?_
                       refine r0 rfl ?_
                       refine rs (v := .bool true) (pkt (v := .bool true) rfl rfl) rfl ?_
                       refine rn ?_
                       refine qn ?_
                       refine Wct rfl ?_
                       refine Wseq ?_
                       refine Wreg ?_
                       refine rs (v := .bool false) (av (v := .bool false) rfl) rfl ?_
                       refine rn ?_
                       refine qn ?_
                       refine Wret ?_
                       refine qr ?_
                       refine br ?_
                       refine qr ?_
                       refine qr ?_
                       refine br ?_
                       refine qr ?_
                       replace hc := hc.rem 6 rfl rfl
                       replace hc := hc.rem 3 rfl rfl
                       replace hc := hc.rem 2 rfl rfl
                       replace hc := hc.rem 1 rfl rfl
                       replace hc := hc.rem 0 rfl rfl
                       injection hp with hp; subst hp
                       refine f1 (v := .bool false) Try.results3 Try.ntmps3 rfl ?_
                       exact ⟨_, rfl, k _ hc⟩
                   · replace hp := gpos hp (of_decide_eq_true hb63)
                     refine r0 rfl ?_
                     refine r0 rfl ?_
                     refine r0 rfl ?_
                     refine rs (v := .bool true) (pkt (v := .bool true) rfl rfl) rfl ?_
                     refine rs (v := .bool true) (mv (v := .bool true) rfl) rfl ?_
                     refine r0 rfl ?_
                     refine r0 rfl ?_
                     refine r0 rfl ?_
                     refine rs (v := .bool true) (pkt (v := .bool true) rfl rfl) rfl ?_
                     refine rn ?_
                     refine qn ?_
                     refine Wct rfl ?_
                     refine Wseq ?_
                     refine Wreg ?_
                     refine rs (v := .bool false) (av (v := .bool false) rfl) rfl ?_
                     refine rn ?_
                     refine qn ?_
                     refine Wret ?_
                     refine qr ?_
                     refine br ?_
                     refine qr ?_
                     refine qr ?_
                     refine br ?_
                     refine qr ?_
                     replace hc := hc.rem 6 rfl rfl
                     replace hc := hc.rem 3 rfl rfl
                     replace hc := hc.rem 2 rfl rfl
                     replace hc := hc.rem 1 rfl rfl
                     replace hc := hc.rem 0 rfl rfl
                     injection hp with hp; subst hp
                     refine f1 (v := .bool false) Try.results3 Try.ntmps3 rfl ?_
                     exact ⟨_, rfl, k _ hc⟩
                 · clear hp hc; intro vs u w128 hJ
                   obtain ⟨j33, j34, rfl, hp, hc⟩ := hJ
                   unfold law23_LedgerApart.J4 at hp
                   refine Wreg ?_
                   refine rs (v := .int .i64 j27) (mv (v := .int .i64 j27) rfl) rfl ?_
                   refine rs (v := .int .i64 (IntKind.i64.wrap (j27 + 1))) (adw rfl rfl) rfl ?_
                   refine rs (v := .int .i64 (IntKind.i64.wrap (j27 + 1))) (av (v := .int .i64 (IntKind.i64.wrap (j27 + 1))) rfl) rfl ?_
                   refine rn ?_
                   refine qn ?_
                   exact ⟨m2, Nat.lt_succ_self _, ⟨j33, j34, (IntKind.i64.wrap (j27 + 1)), rfl, hp, hc⟩, (kl rfl (km rfl (kl rfl (km rfl (kl rfl k0)))))⟩
         · replace hp := gpos hp (of_decide_eq_true hb24)
           refine Wct rfl ?_
           refine Wskip ?_
           refine qn ?_
           refine Wseq ?_
           refine Wblk ?_
           refine Wseq ?_
           refine Wseq ?_
           refine Wreg ?_
           refine rs (v := .slice ax0 x0.length qx0) (mv (v := .slice ax0 x0.length qx0) rfl) rfl ?_
           refine rs (v := .int .i64 j20) (mv (v := .int .i64 j20) rfl) rfl ?_
           replace hp := bind_some hp; obtain ⟨y129, hy129, hp⟩ := hp
           obtain ⟨b132, o133, u134, hi130, hi131⟩ := Ctx.rdAt hc (k := 1) rfl rfl hrd0 hy129
           subst u134
           refine rs (v := .pointer (some ⟨b132, o133 + (j20).toNat * 3, none⟩)) (ixx rfl rfl Try.underlying22 Try.sizeOf29 hi130 hi131 rfl) rfl ?_
           refine rs (v := .pointer (some ⟨b132, o133 + (j20).toNat * 3 + 2, none⟩)) (fax 2 rfl Try.underlying29 rfl Try.sizeOf23 rfl rfl rfl) rfl ?_
           replace hc := Ctx.rdCell hc (k := 1) rfl rfl hrd0 hy129; obtain ⟨cs135, hc, hcell136⟩ := hc
           replace hc := S_api_Request.op hc; obtain ⟨a138, q139, u137, hc⟩ := hc; subst u137
           refine rs (v := .slice a138 y129.Prompt.length q139) (ld rfl Try.isAgg23 (hcell136 2 _ rfl)) rfl ?_
           refine rs (v := .int .i64 ((y129.Prompt.length : Nat) : Int)) (ln rfl Try.underlying23) rfl ?_
           refine rs (v := .bool (decide (((y129.Prompt.length : Nat) : Int) > 30))) (gt' rfl rfl) rfl ?_
           refine rn ?_
           refine qn ?_
           cases hb140 : (decide (((y129.Prompt.length : Nat) : Int) > 30))
           · replace hp := gneg hp (of_decide_eq_false hb140)
             refine Wcf rfl ?_
             refine Wskip ?_
             refine qn ?_
             refine Wseq ?_
             refine Wreg ?_
             replace hp := bind_some hp; obtain ⟨r141, hr141, hp⟩ := hp
             refine rc (cl Try.call7 rfl rfl) rfl ?_
             refine ledger_New_any hc hr141 ?_
             clear hc; intro b142 w143 hc
             refine rs (v := .pointer (some ⟨b142, 0, none⟩)) (av (v := .pointer (some ⟨b142, 0, none⟩)) rfl) rfl ?_
             refine rn ?_
             refine qn ?_
             refine Wseq ?_
             refine Wseq ?_
             refine Wreg ?_
             refine rs (v := .pointer (some ⟨b142, 0, none⟩)) (mv (v := .pointer (some ⟨b142, 0, none⟩)) rfl) rfl ?_
             refine rs (v := .bool false) (epf Try.underlying25 rfl rfl) rfl ?_
             refine rn ?_
             refine qn ?_
             refine Wcf rfl ?_
             refine Wskip ?_
             refine qn ?_
             refine Wseq ?_
             refine Wreg ?_
             refine rs (v := .slice (some ⟨b132, o133, none⟩) x0.length qx0) (mv (v := .slice (some ⟨b132, o133, none⟩) x0.length qx0) rfl) rfl ?_
             refine rs (v := .int .i64 j20) (mv (v := .int .i64 j20) rfl) rfl ?_
             replace hp := bind_some hp; obtain ⟨y144, hy144, hp⟩ := hp
             obtain ⟨b147, o148, u149, hi145, hi146⟩ := Ctx.rdAt hc (k := 3) rfl rfl hrd0 hy144
             clear u149
             refine rs (v := .pointer (some ⟨b132, o133 + (j20).toNat * 3, none⟩)) (ixx rfl rfl Try.underlying22 Try.sizeOf29 hi145 hi146 rfl) rfl ?_
             replace hc := Ctx.rdCell hc (k := 3) rfl rfl hrd0 hy144; obtain ⟨cs150, hc, hcell151⟩ := hc
             replace hc := S_api_Request.op hc; obtain ⟨a153, q154, u152, hc⟩ := hc; subst u152
             refine rs (v := .agg #[.int .i64 y144.ID, .int .i64 y144.Most, .slice a153 y144.Prompt.length q154]) (ldg rfl Try.isAgg29 Try.sizeOf29 rfl (elCells hcell151 0 (vs := [.int .i64 y144.ID, .int .i64 y144.Most, .slice a153 y144.Prompt.length q154]) rfl)) rfl ?_
             refine rsE (Ctx.allocOp (cs := [.int .i64 0, .int .i64 0, .slice none 0 0]) hc Try.zeroValue29 rfl) rfl ?_
             clear hc; rintro _ w157 ⟨b155, rfl, hc⟩
             refine ruE (A := fun w' => Ctx w' (B b155 [.int .i64 y144.ID, .int .i64 y144.Most, .slice a153 y144.Prompt.length q154] 29 :: Hold (pRo (pInt .i64)) [.slice a153 y144.Prompt.length q154] y144.Prompt :: S_ledger_Ledger.hp b142 r141 :: Hold (pRo (pInt .i64)) [.slice a138 y129.Prompt.length q139] y129.Prompt :: S_ledger_Ledger.hp b9 j11 :: P0 :: P1 :: OwnV (vPt S_ledger_Ledger.hp) 25 (.slice a13 j12.length q15) j12 :: Own (pInt .i64) 3 (.slice a17 j16.length q19) j16 :: Fr)) (Ctx.putAgg hc (k := 0) rfl rfl (vs := [.int .i64 y144.ID, .int .i64 y144.Most, .slice a153 y144.Prompt.length q154]) rfl rfl rfl Try.sizeOf29 rfl rfl rfl) rfl ?_
             clear hc; rintro w158 hc
             refine rn ?_
             refine qn ?_
             refine Wseq ?_
             refine Wreg ?_
             refine rs (v := .int .i64 j20) (mv (v := .int .i64 j20) rfl) rfl ?_
             refine rs (v := .pointer (some ⟨b155, 0, none⟩)) (fax 0 rfl Try.underlying29 rfl Try.sizeOf3 rfl rfl rfl) rfl ?_
             refine ruE (A := fun w' => Ctx w' (B b155 [.int .i64 j20, .int .i64 y144.Most, .slice a153 y144.Prompt.length q154] 29 :: Hold (pRo (pInt .i64)) [.slice a153 y144.Prompt.length q154] y144.Prompt :: S_ledger_Ledger.hp b142 r141 :: Hold (pRo (pInt .i64)) [.slice a138 y129.Prompt.length q139] y129.Prompt :: S_ledger_Ledger.hp b9 j11 :: P0 :: P1 :: OwnV (vPt S_ledger_Ledger.hp) 25 (.slice a13 j12.length q15) j12 :: Own (pInt .i64) 3 (.slice a17 j16.length q19) j16 :: Fr)) (Ctx.putOp hc (k := 0) rfl rfl (v := .int .i64 j20) rfl rfl rfl Try.sizeOf3 rfl rfl rfl) rfl ?_
             clear hc; rintro w159 hc
             refine rn ?_
             refine qn ?_
             refine Wseq ?_
             refine Wseq ?_
             replace hc := hc.drew
             have hF : ∀ j, free [0, 0, 3, 0, 0, 31, 63] 0 j = true → (fun j w' => (j = 4 → ∀ j v, ([.int .i64 j20, .int .i64 y144.Most, .slice a153 y144.Prompt.length q154] : List Value)[j]? = some v → w'.cell? ((⟨b155, 0, none⟩ : Addr).add j) = some v) ∧ True) j (World.drew w159) := fun j hj => ⟨fun _ => Ctx.cells hc (k := 0) rfl rfl 0 (vs := [.int .i64 j20, .int .i64 y144.Most, .slice a153 y144.Prompt.length q154]) rfl, trivial⟩
             refine Wdrw (fun j w' => (j = 4 → ∀ j v, ([.int .i64 j20, .int .i64 y144.Most, .slice a153 y144.Prompt.length q154] : List Value)[j]? = some v → w'.cell? ((⟨b155, 0, none⟩ : Addr).add j) = some v) ∧ True) [0, 0, 3, 0, 0, 31, 63] 0 2 rfl (by kernel_rfl) (hF) ?_
             generalize hw : World.drew w159 = w160 at *
             clear hw
             refine ds (v := .pointer (some ⟨b9, 0, none⟩)) rfl (fun w' hF => mv (v := .pointer (some ⟨b9, 0, none⟩)) rfl) rfl ?_
             refine dx (v := .agg #[.int .i64 j20, .int .i64 y144.Most, .slice a153 y144.Prompt.length q154]) rfl (ldg rfl Try.isAgg29 Try.sizeOf29 rfl (Ctx.cells hc (k := 0) rfl rfl 0 (vs := [.int .i64 j20, .int .i64 y144.Most, .slice a153 y144.Prompt.length q154]) rfl)) rfl rfl ?_
             replace hc := hc.dup (k := 1) rfl rfl
             replace hp := bind_some hp; obtain ⟨r161, hr161, hp⟩ := hp
             replace hc := hc.pull 5 rfl rfl
             refine dc (cl Try.call8 rfl rfl) rfl rfl ?_
             refine ledger_Ledger_Open_any (x1 := (⟨j20, y144.Most, y144.Prompt⟩ : S_api_Request)) hc hr161 ?_
             clear hc; intro w162 hc
             refine ⟨fun j hj hb => ⟨fun _ => Ctx.cells hc (k := 1) rfl rfl 0 (vs := [.int .i64 j20, .int .i64 y144.Most, .slice a153 y144.Prompt.length q154]) rfl, trivial⟩, ?_⟩
             refine ds (v := .pointer (some ⟨b142, 0, none⟩)) rfl (fun w' hF => mv (v := .pointer (some ⟨b142, 0, none⟩)) rfl) rfl ?_
             refine ds (v := .agg #[.int .i64 j20, .int .i64 y144.Most, .slice a153 y144.Prompt.length q154]) rfl (fun w' hF => ldg rfl Try.isAgg29 Try.sizeOf29 rfl (hF.1 rfl)) rfl ?_
             replace hc := hc.dup (k := 2) rfl rfl
             replace hp := bind_some hp; obtain ⟨r163, hr163, hp⟩ := hp
             replace hc := hc.pull 4 rfl rfl
             refine dc (cl Try.call8 rfl rfl) rfl rfl ?_
             refine ledger_Ledger_Open_any (x1 := (⟨j20, y144.Most, y144.Prompt⟩ : S_api_Request)) hc hr163 ?_
             clear hc; intro w164 hc
             refine ⟨fun j hj hb => ⟨fun e => (by subst e; exact absurd hj (by decide)), trivial⟩, ?_⟩
             refine ds (v := .bool (decide (r161.1 ≠ r163.1))) rfl (fun w' hF => ned rfl rfl) rfl ?_
             refine dn ?_
             refine qn ?_
             cases hb165 : (decide (r161.1 ≠ r163.1))
             · replace hp := gneg hp (of_decide_eq_false hb165)
               refine Wcf rfl ?_
               refine Wskip ?_
               refine qn ?_
               refine Wseq ?_
               refine Wreg ?_
               refine rs (v := .slice a13 j12.length q15) (mv (v := .slice a13 j12.length q15) rfl) rfl ?_
               refine rs (v := .pointer (some ⟨b142, 0, none⟩)) (mv (v := .pointer (some ⟨b142, 0, none⟩)) rfl) rfl ?_
               replace hc : Ctx w164 ((vPt S_ledger_Ledger.hp).r [.pointer (some ⟨b142, 0, none⟩)] r163.2 :: S_ledger_Ledger.hp b9 r161.2 :: B b155 [.int .i64 j20, .int .i64 y144.Most, .slice a153 y144.Prompt.length q154] 29 :: Hold (pRo (pInt .i64)) [.slice a153 y144.Prompt.length q154] y144.Prompt :: Hold (pRo (pInt .i64)) [.slice a138 y129.Prompt.length q139] y129.Prompt :: P0 :: P1 :: OwnV (vPt S_ledger_Ledger.hp) 25 (.slice a13 j12.length q15) j12 :: Own (pInt .i64) 3 (.slice a17 j16.length q19) j16 :: Fr) := Ctx.exB _ _ (Ctx.sepB (Ctx.puB rfl hc))
               replace hc := Ctx.anyB (m := 1) [.pointer (some ⟨b142, 0, none⟩)] rfl rfl hc
               refine rsE (Ctx.builtOp (css := [[.pointer (some ⟨b142, 0, none⟩)]]) (xs := ([[.pointer (some ⟨b142, 0, none⟩)]] : List (List Value))) (E := pAny 1) hc Try.underlying27 Try.sizeOf25 Try.zeroValue25 rfl rfl rfl rfl rfl rfl rfl rfl) rfl ?_
               clear hc; rintro _ w167 ⟨a166, rfl, hc⟩
               replace hc : Ctx w167 (OwnV (vPt S_ledger_Ledger.hp) 25 (.slice a166 1 1) ([r163.2]) :: S_ledger_Ledger.hp b9 r161.2 :: B b155 [.int .i64 j20, .int .i64 y144.Most, .slice a153 y144.Prompt.length q154] 29 :: Hold (pRo (pInt .i64)) [.slice a153 y144.Prompt.length q154] y144.Prompt :: Hold (pRo (pInt .i64)) [.slice a138 y129.Prompt.length q139] y129.Prompt :: P0 :: P1 :: OwnV (vPt S_ledger_Ledger.hp) 25 (.slice a13 j12.length q15) j12 :: Own (pInt .i64) 3 (.slice a17 j16.length q19) j16 :: Fr) := Ctx.ownV1 hc
               replace hp := bind_some hp; obtain ⟨z168, hz168, hp⟩ := hp
               obtain ⟨hg169, e170⟩ := app_some hz168
               replace hc := hc.pull 7 rfl rfl
               refine rsE (Ctx.appendV hc Try.underlying27 (i := Try.t25) rfl rfl rfl rfl rfl rfl rfl rfl hg169) rfl ?_
               clear hc; rintro _ w173 ⟨a171, q172, rfl, hc⟩
               rw [← e170] at hc ⊢
               refine rs (v := .slice a171 z168.length q172) (av (v := .slice a171 z168.length q172) rfl) rfl ?_
               refine rn ?_
               refine qn ?_
               refine Wreg ?_
               refine rs (v := .slice a17 j16.length q19) (mv (v := .slice a17 j16.length q19) rfl) rfl ?_
               refine rs (v := .int .i64 j20) (mv (v := .int .i64 j20) rfl) rfl ?_
               replace hc : Ctx w173 (Hold (pInt .i64) [.int .i64 j20] j20 :: OwnV (vPt S_ledger_Ledger.hp) 25 (.slice a171 z168.length q172) z168 :: S_ledger_Ledger.hp b9 r161.2 :: B b155 [.int .i64 j20, .int .i64 y144.Most, .slice a153 y144.Prompt.length q154] 29 :: Hold (pRo (pInt .i64)) [.slice a153 y144.Prompt.length q154] y144.Prompt :: Hold (pRo (pInt .i64)) [.slice a138 y129.Prompt.length q139] y129.Prompt :: P0 :: P1 :: Own (pInt .i64) 3 (.slice a17 j16.length q19) j16 :: Fr) := hc.add _ fun _ _ _ => ⟨rfl, rfl⟩
               refine rsE (Ctx.builtOp (css := [[.int .i64 j20]]) (xs := ([j20] : List Int)) (E := (pInt .i64)) hc Try.underlying23 Try.sizeOf3 Try.zeroValue3 rfl rfl rfl rfl rfl rfl rfl rfl) rfl ?_
               clear hc; rintro _ w175 ⟨a174, rfl, hc⟩
               replace hp := bind_some hp; obtain ⟨z176, hz176, hp⟩ := hp
               obtain ⟨hg177, e178⟩ := app_some hz176
               refine rsE (Ctx.append hc (k := 8) rfl rfl (k2 := 0) rfl rfl reads_own Try.underlying23 (i := Try.t3) rfl rfl rfl rfl rfl rfl rfl rfl hg177) rfl ?_
               clear hc; rintro _ w181 ⟨a179, q180, rfl, hc⟩
               rw [← e178] at hc ⊢
               refine rs (v := .slice a179 z176.length q180) (av (v := .slice a179 z176.length q180) rfl) rfl ?_
               refine rn ?_
               refine bn ?_
               refine qn ?_
               refine Wreg ?_
               refine rs (v := .int .i64 j20) (mv (v := .int .i64 j20) rfl) rfl ?_
               refine rs (v := .int .i64 (IntKind.i64.wrap (j20 + 1))) (adw rfl rfl) rfl ?_
               refine rs (v := .int .i64 (IntKind.i64.wrap (j20 + 1))) (av (v := .int .i64 (IntKind.i64.wrap (j20 + 1))) rfl) rfl ?_
               refine rn ?_
               refine qn ?_
               replace hc := hc.rem 5 rfl rfl
               replace hc := hc.rem 4 rfl rfl
               replace hc := hc.rem 3 rfl rfl
               replace hc := hc.rem 0 rfl rfl
               replace hc := hc.pull 4 rfl rfl
               replace hc := hc.pull 1 rfl rfl
               replace hc := hc.pull 4 rfl rfl
               replace hc := hc.pull 4 rfl rfl
               replace hc := hc.pull 4 rfl rfl
               exact ⟨m1, Nat.lt_succ_self _, ⟨r161.2, z168, z176, (IntKind.i64.wrap (j20 + 1)), a171, z168.length, q172, a179, z176.length, q180, rfl, hp, hc⟩, (kl rfl k0)⟩
             · replace hp := gpos hp (of_decide_eq_true hb165)
               refine Wct rfl ?_
               refine Wseq ?_
               refine Wreg ?_
               refine rs (v := .bool false) (av (v := .bool false) rfl) rfl ?_
               refine rn ?_
               refine qn ?_
               refine Wret ?_
               refine qr ?_
               refine br ?_
               refine qr ?_
               refine qr ?_
               refine br ?_
               refine qr ?_
               replace hc := hc.rem 8 rfl rfl
               replace hc := hc.rem 7 rfl rfl
               replace hc := hc.rem 4 rfl rfl
               replace hc := hc.rem 3 rfl rfl
               replace hc := hc.rem 2 rfl rfl
               replace hc := hc.rem 1 rfl rfl
               replace hc := hc.rem 0 rfl rfl
               injection hp with hp; subst hp
               refine f1 (v := .bool false) Try.results3 Try.ntmps3 rfl ?_
               exact ⟨_, rfl, k _ hc⟩
           · replace hp := gpos hp (of_decide_eq_true hb140)
             refine Wct rfl ?_
             refine Wseq ?_
             refine Wreg ?_
             refine rs (v := .bool true) (av (v := .bool true) rfl) rfl ?_
             refine rn ?_
             refine qn ?_
             refine Wret ?_
             refine qr ?_
             refine br ?_
             refine qr ?_
             refine qr ?_
             refine br ?_
             refine qr ?_
             replace hc := hc.rem 5 rfl rfl
             replace hc := hc.rem 4 rfl rfl
             replace hc := hc.rem 1 rfl rfl
             replace hc := hc.rem 0 rfl rfl
             injection hp with hp; subst hp
             refine f1 (v := .bool true) Try.results3 Try.ntmps3 rfl ?_
             exact ⟨_, rfl, k _ hc⟩
     · replace hp := gpos hp (of_decide_eq_true hb7)
       refine Wct rfl ?_
       refine Wseq ?_
       refine Wreg ?_
       replace hp := bind_some hp; obtain ⟨r182, hr182, hp⟩ := hp
       refine rc (cl Try.call6 rfl rfl) rfl ?_
       refine law23_awake_any hc hr182 ?_
       clear hc; intro w183 hc
       refine rs (v := .bool r182) (av (v := .bool r182) rfl) rfl ?_
       refine rn ?_
       refine qn ?_
       refine Wret ?_
       refine qr ?_
       injection hp with hp; subst hp
       refine f1 (v := .bool r182) Try.results3 Try.ntmps3 rfl ?_
       exact ⟨_, rfl, k _ hc⟩
   · replace hp := gpos hp (of_decide_eq_true hb6)
     refine r0 rfl ?_
     refine r0 rfl ?_
     refine r0 rfl ?_
     refine rs (v := .bool true) (pkt (v := .bool true) rfl rfl) rfl ?_
     refine rn ?_
     refine qn ?_
     refine Wct rfl ?_
     refine Wseq ?_
     refine Wreg ?_
     replace hp := bind_some hp; obtain ⟨r184, hr184, hp⟩ := hp
     refine rc (cl Try.call6 rfl rfl) rfl ?_
     refine law23_awake_any hc hr184 ?_
     clear hc; intro w185 hc
     refine rs (v := .bool r184) (av (v := .bool r184) rfl) rfl ?_
     refine rn ?_
     refine qn ?_
     refine Wret ?_
     refine qr ?_
     injection hp with hp; subst hp
     refine f1 (v := .bool r184) Try.results3 Try.ntmps3 rfl ?_
     exact ⟨_, rfl, k _ hc⟩

end Go.Proofs.Ytfhpmaphgkiegaa
