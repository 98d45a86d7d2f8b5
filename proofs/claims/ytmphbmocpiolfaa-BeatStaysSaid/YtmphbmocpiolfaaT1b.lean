/- Functions of the program as plain functions, and the proofs that walks compute them. Printed by a program of this session. -/
import Derived.Test.YtmphbmocpiolfaaT1
namespace Go.Proofs.Ytmphbmocpiolfaa
open Go Go.RowKit Go.Hp
set_option linter.unusedVariables false
set_option linter.unusedSimpArgs false
set_option maxRecDepth 100000

-- FN peloton/pelotonlaw24.BeatStays
def law24_BeatStays.J3 (N : Nat) (e7 : Int) (e35 : Int) (j36 : S_beat_Watch) : Option (Bool) :=
  (beat_Watch_Epoch j36).bind fun r58 =>
  if r58 = 2 then
    (beat_Watch_Missing N j36).bind fun r61 =>
    if ((r61.length : Nat) : Int) = e7 then
      (beat_Watch_Ready j36 e35 1 (IntKind.i64.wrap (3 + e35))).bind fun r68 =>
      if r68.1 = true then
        some false
      else
        (beat_Watch_Missing N r68.2).bind fun r71 =>
        if ((r71.length : Nat) : Int) = e7 then
          (beat_Watch_Ready r68.2 e35 2 50).bind fun r78 =>
          if r78.1 = true then
            some false
          else
            (beat_Watch_Missing N r78.2).bind fun r81 =>
            some (decide (((r81.length : Nat) : Int) = (IntKind.i64.wrap (e7 - 1))))
        else
          some false
    else
      some false
  else
    some false

def law24_BeatStays.J6 (j43 : Int) (k5 : S_beat_Watch → Int → Option (Bool)) (j49 : S_beat_Watch) : Option (Bool) :=
  k5 j49 (IntKind.i64.wrap (j43 + 1))

def law24_BeatStays.L5 (N : Nat) (e7 : Int) (e8 : Int) (e35 : Int) (j39 : Int) (k4 : S_beat_Watch → Int → Option (Bool)) : Nat → S_beat_Watch → Int → Option (Bool)
  | 0, _, _ => none
  | m5 + 1, j42, j43 =>
    if j43 < e7 then
      if j43 ≠ e35 then
        (beat_Watch_Beat j42 j43 1 (IntKind.i64.wrap (3 + j43))).bind fun r51 =>
        law24_BeatStays.J6 j43 (law24_BeatStays.L5 N e7 e8 e35 j39 k4 m5) r51.2
      else
        law24_BeatStays.J6 j43 (law24_BeatStays.L5 N e7 e8 e35 j39 k4 m5) j42
    else
      (beat_Watch_Tick N j42).bind fun r46 =>
      if (!(r46.1 == (decide (j39 = e8)))) = true then
        some false
      else
        k4 r46.2 (IntKind.i64.wrap (j39 + 1))

def law24_BeatStays.L4 (N : Nat) (e7 : Int) (e8 : Int) (e35 : Int) : Nat → S_beat_Watch → Int → Option (Bool)
  | 0, _, _ => none
  | m4 + 1, j38, j39 =>
    if j39 ≤ e8 then
      law24_BeatStays.L5 N e7 e8 e35 j39 (law24_BeatStays.L4 N e7 e8 e35 m4) N j38 0
    else
      law24_BeatStays.J3 N e7 e35 j38

def law24_BeatStays.L8 (e7 : Int) (j24 : Int) (k2 : S_beat_Watch → Int → Option (Bool)) : Nat → S_beat_Watch → Int → Option (Bool)
  | 0, _, _ => none
  | m8 + 1, j91, j92 =>
    if j92 < e7 then
      (beat_Watch_Beat j91 j92 1 (IntKind.i64.wrap (3 + j92))).bind fun r95 =>
      if r95.1 = true then
        some false
      else
        (beat_Watch_Beat r95.2 j92 0 (IntKind.i64.wrap (3 + j92))).bind fun r98 =>
        if r98.1 = true then
          some false
        else
          (law24_BeatStays.L8 e7 j24 k2 m8) r98.2 (IntKind.i64.wrap (j92 + 1))
    else
      k2 j91 (IntKind.i64.wrap (j24 + 1))

def law24_BeatStays.L7 (N : Nat) (e7 : Int) (e8 : Int) (j24 : Int) (k2 : S_beat_Watch → Int → Option (Bool)) : Nat → S_beat_Watch → Int → Option (Bool)
  | 0, _, _ => none
  | m7 + 1, j87, j88 =>
    if j88 < e8 then
      (beat_Watch_Tick N j87).bind fun r101 =>
      if r101.1 = true then
        some false
      else
        (law24_BeatStays.L7 N e7 e8 j24 k2 m7) r101.2 (IntKind.i64.wrap (j88 + 1))
    else
      law24_BeatStays.L8 e7 j24 k2 N j87 0

def law24_BeatStays.L2 (N : Nat) (x2 : S_law24_Stay) (e7 : Int) (e8 : Int) (e22 : Int) : Nat → S_beat_Watch → Int → Option (Bool)
  | 0, _, _ => none
  | m2 + 1, j23, j24 =>
    if j24 < e22 then
      law24_BeatStays.L7 N e7 e8 j24 (law24_BeatStays.L2 N x2 e7 e8 e22 m2) N j23 1
    else
      (beat_Watch_Epoch j23).bind fun r27 =>
      if r27 ≠ 1 then
        some false
      else
        (beat_Watch_Whole N j23).bind fun r30 =>
        if r30 = true then
          chk (e7 ≠ 0) <|
          chk (e7 ≠ 0) <|
          (some (Int.tmod (IntKind.i64.wrap ((Int.tmod x2.Who e7) + e7)) e7)).bind fun e35 =>
          if x2.Life = true then
            (beat_Watch_Beat j23 e35 0 99).bind fun r54 =>
            if r54.1 = true then
              law24_BeatStays.J3 N e7 e35 r54.2
            else
              some false
          else
            law24_BeatStays.L4 N e7 e8 e35 N j23 1
        else
          some false

def law24_BeatStays.L1 (N : Nat) (x2 : S_law24_Stay) (e7 : Int) (e8 : Int) : Nat → S_beat_Watch → Int → Option (Bool)
  | 0, _, _ => none
  | m1 + 1, j18, j19 =>
    if j19 < e7 then
      (beat_Watch_Ready j18 j19 1 (IntKind.i64.wrap (3 + j19))).bind fun r104 =>
      if r104.1 = true then
        some false
      else
        (law24_BeatStays.L1 N x2 e7 e8 m1) r104.2 (IntKind.i64.wrap (j19 + 1))
    else
      (some (Int.tmod (IntKind.i64.wrap ((Int.tmod x2.Rounds 40) + 40)) 40)).bind fun e22 =>
      law24_BeatStays.L2 N x2 e7 e8 e22 N j18 0

def law24_BeatStays (N : Nat) (x0 : Int) (x1 : Int) (x2 : S_law24_Stay) : Option (Bool) :=
  (law24_awake N).bind fun r4 =>
  if r4 = true then
    (some (IntKind.i64.wrap (1 + (Int.tmod (IntKind.i64.wrap ((Int.tmod x0 8) + 8)) 8)))).bind fun e7 =>
    (some (IntKind.i64.wrap (1 + (Int.tmod (IntKind.i64.wrap ((Int.tmod x1 20) + 20)) 20)))).bind fun e8 =>
    (beat_New e7 e8).bind fun r9 =>
    optc r9.1 (
      some false) fun y13 =>
    if r9.2 ≠ 0 then
      some false
    else
      law24_BeatStays.L1 N x2 e7 e8 N y13 0
  else
    some false

set_option maxHeartbeats 2000000 in
theorem law24_BeatStays_any {N : Nat} {x0 : Int} {x1 : Int} {x2 : S_law24_Stay} {Fr : List HP} {w : World} {r : Bool} {K : Value → World → Prop}  (hc : Ctx w (Fr)) (hp : law24_BeatStays N x0 x1 x2 = some r)
    (k : ∀ w', Ctx w' (Fr) → K (.bool r) w') : Calls Try.prog 4 #[.int .i64 x0, .int .i64 x1, .agg #[.int .i64 x2.Rounds, .int .i64 x2.Who, .bool x2.Life]] w (Ret K) := by
 unfold law24_BeatStays at hp
 refine Center (args := [.int .i64 x0, .int .i64 x1, .agg #[.int .i64 x2.Rounds, .int .i64 x2.Who, .bool x2.Life]]) (l := [(0, .int .i64 x0), (1, .int .i64 x1), (2, .agg #[.int .i64 x2.Rounds, .int .i64 x2.Who, .bool x2.Life])]) Try.func4 Try.ntmps4 rfl rfl rfl ?_
 refine Wseq ?_
 refine Wreg ?_
 refine rsE (Ctx.boxOp (cs := [.int .i64 x2.Rounds, .int .i64 x2.Who, .bool x2.Life]) (v := .agg #[.int .i64 x2.Rounds, .int .i64 x2.Who, .bool x2.Life]) hc rfl rfl) rfl ?_
 clear hc; rintro _ w3 ⟨b1, rfl, hc⟩
 refine rs (v := .bool false) (av (v := .bool false) rfl) rfl ?_
 refine rn ?_
 refine qn ?_
 refine Wseq ?_
 refine Wseq ?_
 refine Wreg ?_
 replace hp := bind_some hp; obtain ⟨r4, hr4, hp⟩ := hp
 refine rc (cl Try.call6 rfl rfl) rfl ?_
 refine law24_awake_any hc hr4 ?_
 clear hc; intro w5 hc
 cases hb6 : r4
 · replace hp := gneg hp (by rw [hb6]; exact Bool.false_ne_true)
   subst hb6
   refine rs (v := .bool true) (ntf rfl) rfl ?_
   refine rn ?_
   refine qn ?_
   refine Wct rfl ?_
   refine Wseq ?_
   refine Wreg ?_
   refine rs (v := .bool false) (av (v := .bool false) rfl) rfl ?_
   refine rn ?_
   refine qn ?_
   refine Wret ?_
   refine qr ?_
   replace hc := hc.rem 0 rfl rfl
   injection hp with hp; subst hp
   refine f1 (v := .bool false) Try.results4 Try.ntmps4 rfl ?_
   exact ⟨_, rfl, k _ hc⟩
 · replace hp := gpos hp hb6
   subst hb6
   refine rs (v := .bool false) (ntt rfl) rfl ?_
   refine rn ?_
   refine qn ?_
   refine Wcf rfl ?_
   refine Wskip ?_
   refine qn ?_
   refine Wseq ?_
   refine Wreg ?_
   refine rs (v := .int .i64 x0) (mv (v := .int .i64 x0) rfl) rfl ?_
   refine rs (v := .int .i64 (Int.tmod x0 8)) (rm rfl rfl (by decide)) rfl ?_
   refine rs (v := .int .i64 (IntKind.i64.wrap ((Int.tmod x0 8) + 8))) (adw rfl rfl) rfl ?_
   refine rs (v := .int .i64 (Int.tmod (IntKind.i64.wrap ((Int.tmod x0 8) + 8)) 8)) (rm rfl rfl (by decide)) rfl ?_
   refine rs (v := .int .i64 (IntKind.i64.wrap (1 + (Int.tmod (IntKind.i64.wrap ((Int.tmod x0 8) + 8)) 8)))) (adw rfl rfl) rfl ?_
   refine rs (v := .int .i64 x1) (mv (v := .int .i64 x1) rfl) rfl ?_
   refine rs (v := .int .i64 (Int.tmod x1 20)) (rm rfl rfl (by decide)) rfl ?_
   refine rs (v := .int .i64 (IntKind.i64.wrap ((Int.tmod x1 20) + 20))) (adw rfl rfl) rfl ?_
   refine rs (v := .int .i64 (Int.tmod (IntKind.i64.wrap ((Int.tmod x1 20) + 20)) 20)) (rm rfl rfl (by decide)) rfl ?_
   refine rs (v := .int .i64 (IntKind.i64.wrap (1 + (Int.tmod (IntKind.i64.wrap ((Int.tmod x1 20) + 20)) 20)))) (adw rfl rfl) rfl ?_
   replace hp := bind_some hp; obtain ⟨e7, he7, hp⟩ := hp
   injection he7 with he7
   refine rs (v := .int .i64 e7) (av (v := .int .i64 e7) (by rw [← he7]; rfl)) rfl ?_
   replace hp := bind_some hp; obtain ⟨e8, he8, hp⟩ := hp
   injection he8 with he8
   refine rs (v := .int .i64 e8) (av (v := .int .i64 e8) (by rw [← he8]; rfl)) rfl ?_
   refine rn ?_
   refine qn ?_
   refine Wseq ?_
   refine Wreg ?_
   refine rs (v := .int .i64 e7) (mv (v := .int .i64 e7) rfl) rfl ?_
   refine rs (v := .int .i64 e8) (mv (v := .int .i64 e8) rfl) rfl ?_
   replace hp := bind_some hp; obtain ⟨r9, hr9, hp⟩ := hp
   refine rc (cl Try.call7 rfl rfl) rfl ?_
   refine beat_New_any hc hr9 ?_
   clear hc; intro v10 w11 hc
   refine rs (v := .tuple #[v10, .int .i64 r9.2]) (mv (v := .tuple #[v10, .int .i64 r9.2]) rfl) rfl ?_
   refine rs (v := v10) (ext (v := v10) rfl rfl) rfl ?_
   refine rs (v := .int .i64 r9.2) (ext (v := .int .i64 r9.2) rfl rfl) rfl ?_
   refine rs (v := v10) (av (v := v10) rfl) rfl ?_
   refine rs (v := .int .i64 r9.2) (av (v := .int .i64 r9.2) rfl) rfl ?_
   refine rn ?_
   refine qn ?_
   refine Wseq ?_
   refine Wseq ?_
   refine Wreg ?_
   refine rs (v := v10) (mv (v := v10) rfl) rfl ?_
   cases hb12 : r9.1
   · replace hp := optN hp hb12
     rw [hb12] at hc
     replace hc := Ctx.ptoN hc; obtain ⟨u14, hc⟩ := hc; subst u14
     refine rs (v := .bool true) (ept Try.underlying24 rfl rfl) rfl ?_
     refine rs (v := .bool true) (mv (v := .bool true) rfl) rfl ?_
     refine r0 rfl ?_
     refine r0 rfl ?_
     refine rs (v := .bool true) (pkt (v := .bool true) rfl rfl) rfl ?_
     refine rn ?_
     refine qn ?_
     refine Wct rfl ?_
     refine Wseq ?_
     refine Wreg ?_
     refine rs (v := .bool false) (av (v := .bool false) rfl) rfl ?_
     refine rn ?_
     refine qn ?_
     refine Wret ?_
     refine qr ?_
     replace hc := hc.rem 0 rfl rfl
     injection hp with hp; subst hp
     refine f1 (v := .bool false) Try.results4 Try.ntmps4 rfl ?_
     exact ⟨_, rfl, k _ hc⟩
   · rename_i y13
     replace hp := optS hp hb12
     rw [hb12] at hc
     replace hc := Ctx.ptoS hc; obtain ⟨b15, u16, hc⟩ := hc; subst u16
     refine rs (v := .bool false) (epf Try.underlying24 rfl rfl) rfl ?_
     refine rs (v := .bool false) (mv (v := .bool false) rfl) rfl ?_
     refine rs (v := .int .i64 r9.2) (mv (v := .int .i64 r9.2) rfl) rfl ?_
     refine rs (v := .bool (decide (r9.2 ≠ 0))) (ned rfl rfl) rfl ?_
     refine rs (v := .bool (decide (r9.2 ≠ 0))) (pkf (v := .bool (decide (r9.2 ≠ 0))) rfl rfl) rfl ?_
     refine rn ?_
     refine qn ?_
     cases hb17 : (decide (r9.2 ≠ 0))
     · replace hp := gneg hp (of_decide_eq_false hb17)
       refine Wcf rfl ?_
       refine Wskip ?_
       refine qn ?_
       refine Wseq ?_
       refine Wseq ?_
       refine Wreg ?_
       refine rs (v := .int .i64 0) (av (v := .int .i64 0) rfl) rfl ?_
       refine rn ?_
       refine qn ?_
       refine Wblk ?_
       refine Wloop [6, 11, 43, 44, 45, 46, 47, 48, 49, 50, 51, 52] [11] (fun m vs w' => ∃ j18 : S_beat_Watch, ∃ j19 : Int, vs = [.int .i64 j19] ∧ law24_BeatStays.L1 N x2 e7 e8 m j18 j19 = some r ∧ Ctx w' (S_beat_Watch.hp b15 j18 :: B b1 [.int .i64 x2.Rounds, .int .i64 x2.Who, .bool x2.Life] 45 :: Fr)) N ?_ ?_
       · exact ⟨y13, 0, rfl, hp, hc⟩
       · clear hp hc; intro m vs u w20 hJ
         obtain ⟨j18, j19, rfl, hp, hc⟩ := hJ
         rcases m with _ | m1
         · cases (show none = some r from hp)
         rw [law24_BeatStays.L1] at hp
         refine Wseq ?_
         refine Wseq ?_
         refine Wreg ?_
         refine rs (v := .int .i64 j19) (mv (v := .int .i64 j19) rfl) rfl ?_
         refine rs (v := .int .i64 e7) (mv (v := .int .i64 e7) rfl) rfl ?_
         refine rs (v := .bool (decide (j19 < e7))) (lt' rfl rfl) rfl ?_
         refine rn ?_
         refine qn ?_
         cases hb21 : (decide (j19 < e7))
         · replace hp := gneg hp (of_decide_eq_false hb21)
           refine Wcf rfl ?_
           refine Wexit ?_
           refine qx ?_
           refine qx ?_
           refine be ?_
           refine qn ?_
           refine Wseq ?_
           refine Wreg ?_
           refine rs (v := .pointer (some ⟨b1, 0, none⟩)) (fax 0 rfl Try.underlying45 rfl Try.sizeOf3 rfl rfl rfl) rfl ?_
           refine rs (v := .int .i64 x2.Rounds) (ld rfl Try.isAgg3 (Ctx.cell hc (k := 1) rfl rfl rfl)) rfl ?_
           refine rs (v := .int .i64 (Int.tmod x2.Rounds 40)) (rm rfl rfl (by decide)) rfl ?_
           refine rs (v := .int .i64 (IntKind.i64.wrap ((Int.tmod x2.Rounds 40) + 40))) (adw rfl rfl) rfl ?_
           refine rs (v := .int .i64 (Int.tmod (IntKind.i64.wrap ((Int.tmod x2.Rounds 40) + 40)) 40)) (rm rfl rfl (by decide)) rfl ?_
           replace hp := bind_some hp; obtain ⟨e22, he22, hp⟩ := hp
           injection he22 with he22
           refine rs (v := .int .i64 e22) (av (v := .int .i64 e22) (by rw [← he22]; rfl)) rfl ?_
           refine rn ?_
           refine qn ?_
           refine Wseq ?_
           refine Wseq ?_
           refine Wreg ?_
           refine rs (v := .int .i64 0) (av (v := .int .i64 0) rfl) rfl ?_
           refine rn ?_
           refine qn ?_
           refine Wblk ?_
           refine Wloop [6, 13, 14, 15, 58, 59, 60, 61, 62, 63, 64, 65, 66, 67, 68, 69, 70, 71, 72, 73, 74, 75, 76, 77, 78, 79, 80, 81, 82, 83, 84, 85, 86] [13] (fun m vs w' => ∃ j23 : S_beat_Watch, ∃ j24 : Int, vs = [.int .i64 j24] ∧ law24_BeatStays.L2 N x2 e7 e8 e22 m j23 j24 = some r ∧ Ctx w' (S_beat_Watch.hp b15 j23 :: B b1 [.int .i64 x2.Rounds, .int .i64 x2.Who, .bool x2.Life] 45 :: Fr)) N ?_ ?_
           · exact ⟨j18, 0, rfl, hp, hc⟩
           · clear hp hc; intro m vs u w25 hJ
             obtain ⟨j23, j24, rfl, hp, hc⟩ := hJ
             rcases m with _ | m2
             · cases (show none = some r from hp)
             rw [law24_BeatStays.L2] at hp
             refine Wseq ?_
             refine Wseq ?_
             refine Wreg ?_
             refine rs (v := .int .i64 j24) (mv (v := .int .i64 j24) rfl) rfl ?_
             refine rs (v := .int .i64 e22) (mv (v := .int .i64 e22) rfl) rfl ?_
             refine rs (v := .bool (decide (j24 < e22))) (lt' rfl rfl) rfl ?_
             refine rn ?_
             refine qn ?_
             cases hb26 : (decide (j24 < e22))
             · replace hp := gneg hp (of_decide_eq_false hb26)
               refine Wcf rfl ?_
               refine Wexit ?_
               refine qx ?_
               refine qx ?_
               refine be ?_
               refine qn ?_
               refine Wseq ?_
               refine Wseq ?_
               refine Wreg ?_
               refine rs (v := .pointer (some ⟨b15, 0, none⟩)) (mv (v := .pointer (some ⟨b15, 0, none⟩)) rfl) rfl ?_
               replace hp := bind_some hp; obtain ⟨r27, hr27, hp⟩ := hp
               refine rc (cl Try.call17 rfl rfl) rfl ?_
               refine beat_Watch_Epoch_any hc hr27 ?_
               clear hc; intro w28 hc
               refine rs (v := .bool (decide (r27 ≠ 1))) (ned rfl rfl) rfl ?_
               refine rs (v := .bool (decide (r27 ≠ 1))) (mv (v := .bool (decide (r27 ≠ 1))) rfl) rfl ?_
               cases hb29 : (decide (r27 ≠ 1))
               · replace hp := gneg hp (of_decide_eq_false hb29)
                 refine rs (v := .pointer (some ⟨b15, 0, none⟩)) (mv (v := .pointer (some ⟨b15, 0, none⟩)) rfl) rfl ?_
                 replace hp := bind_some hp; obtain ⟨r30, hr30, hp⟩ := hp
                 refine rc (cl Try.call18 rfl rfl) rfl ?_
                 refine beat_Watch_Whole_any hc hr30 ?_
                 clear hc; intro w31 hc
                 cases hb32 : r30
                 · replace hp := gneg hp (by rw [hb32]; exact Bool.false_ne_true)
                   subst hb32
                   refine rs (v := .bool true) (ntf rfl) rfl ?_
                   refine rs (v := .bool true) (pkf (v := .bool true) rfl rfl) rfl ?_
                   refine rn ?_
                   refine qn ?_
                   refine Wct rfl ?_
                   refine Wseq ?_
                   refine Wreg ?_
                   refine rs (v := .bool false) (av (v := .bool false) rfl) rfl ?_
                   refine rn ?_
                   refine qn ?_
                   refine Wret ?_
                   refine qr ?_
                   replace hc := hc.rem 1 rfl rfl
                   replace hc := hc.rem 0 rfl rfl
                   injection hp with hp; subst hp
                   refine f1 (v := .bool false) Try.results4 Try.ntmps4 rfl ?_
                   exact ⟨_, rfl, k _ hc⟩
                 · replace hp := gpos hp hb32
                   subst hb32
                   refine rs (v := .bool false) (ntt rfl) rfl ?_
                   refine rs (v := .bool false) (pkf (v := .bool false) rfl rfl) rfl ?_
                   refine rn ?_
                   refine qn ?_
                   refine Wcf rfl ?_
                   refine Wskip ?_
                   refine qn ?_
                   refine Wseq ?_
                   refine Wreg ?_
                   refine rs (v := .pointer (some ⟨b1, 1, none⟩)) (fax 1 rfl Try.underlying45 rfl Try.sizeOf3 rfl rfl rfl) rfl ?_
                   refine rs (v := .int .i64 x2.Who) (ld rfl Try.isAgg3 (Ctx.cell hc (k := 1) rfl rfl rfl)) rfl ?_
                   refine rs (v := .int .i64 e7) (mv (v := .int .i64 e7) rfl) rfl ?_
                   replace hp := chk_some hp; obtain ⟨hg33, hp⟩ := hp
                   refine rs (v := .int .i64 (Int.tmod x2.Who e7)) (rm rfl rfl hg33) rfl ?_
                   refine rs (v := .int .i64 e7) (mv (v := .int .i64 e7) rfl) rfl ?_
                   refine rs (v := .int .i64 (IntKind.i64.wrap ((Int.tmod x2.Who e7) + e7))) (adw rfl rfl) rfl ?_
                   refine rs (v := .int .i64 e7) (mv (v := .int .i64 e7) rfl) rfl ?_
                   replace hp := chk_some hp; obtain ⟨hg34, hp⟩ := hp
                   refine rs (v := .int .i64 (Int.tmod (IntKind.i64.wrap ((Int.tmod x2.Who e7) + e7)) e7)) (rm rfl rfl hg34) rfl ?_
                   replace hp := bind_some hp; obtain ⟨e35, he35, hp⟩ := hp
                   injection he35 with he35
                   refine rs (v := .int .i64 e35) (av (v := .int .i64 e35) (by rw [← he35]; rfl)) rfl ?_
                   refine rn ?_
                   refine qn ?_
                   refine Wseqm [6, 17, 18, 103, 104, 105, 106, 107, 108, 109, 110, 111, 112, 113, 114, 115, 116, 117, 118, 119, 120, 121, 122, 123, 124, 125, 126, 127, 128, 129, 130, 131, 132] [] (fun vs w' => ∃ j36 : S_beat_Watch, vs = [] ∧ law24_BeatStays.J3 N e7 e35 j36 = some r ∧ Ctx w' (S_beat_Watch.hp b15 j36 :: Fr)) ?_ ?_
                   · refine Wseq ?_
                     refine Wreg ?_
                     refine rs (v := .pointer (some ⟨b1, 2, none⟩)) (fax 2 rfl Try.underlying45 rfl Try.sizeOf4 rfl rfl rfl) rfl ?_
                     refine rs (v := .bool x2.Life) (ld rfl Try.isAgg4 (Ctx.cell hc (k := 1) rfl rfl rfl)) rfl ?_
                     refine rn ?_
                     refine qn ?_
                     cases hb37 : x2.Life
                     · replace hp := gneg hp (by rw [hb37]; exact Bool.false_ne_true)
                       refine Wcf rfl ?_
                       refine Wseq ?_
                       refine Wreg ?_
                       refine rs (v := .int .i64 1) (av (v := .int .i64 1) rfl) rfl ?_
                       refine rn ?_
                       refine qn ?_
                       refine Wblk ?_
                       replace hc := hc.rem 1 rfl rfl
                       refine Wloop [6, 17, 18, 109, 110, 111, 112, 113, 114, 115, 116, 117, 118, 119, 120, 121, 122, 123, 124, 125, 126, 127, 128, 129, 130, 131, 132] [17] (fun m vs w' => ∃ j38 : S_beat_Watch, ∃ j39 : Int, vs = [.int .i64 j39] ∧ law24_BeatStays.L4 N e7 e8 e35 m j38 j39 = some r ∧ Ctx w' (S_beat_Watch.hp b15 j38 :: Fr)) N ?_ ?_
                       · exact ⟨j23, 1, rfl, hp, hc⟩
                       · clear hp hc; intro m vs u w40 hJ
                         obtain ⟨j38, j39, rfl, hp, hc⟩ := hJ
                         rcases m with _ | m4
                         · cases (show none = some r from hp)
                         rw [law24_BeatStays.L4] at hp
                         refine Wseq ?_
                         refine Wseq ?_
                         refine Wreg ?_
                         refine rs (v := .int .i64 j39) (mv (v := .int .i64 j39) rfl) rfl ?_
                         refine rs (v := .int .i64 e8) (mv (v := .int .i64 e8) rfl) rfl ?_
                         refine rs (v := .bool (decide (j39 ≤ e8))) (le' rfl rfl) rfl ?_
                         refine rn ?_
                         refine qn ?_
                         cases hb41 : (decide (j39 ≤ e8))
                         · replace hp := gneg hp (of_decide_eq_false hb41)
                           refine Wcf rfl ?_
                           refine Wexit ?_
                           refine qx ?_
                           refine qx ?_
                           refine be ?_
                           refine qn ?_
                           exact ⟨⟨j38, rfl, hp, hc⟩, (kl rfl (km rfl (kl rfl kb)))⟩
                         · replace hp := gpos hp (of_decide_eq_true hb41)
                           refine Wct rfl ?_
                           refine Wskip ?_
                           refine qn ?_
                           refine Wseq ?_
                           refine Wblk ?_
                           refine Wseq ?_
                           refine Wseq ?_
                           refine Wreg ?_
                           refine rs (v := .int .i64 0) (av (v := .int .i64 0) rfl) rfl ?_
                           refine rn ?_
                           refine qn ?_
                           refine Wblk ?_
                           refine Wloop [18, 114, 115, 116, 117, 118, 119, 120, 121, 122, 123, 124, 125, 126] [18] (fun m vs w' => ∃ j42 : S_beat_Watch, ∃ j43 : Int, vs = [.int .i64 j43] ∧ law24_BeatStays.L5 N e7 e8 e35 j39 (law24_BeatStays.L4 N e7 e8 e35 m4) m j42 j43 = some r ∧ Ctx w' (S_beat_Watch.hp b15 j42 :: Fr)) N ?_ ?_
                           · exact ⟨j38, 0, rfl, hp, hc⟩
                           · clear hp hc; intro m vs u w44 hJ
                             obtain ⟨j42, j43, rfl, hp, hc⟩ := hJ
                             rcases m with _ | m5
                             · cases (show none = some r from hp)
                             rw [law24_BeatStays.L5] at hp
                             refine Wseq ?_
                             refine Wseq ?_
                             refine Wreg ?_
                             refine rs (v := .int .i64 j43) (mv (v := .int .i64 j43) rfl) rfl ?_
                             refine rs (v := .int .i64 e7) (mv (v := .int .i64 e7) rfl) rfl ?_
                             refine rs (v := .bool (decide (j43 < e7))) (lt' rfl rfl) rfl ?_
                             refine rn ?_
                             refine qn ?_
                             cases hb45 : (decide (j43 < e7))
                             · replace hp := gneg hp (of_decide_eq_false hb45)
                               refine Wcf rfl ?_
                               refine Wexit ?_
                               refine qx ?_
                               refine qx ?_
                               refine be ?_
                               refine qn ?_
                               refine Wseq ?_
                               refine Wreg ?_
                               refine rs (v := .pointer (some ⟨b15, 0, none⟩)) (mv (v := .pointer (some ⟨b15, 0, none⟩)) rfl) rfl ?_
                               replace hp := bind_some hp; obtain ⟨r46, hr46, hp⟩ := hp
                               refine rc (cl Try.call9 rfl rfl) rfl ?_
                               refine beat_Watch_Tick_any hc hr46 ?_
                               clear hc; intro w47 hc
                               refine rs (v := .int .i64 j39) (mv (v := .int .i64 j39) rfl) rfl ?_
                               refine rs (v := .int .i64 e8) (mv (v := .int .i64 e8) rfl) rfl ?_
                               refine rs (v := .bool (decide (j39 = e8))) (eqd rfl rfl) rfl ?_
                               refine rs (v := .bool (!(r46.1 == (decide (j39 = e8))))) (neb Try.underlying4 rfl rfl) rfl ?_
                               refine rn ?_
                               refine qn ?_
                               cases hb48 : (!(r46.1 == (decide (j39 = e8))))
                               · replace hp := gneg hp (by rw [hb48]; exact Bool.false_ne_true)
                                 refine Wcf rfl ?_
                                 refine Wskip ?_
                                 refine bn ?_
                                 refine qn ?_
                                 refine Wreg ?_
                                 refine rs (v := .int .i64 j39) (mv (v := .int .i64 j39) rfl) rfl ?_
                                 refine rs (v := .int .i64 (IntKind.i64.wrap (j39 + 1))) (adw rfl rfl) rfl ?_
                                 refine rs (v := .int .i64 (IntKind.i64.wrap (j39 + 1))) (av (v := .int .i64 (IntKind.i64.wrap (j39 + 1))) rfl) rfl ?_
                                 refine rn ?_
                                 refine qn ?_
                                 exact ⟨m4, Nat.lt_succ_self _, ⟨r46.2, (IntKind.i64.wrap (j39 + 1)), rfl, hp, hc⟩, (kl rfl (km rfl (kl rfl k0)))⟩
                               · replace hp := gpos hp hb48
                                 refine Wct rfl ?_
                                 refine Wseq ?_
                                 refine Wreg ?_
                                 refine rs (v := .bool false) (av (v := .bool false) rfl) rfl ?_
                                 refine rn ?_
                                 refine qn ?_
                                 refine Wret ?_
                                 refine br ?_
                                 refine qr ?_
                                 refine qr ?_
                                 refine br ?_
                                 refine qr ?_
                                 replace hc := hc.rem 0 rfl rfl
                                 injection hp with hp; subst hp
                                 refine f1 (v := .bool false) Try.results4 Try.ntmps4 rfl ?_
                                 exact ⟨_, rfl, k _ hc⟩
                             · replace hp := gpos hp (of_decide_eq_true hb45)
                               refine Wct rfl ?_
                               refine Wskip ?_
                               refine qn ?_
                               refine Wseqm [119, 120, 121, 122, 123, 124, 125, 126] [] (fun vs w' => ∃ j49 : S_beat_Watch, vs = [] ∧ law24_BeatStays.J6 j43 (law24_BeatStays.L5 N e7 e8 e35 j39 (law24_BeatStays.L4 N e7 e8 e35 m4) m5) j49 = some r ∧ Ctx w' (S_beat_Watch.hp b15 j49 :: Fr)) ?_ ?_
                               · refine Wblk ?_
                                 refine Wseq ?_
                                 refine Wreg ?_
                                 refine rs (v := .int .i64 j43) (mv (v := .int .i64 j43) rfl) rfl ?_
                                 refine rs (v := .int .i64 e35) (mv (v := .int .i64 e35) rfl) rfl ?_
                                 refine rs (v := .bool (decide (j43 ≠ e35))) (ned rfl rfl) rfl ?_
                                 refine rn ?_
                                 refine qn ?_
                                 cases hb50 : (decide (j43 ≠ e35))
                                 · replace hp := gneg hp (of_decide_eq_false hb50)
                                   refine Wcf rfl ?_
                                   refine Wskip ?_
                                   refine bn ?_
                                   refine qn ?_
                                   exact ⟨⟨j42, rfl, hp, hc⟩, (kl rfl kb)⟩
                                 · replace hp := gpos hp (of_decide_eq_true hb50)
                                   refine Wct rfl ?_
                                   refine Wreg ?_
                                   refine rs (v := .pointer (some ⟨b15, 0, none⟩)) (mv (v := .pointer (some ⟨b15, 0, none⟩)) rfl) rfl ?_
                                   refine rs (v := .int .i64 j43) (mv (v := .int .i64 j43) rfl) rfl ?_
                                   refine rs (v := .int .i64 j43) (mv (v := .int .i64 j43) rfl) rfl ?_
                                   refine rs (v := .int .i64 (IntKind.i64.wrap (3 + j43))) (adw rfl rfl) rfl ?_
                                   replace hp := bind_some hp; obtain ⟨r51, hr51, hp⟩ := hp
                                   refine rc (cl Try.call11 rfl rfl) rfl ?_
                                   refine beat_Watch_Beat_any hc hr51 ?_
                                   clear hc; intro w52 hc
                                   refine rn ?_
                                   refine bn ?_
                                   refine qn ?_
                                   exact ⟨⟨r51.2, rfl, hp, hc⟩, (kl rfl kb)⟩
                               · clear hp hc; intro vs u w53 hJ
                                 obtain ⟨j49, rfl, hp, hc⟩ := hJ
                                 unfold law24_BeatStays.J6 at hp
                                 refine Wreg ?_
                                 refine rs (v := .int .i64 j43) (mv (v := .int .i64 j43) rfl) rfl ?_
                                 refine rs (v := .int .i64 (IntKind.i64.wrap (j43 + 1))) (adw rfl rfl) rfl ?_
                                 refine rs (v := .int .i64 (IntKind.i64.wrap (j43 + 1))) (av (v := .int .i64 (IntKind.i64.wrap (j43 + 1))) rfl) rfl ?_
                                 refine rn ?_
                                 refine qn ?_
                                 exact ⟨m5, Nat.lt_succ_self _, ⟨j49, (IntKind.i64.wrap (j43 + 1)), rfl, hp, hc⟩, (kl rfl (km rfl (kl rfl k0)))⟩
                     · replace hp := gpos hp hb37
                       refine Wct rfl ?_
                       refine Wseq ?_
                       refine Wreg ?_
                       refine rs (v := .pointer (some ⟨b15, 0, none⟩)) (mv (v := .pointer (some ⟨b15, 0, none⟩)) rfl) rfl ?_
                       refine rs (v := .int .i64 e35) (mv (v := .int .i64 e35) rfl) rfl ?_
                       replace hp := bind_some hp; obtain ⟨r54, hr54, hp⟩ := hp
                       refine rc (cl Try.call11 rfl rfl) rfl ?_
                       refine beat_Watch_Beat_any hc hr54 ?_
                       clear hc; intro w55 hc
                       cases hb56 : r54.1
                       · replace hp := gneg hp (by rw [hb56]; exact Bool.false_ne_true)
                         refine rs (v := .bool true) (ntf rfl) rfl ?_
                         refine rn ?_
                         refine qn ?_
                         refine Wct rfl ?_
                         refine Wseq ?_
                         refine Wreg ?_
                         refine rs (v := .bool false) (av (v := .bool false) rfl) rfl ?_
                         refine rn ?_
                         refine qn ?_
                         refine Wret ?_
                         refine qr ?_
                         replace hc := hc.rem 1 rfl rfl
                         replace hc := hc.rem 0 rfl rfl
                         injection hp with hp; subst hp
                         refine f1 (v := .bool false) Try.results4 Try.ntmps4 rfl ?_
                         exact ⟨_, rfl, k _ hc⟩
                       · replace hp := gpos hp hb56
                         refine rs (v := .bool false) (ntt rfl) rfl ?_
                         refine rn ?_
                         refine qn ?_
                         refine Wcf rfl ?_
                         refine Wskip ?_
                         refine qn ?_
                         replace hc := hc.rem 1 rfl rfl
                         exact ⟨⟨r54.2, rfl, hp, hc⟩, (kl rfl kb)⟩
                   · clear hp hc; intro vs u w57 hJ
                     obtain ⟨j36, rfl, hp, hc⟩ := hJ
                     unfold law24_BeatStays.J3 at hp
                     refine Wseq ?_
                     refine Wreg ?_
                     refine rs (v := .pointer (some ⟨b15, 0, none⟩)) (mv (v := .pointer (some ⟨b15, 0, none⟩)) rfl) rfl ?_
                     replace hp := bind_some hp; obtain ⟨r58, hr58, hp⟩ := hp
                     refine rc (cl Try.call17 rfl rfl) rfl ?_
                     refine beat_Watch_Epoch_any hc hr58 ?_
                     clear hc; intro w59 hc
                     refine rs (v := .bool (decide (r58 = 2))) (eqd rfl rfl) rfl ?_
                     refine rs (v := .bool (decide (r58 = 2))) (mv (v := .bool (decide (r58 = 2))) rfl) rfl ?_
                     cases hb60 : (decide (r58 = 2))
                     · replace hp := gneg hp (of_decide_eq_false hb60)
                       refine r0 rfl ?_
                       refine r0 rfl ?_
                       refine r0 rfl ?_
                       refine r0 rfl ?_
                       refine r0 rfl ?_
                       refine rs (v := .bool false) (pkf (v := .bool false) rfl rfl) rfl ?_
                       refine rs (v := .bool false) (mv (v := .bool false) rfl) rfl ?_
                       refine r0 rfl ?_
                       refine r0 rfl ?_
                       refine r0 rfl ?_
                       refine r0 rfl ?_
                       refine r0 rfl ?_
                       refine r0 rfl ?_
                       refine rs (v := .bool false) (pkf (v := .bool false) rfl rfl) rfl ?_
                       refine rs (v := .bool false) (mv (v := .bool false) rfl) rfl ?_
                       refine r0 rfl ?_
                       refine r0 rfl ?_
                       refine r0 rfl ?_
                       refine r0 rfl ?_
                       refine r0 rfl ?_
                       refine rs (v := .bool false) (pkf (v := .bool false) rfl rfl) rfl ?_
                       refine rs (v := .bool false) (mv (v := .bool false) rfl) rfl ?_
                       refine r0 rfl ?_
                       refine r0 rfl ?_
                       refine r0 rfl ?_
                       refine r0 rfl ?_
                       refine rs (v := .bool false) (pkf (v := .bool false) rfl rfl) rfl ?_
                       refine rs (v := .bool false) (mv (v := .bool false) rfl) rfl ?_
                       refine r0 rfl ?_
                       refine r0 rfl ?_
                       refine r0 rfl ?_
                       refine r0 rfl ?_
                       refine r0 rfl ?_
                       refine r0 rfl ?_
                       refine rs (v := .bool false) (pkf (v := .bool false) rfl rfl) rfl ?_
                       refine rs (v := .bool false) (av (v := .bool false) rfl) rfl ?_
                       refine rn ?_
                       refine qn ?_
                       refine Wret ?_
                       replace hc := hc.rem 0 rfl rfl
                       injection hp with hp; subst hp
                       refine f1 (v := .bool false) Try.results4 Try.ntmps4 rfl ?_
                       exact ⟨_, rfl, k _ hc⟩
                     · replace hp := gpos hp (of_decide_eq_true hb60)
                       refine rs (v := .pointer (some ⟨b15, 0, none⟩)) (mv (v := .pointer (some ⟨b15, 0, none⟩)) rfl) rfl ?_
                       replace hp := bind_some hp; obtain ⟨r61, hr61, hp⟩ := hp
                       refine rc (cl Try.call20 rfl rfl) rfl ?_
                       refine beat_Watch_Missing_any hc hr61 ?_
                       clear hc; intro a62 n63 q64 w65 hc
                       obtain ⟨u66, _⟩ := Ctx.rdLen hc (k := 0) rfl rfl reads_own; subst u66
                       refine rs (v := .int .i64 ((r61.length : Nat) : Int)) (ln rfl Try.underlying36) rfl ?_
                       refine rs (v := .int .i64 e7) (mv (v := .int .i64 e7) rfl) rfl ?_
                       refine rs (v := .bool (decide (((r61.length : Nat) : Int) = e7))) (eqd rfl rfl) rfl ?_
                       refine rs (v := .bool (decide (((r61.length : Nat) : Int) = e7))) (pkt (v := .bool (decide (((r61.length : Nat) : Int) = e7))) rfl rfl) rfl ?_
                       refine rs (v := .bool (decide (((r61.length : Nat) : Int) = e7))) (mv (v := .bool (decide (((r61.length : Nat) : Int) = e7))) rfl) rfl ?_
                       cases hb67 : (decide (((r61.length : Nat) : Int) = e7))
                       · replace hp := gneg hp (of_decide_eq_false hb67)
                         refine r0 rfl ?_
                         refine r0 rfl ?_
                         refine r0 rfl ?_
                         refine r0 rfl ?_
                         refine r0 rfl ?_
                         refine r0 rfl ?_
                         refine rs (v := .bool false) (pkf (v := .bool false) rfl rfl) rfl ?_
                         refine rs (v := .bool false) (mv (v := .bool false) rfl) rfl ?_
                         refine r0 rfl ?_
                         refine r0 rfl ?_
                         refine r0 rfl ?_
                         refine r0 rfl ?_
                         refine r0 rfl ?_
                         refine rs (v := .bool false) (pkf (v := .bool false) rfl rfl) rfl ?_
                         refine rs (v := .bool false) (mv (v := .bool false) rfl) rfl ?_
                         refine r0 rfl ?_
                         refine r0 rfl ?_
                         refine r0 rfl ?_
                         refine r0 rfl ?_
                         refine rs (v := .bool false) (pkf (v := .bool false) rfl rfl) rfl ?_
                         refine rs (v := .bool false) (mv (v := .bool false) rfl) rfl ?_
                         refine r0 rfl ?_
                         refine r0 rfl ?_
                         refine r0 rfl ?_
                         refine r0 rfl ?_
                         refine r0 rfl ?_
                         refine r0 rfl ?_
                         refine rs (v := .bool false) (pkf (v := .bool false) rfl rfl) rfl ?_
                         refine rs (v := .bool false) (av (v := .bool false) rfl) rfl ?_
                         refine rn ?_
                         refine qn ?_
                         refine Wret ?_
                         replace hc := hc.rem 1 rfl rfl
                         replace hc := hc.rem 0 rfl rfl
                         injection hp with hp; subst hp
                         refine f1 (v := .bool false) Try.results4 Try.ntmps4 rfl ?_
                         exact ⟨_, rfl, k _ hc⟩
                       · replace hp := gpos hp (of_decide_eq_true hb67)
                         refine rs (v := .pointer (some ⟨b15, 0, none⟩)) (mv (v := .pointer (some ⟨b15, 0, none⟩)) rfl) rfl ?_
                         refine rs (v := .int .i64 e35) (mv (v := .int .i64 e35) rfl) rfl ?_
                         refine rs (v := .int .i64 e35) (mv (v := .int .i64 e35) rfl) rfl ?_
                         refine rs (v := .int .i64 (IntKind.i64.wrap (3 + e35))) (adw rfl rfl) rfl ?_
                         replace hp := bind_some hp; obtain ⟨r68, hr68, hp⟩ := hp
                         replace hc := hc.pull 1 rfl rfl
                         refine rc (cl Try.call13 rfl rfl) rfl ?_
                         refine beat_Watch_Ready_any hc hr68 ?_
                         clear hc; intro w69 hc
                         cases hb70 : r68.1
                         · replace hp := gneg hp (by rw [hb70]; exact Bool.false_ne_true)
                           refine rs (v := .bool true) (ntf rfl) rfl ?_
                           refine rs (v := .bool true) (pkt (v := .bool true) rfl rfl) rfl ?_
                           refine rs (v := .bool true) (mv (v := .bool true) rfl) rfl ?_
                           refine rs (v := .pointer (some ⟨b15, 0, none⟩)) (mv (v := .pointer (some ⟨b15, 0, none⟩)) rfl) rfl ?_
                           replace hp := bind_some hp; obtain ⟨r71, hr71, hp⟩ := hp
                           refine rc (cl Try.call20 rfl rfl) rfl ?_
                           refine beat_Watch_Missing_any hc hr71 ?_
                           clear hc; intro a72 n73 q74 w75 hc
                           obtain ⟨u76, _⟩ := Ctx.rdLen hc (k := 0) rfl rfl reads_own; subst u76
                           refine rs (v := .int .i64 ((r71.length : Nat) : Int)) (ln rfl Try.underlying36) rfl ?_
                           refine rs (v := .int .i64 e7) (mv (v := .int .i64 e7) rfl) rfl ?_
                           refine rs (v := .bool (decide (((r71.length : Nat) : Int) = e7))) (eqd rfl rfl) rfl ?_
                           refine rs (v := .bool (decide (((r71.length : Nat) : Int) = e7))) (pkt (v := .bool (decide (((r71.length : Nat) : Int) = e7))) rfl rfl) rfl ?_
                           refine rs (v := .bool (decide (((r71.length : Nat) : Int) = e7))) (mv (v := .bool (decide (((r71.length : Nat) : Int) = e7))) rfl) rfl ?_
                           cases hb77 : (decide (((r71.length : Nat) : Int) = e7))
                           · replace hp := gneg hp (of_decide_eq_false hb77)
                             refine r0 rfl ?_
                             refine r0 rfl ?_
                             refine r0 rfl ?_
                             refine r0 rfl ?_
                             refine rs (v := .bool false) (pkf (v := .bool false) rfl rfl) rfl ?_
                             refine rs (v := .bool false) (mv (v := .bool false) rfl) rfl ?_
                             refine r0 rfl ?_
                             refine r0 rfl ?_
                             refine r0 rfl ?_
                             refine r0 rfl ?_
                             refine r0 rfl ?_
                             refine r0 rfl ?_
                             refine rs (v := .bool false) (pkf (v := .bool false) rfl rfl) rfl ?_
                             refine rs (v := .bool false) (av (v := .bool false) rfl) rfl ?_
                             refine rn ?_
                             refine qn ?_
                             refine Wret ?_
                             replace hc := hc.rem 2 rfl rfl
                             replace hc := hc.rem 1 rfl rfl
                             replace hc := hc.rem 0 rfl rfl
                             injection hp with hp; subst hp
                             refine f1 (v := .bool false) Try.results4 Try.ntmps4 rfl ?_
                             exact ⟨_, rfl, k _ hc⟩
                           · replace hp := gpos hp (of_decide_eq_true hb77)
                             refine rs (v := .pointer (some ⟨b15, 0, none⟩)) (mv (v := .pointer (some ⟨b15, 0, none⟩)) rfl) rfl ?_
                             refine rs (v := .int .i64 e35) (mv (v := .int .i64 e35) rfl) rfl ?_
                             replace hp := bind_some hp; obtain ⟨r78, hr78, hp⟩ := hp
                             replace hc := hc.pull 1 rfl rfl
                             refine rc (cl Try.call13 rfl rfl) rfl ?_
                             refine beat_Watch_Ready_any hc hr78 ?_
                             clear hc; intro w79 hc
                             cases hb80 : r78.1
                             · replace hp := gneg hp (by rw [hb80]; exact Bool.false_ne_true)
                               refine rs (v := .bool true) (ntf rfl) rfl ?_
                               refine rs (v := .bool true) (pkt (v := .bool true) rfl rfl) rfl ?_
                               refine rs (v := .bool true) (mv (v := .bool true) rfl) rfl ?_
                               refine rs (v := .pointer (some ⟨b15, 0, none⟩)) (mv (v := .pointer (some ⟨b15, 0, none⟩)) rfl) rfl ?_
                               replace hp := bind_some hp; obtain ⟨r81, hr81, hp⟩ := hp
                               refine rc (cl Try.call20 rfl rfl) rfl ?_
                               refine beat_Watch_Missing_any hc hr81 ?_
                               clear hc; intro a82 n83 q84 w85 hc
                               obtain ⟨u86, _⟩ := Ctx.rdLen hc (k := 0) rfl rfl reads_own; subst u86
                               refine rs (v := .int .i64 ((r81.length : Nat) : Int)) (ln rfl Try.underlying36) rfl ?_
                               refine rs (v := .int .i64 e7) (mv (v := .int .i64 e7) rfl) rfl ?_
                               refine rs (v := .int .i64 (IntKind.i64.wrap (e7 - 1))) (sbw rfl rfl) rfl ?_
                               refine rs (v := .bool (decide (((r81.length : Nat) : Int) = (IntKind.i64.wrap (e7 - 1))))) (eqd rfl rfl) rfl ?_
                               refine rs (v := .bool (decide (((r81.length : Nat) : Int) = (IntKind.i64.wrap (e7 - 1))))) (pkt (v := .bool (decide (((r81.length : Nat) : Int) = (IntKind.i64.wrap (e7 - 1))))) rfl rfl) rfl ?_
                               refine rs (v := .bool (decide (((r81.length : Nat) : Int) = (IntKind.i64.wrap (e7 - 1))))) (av (v := .bool (decide (((r81.length : Nat) : Int) = (IntKind.i64.wrap (e7 - 1))))) rfl) rfl ?_
                               refine rn ?_
                               refine qn ?_
                               refine Wret ?_
                               replace hc := hc.rem 3 rfl rfl
                               replace hc := hc.rem 2 rfl rfl
                               replace hc := hc.rem 1 rfl rfl
                               replace hc := hc.rem 0 rfl rfl
                               injection hp with hp; subst hp
                               refine f1 (v := .bool (decide (((r81.length : Nat) : Int) = (IntKind.i64.wrap (e7 - 1))))) Try.results4 Try.ntmps4 rfl ?_
                               exact ⟨_, rfl, k _ hc⟩
                             · replace hp := gpos hp hb80
                               refine rs (v := .bool false) (ntt rfl) rfl ?_
                               refine rs (v := .bool false) (pkt (v := .bool false) rfl rfl) rfl ?_
                               refine rs (v := .bool false) (mv (v := .bool false) rfl) rfl ?_
                               refine r0 rfl ?_
                               refine r0 rfl ?_
                               refine r0 rfl ?_
                               refine r0 rfl ?_
                               refine r0 rfl ?_
                               refine r0 rfl ?_
                               refine rs (v := .bool false) (pkf (v := .bool false) rfl rfl) rfl ?_
                               refine rs (v := .bool false) (av (v := .bool false) rfl) rfl ?_
                               refine rn ?_
                               refine qn ?_
                               refine Wret ?_
                               replace hc := hc.rem 2 rfl rfl
                               replace hc := hc.rem 1 rfl rfl
                               replace hc := hc.rem 0 rfl rfl
                               injection hp with hp; subst hp
                               refine f1 (v := .bool false) Try.results4 Try.ntmps4 rfl ?_
                               exact ⟨_, rfl, k _ hc⟩
                         · replace hp := gpos hp hb70
                           refine rs (v := .bool false) (ntt rfl) rfl ?_
                           refine rs (v := .bool false) (pkt (v := .bool false) rfl rfl) rfl ?_
                           refine rs (v := .bool false) (mv (v := .bool false) rfl) rfl ?_
                           refine r0 rfl ?_
                           refine r0 rfl ?_
                           refine r0 rfl ?_
                           refine r0 rfl ?_
                           refine r0 rfl ?_
                           refine rs (v := .bool false) (pkf (v := .bool false) rfl rfl) rfl ?_
                           refine rs (v := .bool false) (mv (v := .bool false) rfl) rfl ?_
                           refine r0 rfl ?_
                           refine r0 rfl ?_
                           refine r0 rfl ?_
                           refine r0 rfl ?_
                           refine rs (v := .bool false) (pkf (v := .bool false) rfl rfl) rfl ?_
                           refine rs (v := .bool false) (mv (v := .bool false) rfl) rfl ?_
                           refine r0 rfl ?_
                           refine r0 rfl ?_
                           refine r0 rfl ?_
                           refine r0 rfl ?_
                           refine r0 rfl ?_
                           refine r0 rfl ?_
                           refine rs (v := .bool false) (pkf (v := .bool false) rfl rfl) rfl ?_
                           refine rs (v := .bool false) (av (v := .bool false) rfl) rfl ?_
                           refine rn ?_
                           refine qn ?_
                           refine Wret ?_
                           replace hc := hc.rem 1 rfl rfl
                           replace hc := hc.rem 0 rfl rfl
                           injection hp with hp; subst hp
                           refine f1 (v := .bool false) Try.results4 Try.ntmps4 rfl ?_
                           exact ⟨_, rfl, k _ hc⟩
               · replace hp := gpos hp (of_decide_eq_true hb29)
                 refine r0 rfl ?_
                 refine r0 rfl ?_
                 refine r0 rfl ?_
                 refine rs (v := .bool true) (pkt (v := .bool true) rfl rfl) rfl ?_
                 refine rn ?_
                 refine qn ?_
                 refine Wct rfl ?_
                 refine Wseq ?_
                 refine Wreg ?_
                 refine rs (v := .bool false) (av (v := .bool false) rfl) rfl ?_
                 refine rn ?_
                 refine qn ?_
                 refine Wret ?_
                 refine qr ?_
                 replace hc := hc.rem 1 rfl rfl
                 replace hc := hc.rem 0 rfl rfl
                 injection hp with hp; subst hp
                 refine f1 (v := .bool false) Try.results4 Try.ntmps4 rfl ?_
                 exact ⟨_, rfl, k _ hc⟩
             · replace hp := gpos hp (of_decide_eq_true hb26)
               refine Wct rfl ?_
               refine Wskip ?_
               refine qn ?_
               refine Wseq ?_
               refine Wblk ?_
               refine Wseq ?_
               refine Wseq ?_
               refine Wreg ?_
               refine rs (v := .int .i64 1) (av (v := .int .i64 1) rfl) rfl ?_
               refine rn ?_
               refine qn ?_
               refine Wblk ?_
               refine Wloop [6, 14, 63, 64, 65, 66, 67, 68, 69] [14] (fun m vs w' => ∃ j87 : S_beat_Watch, ∃ j88 : Int, vs = [.int .i64 j88] ∧ law24_BeatStays.L7 N e7 e8 j24 (law24_BeatStays.L2 N x2 e7 e8 e22 m2) m j87 j88 = some r ∧ Ctx w' (S_beat_Watch.hp b15 j87 :: B b1 [.int .i64 x2.Rounds, .int .i64 x2.Who, .bool x2.Life] 45 :: Fr)) N ?_ ?_
               · exact ⟨j23, 1, rfl, hp, hc⟩
               · clear hp hc; intro m vs u w89 hJ
                 obtain ⟨j87, j88, rfl, hp, hc⟩ := hJ
                 rcases m with _ | m7
                 · cases (show none = some r from hp)
                 rw [law24_BeatStays.L7] at hp
                 refine Wseq ?_
                 refine Wseq ?_
                 refine Wreg ?_
                 refine rs (v := .int .i64 j88) (mv (v := .int .i64 j88) rfl) rfl ?_
                 refine rs (v := .int .i64 e8) (mv (v := .int .i64 e8) rfl) rfl ?_
                 refine rs (v := .bool (decide (j88 < e8))) (lt' rfl rfl) rfl ?_
                 refine rn ?_
                 refine qn ?_
                 cases hb90 : (decide (j88 < e8))
                 · replace hp := gneg hp (of_decide_eq_false hb90)
                   refine Wcf rfl ?_
                   refine Wexit ?_
                   refine qx ?_
                   refine qx ?_
                   refine be ?_
                   refine qn ?_
                   refine Wseq ?_
                   refine Wreg ?_
                   refine rs (v := .int .i64 0) (av (v := .int .i64 0) rfl) rfl ?_
                   refine rn ?_
                   refine qn ?_
                   refine Wblk ?_
                   refine Wloop [6, 15, 70, 71, 72, 73, 74, 75, 76, 77, 78, 79, 80, 81, 82, 83, 84, 85, 86] [15] (fun m vs w' => ∃ j91 : S_beat_Watch, ∃ j92 : Int, vs = [.int .i64 j92] ∧ law24_BeatStays.L8 e7 j24 (law24_BeatStays.L2 N x2 e7 e8 e22 m2) m j91 j92 = some r ∧ Ctx w' (S_beat_Watch.hp b15 j91 :: B b1 [.int .i64 x2.Rounds, .int .i64 x2.Who, .bool x2.Life] 45 :: Fr)) N ?_ ?_
                   · exact ⟨j87, 0, rfl, hp, hc⟩
                   · clear hp hc; intro m vs u w93 hJ
                     obtain ⟨j91, j92, rfl, hp, hc⟩ := hJ
                     rcases m with _ | m8
                     · cases (show none = some r from hp)
                     rw [law24_BeatStays.L8] at hp
                     refine Wseq ?_
                     refine Wseq ?_
                     refine Wreg ?_
                     refine rs (v := .int .i64 j92) (mv (v := .int .i64 j92) rfl) rfl ?_
                     refine rs (v := .int .i64 e7) (mv (v := .int .i64 e7) rfl) rfl ?_
                     refine rs (v := .bool (decide (j92 < e7))) (lt' rfl rfl) rfl ?_
                     refine rn ?_
                     refine qn ?_
                     cases hb94 : (decide (j92 < e7))
                     · replace hp := gneg hp (of_decide_eq_false hb94)
                       refine Wcf rfl ?_
                       refine Wexit ?_
                       refine qx ?_
                       refine qx ?_
                       refine be ?_
                       refine bn ?_
                       refine qn ?_
                       refine Wreg ?_
                       refine rs (v := .int .i64 j24) (mv (v := .int .i64 j24) rfl) rfl ?_
                       refine rs (v := .int .i64 (IntKind.i64.wrap (j24 + 1))) (adw rfl rfl) rfl ?_
                       refine rs (v := .int .i64 (IntKind.i64.wrap (j24 + 1))) (av (v := .int .i64 (IntKind.i64.wrap (j24 + 1))) rfl) rfl ?_
                       refine rn ?_
                       refine qn ?_
                       exact ⟨m2, Nat.lt_succ_self _, ⟨j91, (IntKind.i64.wrap (j24 + 1)), rfl, hp, hc⟩, (kl rfl (km rfl (kl rfl (km rfl (kl rfl k0)))))⟩
                     · replace hp := gpos hp (of_decide_eq_true hb94)
                       refine Wct rfl ?_
                       refine Wskip ?_
                       refine qn ?_
                       refine Wseq ?_
                       refine Wblk ?_
                       refine Wseq ?_
                       refine Wreg ?_
                       refine rs (v := .pointer (some ⟨b15, 0, none⟩)) (mv (v := .pointer (some ⟨b15, 0, none⟩)) rfl) rfl ?_
                       refine rs (v := .int .i64 j92) (mv (v := .int .i64 j92) rfl) rfl ?_
                       refine rs (v := .int .i64 j92) (mv (v := .int .i64 j92) rfl) rfl ?_
                       refine rs (v := .int .i64 (IntKind.i64.wrap (3 + j92))) (adw rfl rfl) rfl ?_
                       replace hp := bind_some hp; obtain ⟨r95, hr95, hp⟩ := hp
                       refine rc (cl Try.call11 rfl rfl) rfl ?_
                       refine beat_Watch_Beat_any hc hr95 ?_
                       clear hc; intro w96 hc
                       refine rs (v := .bool r95.1) (mv (v := .bool r95.1) rfl) rfl ?_
                       cases hb97 : r95.1
                       · replace hp := gneg hp (by rw [hb97]; exact Bool.false_ne_true)
                         refine rs (v := .pointer (some ⟨b15, 0, none⟩)) (mv (v := .pointer (some ⟨b15, 0, none⟩)) rfl) rfl ?_
                         refine rs (v := .int .i64 j92) (mv (v := .int .i64 j92) rfl) rfl ?_
                         refine rs (v := .int .i64 j92) (mv (v := .int .i64 j92) rfl) rfl ?_
                         refine rs (v := .int .i64 (IntKind.i64.wrap (3 + j92))) (adw rfl rfl) rfl ?_
                         replace hp := bind_some hp; obtain ⟨r98, hr98, hp⟩ := hp
                         refine rc (cl Try.call11 rfl rfl) rfl ?_
                         refine beat_Watch_Beat_any hc hr98 ?_
                         clear hc; intro w99 hc
                         refine rs (v := .bool r98.1) (pkf (v := .bool r98.1) rfl rfl) rfl ?_
                         refine rn ?_
                         refine qn ?_
                         cases hb100 : r98.1
                         · replace hp := gneg hp (by rw [hb100]; exact Bool.false_ne_true)
                           refine Wcf rfl ?_
                           refine Wskip ?_
                           refine bn ?_
                           refine qn ?_
                           refine Wreg ?_
                           refine rs (v := .int .i64 j92) (mv (v := .int .i64 j92) rfl) rfl ?_
                           refine rs (v := .int .i64 (IntKind.i64.wrap (j92 + 1))) (adw rfl rfl) rfl ?_
                           refine rs (v := .int .i64 (IntKind.i64.wrap (j92 + 1))) (av (v := .int .i64 (IntKind.i64.wrap (j92 + 1))) rfl) rfl ?_
                           refine rn ?_
                           refine qn ?_
                           exact ⟨m8, Nat.lt_succ_self _, ⟨r98.2, (IntKind.i64.wrap (j92 + 1)), rfl, hp, hc⟩, (kl rfl k0)⟩
                         · replace hp := gpos hp hb100
                           refine Wct rfl ?_
                           refine Wseq ?_
                           refine Wreg ?_
                           refine rs (v := .bool false) (av (v := .bool false) rfl) rfl ?_
                           refine rn ?_
                           refine qn ?_
                           refine Wret ?_
                           refine br ?_
                           refine qr ?_
                           refine qr ?_
                           refine br ?_
                           refine br ?_
                           refine qr ?_
                           refine qr ?_
                           refine br ?_
                           refine qr ?_
                           replace hc := hc.rem 1 rfl rfl
                           replace hc := hc.rem 0 rfl rfl
                           injection hp with hp; subst hp
                           refine f1 (v := .bool false) Try.results4 Try.ntmps4 rfl ?_
                           exact ⟨_, rfl, k _ hc⟩
                       · replace hp := gpos hp hb97
                         refine r0 rfl ?_
                         refine r0 rfl ?_
                         refine r0 rfl ?_
                         refine r0 rfl ?_
                         refine r0 rfl ?_
                         refine rs (v := .bool true) (pkt (v := .bool true) rfl rfl) rfl ?_
                         refine rn ?_
                         refine qn ?_
                         refine Wct rfl ?_
                         refine Wseq ?_
                         refine Wreg ?_
                         refine rs (v := .bool false) (av (v := .bool false) rfl) rfl ?_
                         refine rn ?_
                         refine qn ?_
                         refine Wret ?_
                         refine br ?_
                         refine qr ?_
                         refine qr ?_
                         refine br ?_
                         refine br ?_
                         refine qr ?_
                         refine qr ?_
                         refine br ?_
                         refine qr ?_
                         replace hc := hc.rem 1 rfl rfl
                         replace hc := hc.rem 0 rfl rfl
                         injection hp with hp; subst hp
                         refine f1 (v := .bool false) Try.results4 Try.ntmps4 rfl ?_
                         exact ⟨_, rfl, k _ hc⟩
                 · replace hp := gpos hp (of_decide_eq_true hb90)
                   refine Wct rfl ?_
                   refine Wskip ?_
                   refine qn ?_
                   refine Wseq ?_
                   refine Wblk ?_
                   refine Wseq ?_
                   refine Wreg ?_
                   refine rs (v := .pointer (some ⟨b15, 0, none⟩)) (mv (v := .pointer (some ⟨b15, 0, none⟩)) rfl) rfl ?_
                   replace hp := bind_some hp; obtain ⟨r101, hr101, hp⟩ := hp
                   refine rc (cl Try.call9 rfl rfl) rfl ?_
                   refine beat_Watch_Tick_any hc hr101 ?_
                   clear hc; intro w102 hc
                   refine rn ?_
                   refine qn ?_
                   cases hb103 : r101.1
                   · replace hp := gneg hp (by rw [hb103]; exact Bool.false_ne_true)
                     refine Wcf rfl ?_
                     refine Wskip ?_
                     refine bn ?_
                     refine qn ?_
                     refine Wreg ?_
                     refine rs (v := .int .i64 j88) (mv (v := .int .i64 j88) rfl) rfl ?_
                     refine rs (v := .int .i64 (IntKind.i64.wrap (j88 + 1))) (adw rfl rfl) rfl ?_
                     refine rs (v := .int .i64 (IntKind.i64.wrap (j88 + 1))) (av (v := .int .i64 (IntKind.i64.wrap (j88 + 1))) rfl) rfl ?_
                     refine rn ?_
                     refine qn ?_
                     exact ⟨m7, Nat.lt_succ_self _, ⟨r101.2, (IntKind.i64.wrap (j88 + 1)), rfl, hp, hc⟩, (kl rfl k0)⟩
                   · replace hp := gpos hp hb103
                     refine Wct rfl ?_
                     refine Wseq ?_
                     refine Wreg ?_
                     refine rs (v := .bool false) (av (v := .bool false) rfl) rfl ?_
                     refine rn ?_
                     refine qn ?_
                     refine Wret ?_
                     refine br ?_
                     refine qr ?_
                     refine qr ?_
                     refine br ?_
                     refine qr ?_
                     refine br ?_
                     refine qr ?_
                     refine qr ?_
                     refine br ?_
                     refine qr ?_
                     replace hc := hc.rem 1 rfl rfl
                     replace hc := hc.rem 0 rfl rfl
                     injection hp with hp; subst hp
                     refine f1 (v := .bool false) Try.results4 Try.ntmps4 rfl ?_
                     exact ⟨_, rfl, k _ hc⟩
         · replace hp := gpos hp (of_decide_eq_true hb21)
           refine Wct rfl ?_
           refine Wskip ?_
           refine qn ?_
           refine Wseq ?_
           refine Wblk ?_
           refine Wseq ?_
           refine Wreg ?_
           refine rs (v := .pointer (some ⟨b15, 0, none⟩)) (mv (v := .pointer (some ⟨b15, 0, none⟩)) rfl) rfl ?_
           refine rs (v := .int .i64 j19) (mv (v := .int .i64 j19) rfl) rfl ?_
           refine rs (v := .int .i64 j19) (mv (v := .int .i64 j19) rfl) rfl ?_
           refine rs (v := .int .i64 (IntKind.i64.wrap (3 + j19))) (adw rfl rfl) rfl ?_
           replace hp := bind_some hp; obtain ⟨r104, hr104, hp⟩ := hp
           refine rc (cl Try.call13 rfl rfl) rfl ?_
           refine beat_Watch_Ready_any hc hr104 ?_
           clear hc; intro w105 hc
           refine rn ?_
           refine qn ?_
           cases hb106 : r104.1
           · replace hp := gneg hp (by rw [hb106]; exact Bool.false_ne_true)
             refine Wcf rfl ?_
             refine Wskip ?_
             refine bn ?_
             refine qn ?_
             refine Wreg ?_
             refine rs (v := .int .i64 j19) (mv (v := .int .i64 j19) rfl) rfl ?_
             refine rs (v := .int .i64 (IntKind.i64.wrap (j19 + 1))) (adw rfl rfl) rfl ?_
             refine rs (v := .int .i64 (IntKind.i64.wrap (j19 + 1))) (av (v := .int .i64 (IntKind.i64.wrap (j19 + 1))) rfl) rfl ?_
             refine rn ?_
             refine qn ?_
             exact ⟨m1, Nat.lt_succ_self _, ⟨r104.2, (IntKind.i64.wrap (j19 + 1)), rfl, hp, hc⟩, (kl rfl k0)⟩
           · replace hp := gpos hp hb106
             refine Wct rfl ?_
             refine Wseq ?_
             refine Wreg ?_
             refine rs (v := .bool false) (av (v := .bool false) rfl) rfl ?_
             refine rn ?_
             refine qn ?_
             refine Wret ?_
             refine br ?_
             refine qr ?_
             refine qr ?_
             refine br ?_
             refine qr ?_
             replace hc := hc.rem 1 rfl rfl
             replace hc := hc.rem 0 rfl rfl
             injection hp with hp; subst hp
             refine f1 (v := .bool false) Try.results4 Try.ntmps4 rfl ?_
             exact ⟨_, rfl, k _ hc⟩
     · replace hp := gpos hp (of_decide_eq_true hb17)
       refine Wct rfl ?_
       refine Wseq ?_
       refine Wreg ?_
       refine rs (v := .bool false) (av (v := .bool false) rfl) rfl ?_
       refine rn ?_
       refine qn ?_
       refine Wret ?_
       refine qr ?_
       replace hc := hc.rem 1 rfl rfl
       replace hc := hc.rem 0 rfl rfl
       injection hp with hp; subst hp
       refine f1 (v := .bool false) Try.results4 Try.ntmps4 rfl ?_
       exact ⟨_, rfl, k _ hc⟩

-- FN peloton/pelotonlaw24.BeatRises
def law24_BeatRises.J4 (j18 : Int) (j23 : S_beat_Watch) (k1 : S_beat_Watch → Int → Option (Bool)) (j55 : Bool) : Option (Bool) :=
  if j55 = true then
    some false
  else
    k1 j23 (IntKind.i64.wrap (j18 + 1))

def law24_BeatRises.J3 (N : Nat) (e7 : Int) (j18 : Int) (j23 : S_beat_Watch) (j24 : Bool) (k1 : S_beat_Watch → Int → Option (Bool)) (j52 : Int) : Option (Bool) :=
  (beat_Watch_Epoch j23).bind fun r56 =>
  if r56 ≠ j52 then
    law24_BeatRises.J4 j18 j23 k1 true
  else
    if j24 = true then
      (beat_Watch_Missing N j23).bind fun r60 =>
      if ((r60.length : Nat) : Int) ≠ e7 then
        law24_BeatRises.J4 j18 j23 k1 true
      else
        (beat_Watch_Late N j23).bind fun r67 =>
        law24_BeatRises.J4 j18 j23 k1 (decide (((r67.length : Nat) : Int) ≠ 0))
    else
      law24_BeatRises.J4 j18 j23 k1 false

def law24_BeatRises.J2 (N : Nat) (e7 : Int) (j18 : Int) (r21 : (Int)) (k1 : S_beat_Watch → Int → Option (Bool)) (j23 : S_beat_Watch) (j24 : Bool) : Option (Bool) :=
  if j24 = true then
    law24_BeatRises.J3 N e7 j18 j23 j24 k1 (IntKind.i64.wrap (r21 + 1))
  else
    law24_BeatRises.J3 N e7 j18 j23 j24 k1 r21

def law24_BeatRises.L1 (N : Nat) (x1 : (List S_law24_Act)) (e7 : Int) : Nat → S_beat_Watch → Int → Option (Bool)
  | 0, _, _ => none
  | m1 + 1, j17, j18 =>
    if j18 < ((x1.length : Nat) : Int) then
      (beat_Watch_Epoch j17).bind fun r21 =>
      (idx x1 j18).bind fun y25 =>
      if y25.Kind = 0 then
        (beat_Watch_Tick N j17).bind fun r49 =>
        law24_BeatRises.J2 N e7 j18 r21 (law24_BeatRises.L1 N x1 e7 m1) r49.2 r49.1
      else
        if y25.Kind = 1 then
          (beat_Watch_Beat j17 y25.Worker y25.Epoch y25.Life).bind fun r47 =>
          law24_BeatRises.J2 N e7 j18 r21 (law24_BeatRises.L1 N x1 e7 m1) r47.2 r47.1
        else
          if y25.Kind = 2 then
            (beat_Watch_Ready j17 y25.Worker y25.Epoch y25.Life).bind fun r45 =>
            law24_BeatRises.J2 N e7 j18 r21 (law24_BeatRises.L1 N x1 e7 m1) r45.2 r45.1
          else
            if y25.Kind = 3 then
              (beat_Watch_Bump j17).bind fun r42 =>
              if r42.1 = (IntKind.i64.wrap (r21 + 1)) then
                law24_BeatRises.J2 N e7 j18 r21 (law24_BeatRises.L1 N x1 e7 m1) r42.2 true
              else
                some false
            else
              law24_BeatRises.J2 N e7 j18 r21 (law24_BeatRises.L1 N x1 e7 m1) j17 false
    else
      some true

def law24_BeatRises (N : Nat) (x0 : Int) (x1 : (List S_law24_Act)) : Option (Bool) :=
  (law24_awake N).bind fun r1 =>
  if r1 = true then
    if ((x1.length : Nat) : Int) > 200 then
      (law24_awake N).bind fun r75 =>
      some r75
    else
      (some (IntKind.i64.wrap (1 + (Int.tmod (IntKind.i64.wrap ((Int.tmod x0 6) + 6)) 6)))).bind fun e7 =>
      (beat_New e7 3).bind fun r8 =>
      optc r8.1 (
        some false) fun y12 =>
      if r8.2 ≠ 0 then
        some false
      else
        law24_BeatRises.L1 N x1 e7 N y12 0
  else
    (law24_awake N).bind fun r4 =>
    some r4

set_option maxHeartbeats 2000000 in
theorem law24_BeatRises_any {N : Nat} {x0 : Int} {x1 : (List S_law24_Act)} {ax1 : Option Addr} {nx1 : Nat} {qx1 : Nat} {P1 : HP} {Fr : List HP} {w : World} {r : Bool} {K : Value → World → Prop} (hrd1 : Reads P1 S_law24_Act.pr (.slice ax1 nx1 qx1) x1) (hc : Ctx w (P1 :: Fr)) (hp : law24_BeatRises N x0 x1 = some r)
    (k : ∀ w', Ctx w' (P1 :: Fr) → K (.bool r) w') : Calls Try.prog 5 #[.int .i64 x0, .slice ax1 nx1 qx1] w (Ret K) := by
 unfold law24_BeatRises at hp
 refine Center (args := [.int .i64 x0, .slice ax1 nx1 qx1]) (l := [(0, .int .i64 x0), (1, .slice ax1 nx1 qx1)]) Try.func5 Try.ntmps5 rfl rfl rfl ?_
 obtain ⟨hn1, _⟩ := Ctx.rdLen hc (k := 0) rfl rfl hrd1; subst hn1
 refine Wseq ?_
 refine Wreg ?_
 refine rs (v := .bool false) (av (v := .bool false) rfl) rfl ?_
 refine rn ?_
 refine qn ?_
 refine Wseq ?_
 refine Wseq ?_
 refine Wreg ?_
 replace hp := bind_some hp; obtain ⟨r1, hr1, hp⟩ := hp
 refine rc (cl Try.call6 rfl rfl) rfl ?_
 refine law24_awake_any hc hr1 ?_
 clear hc; intro w2 hc
 cases hb3 : r1
 · replace hp := gneg hp (by rw [hb3]; exact Bool.false_ne_true)
   subst hb3
   refine rs (v := .bool true) (ntf rfl) rfl ?_
   refine rs (v := .bool true) (mv (v := .bool true) rfl) rfl ?_
   refine r0 rfl ?_
   refine r0 rfl ?_
   refine r0 rfl ?_
   refine rs (v := .bool true) (pkt (v := .bool true) rfl rfl) rfl ?_
   refine rn ?_
   refine qn ?_
   refine Wct rfl ?_
   refine Wseq ?_
   refine Wreg ?_
   replace hp := bind_some hp; obtain ⟨r4, hr4, hp⟩ := hp
   refine rc (cl Try.call6 rfl rfl) rfl ?_
   refine law24_awake_any hc hr4 ?_
   clear hc; intro w5 hc
   refine rs (v := .bool r4) (av (v := .bool r4) rfl) rfl ?_
   refine rn ?_
   refine qn ?_
   refine Wret ?_
   refine qr ?_
   injection hp with hp; subst hp
   refine f1 (v := .bool r4) Try.results5 Try.ntmps5 rfl ?_
   exact ⟨_, rfl, k _ hc⟩
 · replace hp := gpos hp hb3
   subst hb3
   refine rs (v := .bool false) (ntt rfl) rfl ?_
   refine rs (v := .bool false) (mv (v := .bool false) rfl) rfl ?_
   refine rs (v := .slice ax1 x1.length qx1) (mv (v := .slice ax1 x1.length qx1) rfl) rfl ?_
   refine rs (v := .int .i64 ((x1.length : Nat) : Int)) (ln rfl Try.underlying22) rfl ?_
   refine rs (v := .bool (decide (((x1.length : Nat) : Int) > 200))) (gt' rfl rfl) rfl ?_
   refine rs (v := .bool (decide (((x1.length : Nat) : Int) > 200))) (pkf (v := .bool (decide (((x1.length : Nat) : Int) > 200))) rfl rfl) rfl ?_
   refine rn ?_
   refine qn ?_
   cases hb6 : (decide (((x1.length : Nat) : Int) > 200))
   · replace hp := gneg hp (of_decide_eq_false hb6)
     refine Wcf rfl ?_
     refine Wskip ?_
     refine qn ?_
     refine Wseq ?_
     refine Wreg ?_
     refine rs (v := .int .i64 x0) (mv (v := .int .i64 x0) rfl) rfl ?_
     refine rs (v := .int .i64 (Int.tmod x0 6)) (rm rfl rfl (by decide)) rfl ?_
     refine rs (v := .int .i64 (IntKind.i64.wrap ((Int.tmod x0 6) + 6))) (adw rfl rfl) rfl ?_
     refine rs (v := .int .i64 (Int.tmod (IntKind.i64.wrap ((Int.tmod x0 6) + 6)) 6)) (rm rfl rfl (by decide)) rfl ?_
     refine rs (v := .int .i64 (IntKind.i64.wrap (1 + (Int.tmod (IntKind.i64.wrap ((Int.tmod x0 6) + 6)) 6)))) (adw rfl rfl) rfl ?_
     replace hp := bind_some hp; obtain ⟨e7, he7, hp⟩ := hp
     injection he7 with he7
     refine rs (v := .int .i64 e7) (av (v := .int .i64 e7) (by rw [← he7]; rfl)) rfl ?_
     refine rn ?_
     refine qn ?_
     refine Wseq ?_
     refine Wreg ?_
     refine rs (v := .int .i64 e7) (mv (v := .int .i64 e7) rfl) rfl ?_
     replace hp := bind_some hp; obtain ⟨r8, hr8, hp⟩ := hp
     refine rc (cl Try.call7 rfl rfl) rfl ?_
     refine beat_New_any hc hr8 ?_
     clear hc; intro v9 w10 hc
     refine rs (v := .tuple #[v9, .int .i64 r8.2]) (mv (v := .tuple #[v9, .int .i64 r8.2]) rfl) rfl ?_
     refine rs (v := v9) (ext (v := v9) rfl rfl) rfl ?_
     refine rs (v := .int .i64 r8.2) (ext (v := .int .i64 r8.2) rfl rfl) rfl ?_
     refine rs (v := v9) (av (v := v9) rfl) rfl ?_
     refine rs (v := .int .i64 r8.2) (av (v := .int .i64 r8.2) rfl) rfl ?_
     refine rn ?_
     refine qn ?_
     refine Wseq ?_
     refine Wseq ?_
     refine Wreg ?_
     refine rs (v := v9) (mv (v := v9) rfl) rfl ?_
     cases hb11 : r8.1
     · replace hp := optN hp hb11
       rw [hb11] at hc
       replace hc := Ctx.ptoN hc; obtain ⟨u13, hc⟩ := hc; subst u13
       refine rs (v := .bool true) (ept Try.underlying24 rfl rfl) rfl ?_
       refine rs (v := .bool true) (mv (v := .bool true) rfl) rfl ?_
       refine r0 rfl ?_
       refine r0 rfl ?_
       refine rs (v := .bool true) (pkt (v := .bool true) rfl rfl) rfl ?_
       refine rn ?_
       refine qn ?_
       refine Wct rfl ?_
       refine Wseq ?_
       refine Wreg ?_
       refine rs (v := .bool false) (av (v := .bool false) rfl) rfl ?_
       refine rn ?_
       refine qn ?_
       refine Wret ?_
       refine qr ?_
       injection hp with hp; subst hp
       refine f1 (v := .bool false) Try.results5 Try.ntmps5 rfl ?_
       exact ⟨_, rfl, k _ hc⟩
     · rename_i y12
       replace hp := optS hp hb11
       rw [hb11] at hc
       replace hc := Ctx.ptoS hc; obtain ⟨b14, u15, hc⟩ := hc; subst u15
       refine rs (v := .bool false) (epf Try.underlying24 rfl rfl) rfl ?_
       refine rs (v := .bool false) (mv (v := .bool false) rfl) rfl ?_
       refine rs (v := .int .i64 r8.2) (mv (v := .int .i64 r8.2) rfl) rfl ?_
       refine rs (v := .bool (decide (r8.2 ≠ 0))) (ned rfl rfl) rfl ?_
       refine rs (v := .bool (decide (r8.2 ≠ 0))) (pkf (v := .bool (decide (r8.2 ≠ 0))) rfl rfl) rfl ?_
       refine rn ?_
       refine qn ?_
       cases hb16 : (decide (r8.2 ≠ 0))
       · replace hp := gneg hp (of_decide_eq_false hb16)
         refine Wcf rfl ?_
         refine Wskip ?_
         refine qn ?_
         refine Wseq ?_
         refine Wseq ?_
         refine Wreg ?_
         refine rs (v := .int .i64 0) (av (v := .int .i64 0) rfl) rfl ?_
         refine rn ?_
         refine qn ?_
         refine Wblk ?_
         refine Wloop [4, 8, 9, 10, 11, 12, 37, 38, 39, 40, 41, 42, 43, 44, 45, 46, 47, 48, 49, 50, 51, 52, 53, 54, 55, 56, 57, 58, 59, 60, 61, 62, 63, 64, 65, 66, 67, 68, 69, 70, 71, 72, 73, 74, 75, 76, 77, 78, 79, 80, 81, 82, 83, 84, 85, 86, 87, 88, 89, 90, 91, 92, 93, 94, 95, 96, 97, 98, 99, 100, 101, 102, 103, 104, 105, 106, 107] [8] (fun m vs w' => ∃ j17 : S_beat_Watch, ∃ j18 : Int, vs = [.int .i64 j18] ∧ law24_BeatRises.L1 N x1 e7 m j17 j18 = some r ∧ Ctx w' (S_beat_Watch.hp b14 j17 :: P1 :: Fr)) N ?_ ?_
         · exact ⟨y12, 0, rfl, hp, hc⟩
         · clear hp hc; intro m vs u w19 hJ
           obtain ⟨j17, j18, rfl, hp, hc⟩ := hJ
           rcases m with _ | m1
           · cases (show none = some r from hp)
           rw [law24_BeatRises.L1] at hp
           refine Wseq ?_
           refine Wseq ?_
           refine Wreg ?_
           refine rs (v := .int .i64 j18) (mv (v := .int .i64 j18) rfl) rfl ?_
           refine rs (v := .slice ax1 x1.length qx1) (mv (v := .slice ax1 x1.length qx1) rfl) rfl ?_
           refine rs (v := .int .i64 ((x1.length : Nat) : Int)) (ln rfl Try.underlying22) rfl ?_
           refine rs (v := .bool (decide (j18 < ((x1.length : Nat) : Int)))) (lt' rfl rfl) rfl ?_
           refine rn ?_
           refine qn ?_
           cases hb20 : (decide (j18 < ((x1.length : Nat) : Int)))
           · replace hp := gneg hp (of_decide_eq_false hb20)
             refine Wcf rfl ?_
             refine Wexit ?_
             refine qx ?_
             refine qx ?_
             refine be ?_
             refine qn ?_
             refine Wseq ?_
             refine Wreg ?_
             refine rs (v := .bool true) (av (v := .bool true) rfl) rfl ?_
             refine rn ?_
             refine qn ?_
             refine Wret ?_
             replace hc := hc.rem 0 rfl rfl
             injection hp with hp; subst hp
             refine f1 (v := .bool true) Try.results5 Try.ntmps5 rfl ?_
             exact ⟨_, rfl, k _ hc⟩
           · replace hp := gpos hp (of_decide_eq_true hb20)
             refine Wct rfl ?_
             refine Wskip ?_
             refine qn ?_
             refine Wseq ?_
             refine Wblk ?_
             refine Wseq ?_
             refine Wreg ?_
             refine rs (v := .pointer (some ⟨b14, 0, none⟩)) (mv (v := .pointer (some ⟨b14, 0, none⟩)) rfl) rfl ?_
             replace hp := bind_some hp; obtain ⟨r21, hr21, hp⟩ := hp
             refine rc (cl Try.call17 rfl rfl) rfl ?_
             refine beat_Watch_Epoch_any hc hr21 ?_
             clear hc; intro w22 hc
             refine rs (v := .int .i64 r21) (av (v := .int .i64 r21) rfl) rfl ?_
             refine rn ?_
             refine qn ?_
             refine Wseq ?_
             refine Wreg ?_
             refine rs (v := .bool false) (av (v := .bool false) rfl) rfl ?_
             refine rn ?_
             refine qn ?_
             refine Wseqm [4, 10, 11, 45, 46, 47, 48, 49, 50, 51, 52, 53, 54, 55, 56, 57, 58, 59, 60, 61, 62, 63, 64, 65, 66, 67, 68, 69, 70, 71, 72, 73, 74, 75, 76, 77, 78, 79, 80, 81, 82, 83] [10] (fun vs w' => ∃ j23 : S_beat_Watch, ∃ j24 : Bool, vs = [.bool j24] ∧ law24_BeatRises.J2 N e7 j18 r21 (law24_BeatRises.L1 N x1 e7 m1) j23 j24 = some r ∧ Ctx w' (S_beat_Watch.hp b14 j23 :: P1 :: Fr)) ?_ ?_
             · refine Wseq ?_
               refine Wreg ?_
               refine rs (v := .slice ax1 x1.length qx1) (mv (v := .slice ax1 x1.length qx1) rfl) rfl ?_
               refine rs (v := .int .i64 j18) (mv (v := .int .i64 j18) rfl) rfl ?_
               replace hp := bind_some hp; obtain ⟨y25, hy25, hp⟩ := hp
               obtain ⟨b28, o29, u30, hi26, hi27⟩ := Ctx.rdAt hc (k := 1) rfl rfl hrd1 hy25
               subst u30
               refine rs (v := .pointer (some ⟨b28, o29 + (j18).toNat * 4, none⟩)) (ixx rfl rfl Try.underlying22 Try.sizeOf31 hi26 hi27 rfl) rfl ?_
               replace hc := Ctx.rdCell hc (k := 1) rfl rfl hrd1 hy25; obtain ⟨cs31, hc, hcell32⟩ := hc
               replace hc := Ctx.holdC hc; obtain ⟨u33, hc⟩ := hc; subst u33
               refine rs (v := .agg #[.int .i64 y25.Kind, .int .i64 y25.Worker, .int .i64 y25.Epoch, .int .i64 y25.Life]) (ldg rfl Try.isAgg31 Try.sizeOf31 rfl (elCells hcell32 0 (vs := [.int .i64 y25.Kind, .int .i64 y25.Worker, .int .i64 y25.Epoch, .int .i64 y25.Life]) rfl)) rfl ?_
               refine rsE (Ctx.allocOp (cs := [.int .i64 0, .int .i64 0, .int .i64 0, .int .i64 0]) hc Try.zeroValue31 rfl) rfl ?_
               clear hc; rintro _ w36 ⟨b34, rfl, hc⟩
               refine ruE (A := fun w' => Ctx w' (B b34 [.int .i64 y25.Kind, .int .i64 y25.Worker, .int .i64 y25.Epoch, .int .i64 y25.Life] 31 :: S_beat_Watch.hp b14 j17 :: P1 :: Fr)) (Ctx.putAgg hc (k := 0) rfl rfl (vs := [.int .i64 y25.Kind, .int .i64 y25.Worker, .int .i64 y25.Epoch, .int .i64 y25.Life]) rfl rfl rfl Try.sizeOf31 rfl rfl rfl) rfl ?_
               clear hc; rintro w37 hc
               refine rn ?_
               refine qn ?_
               refine Wseq ?_
               refine Wreg ?_
               refine rs (v := .pointer (some ⟨b34, 0, none⟩)) (fax 0 rfl Try.underlying31 rfl Try.sizeOf3 rfl rfl rfl) rfl ?_
               refine rs (v := .int .i64 y25.Kind) (ld rfl Try.isAgg3 (Ctx.cell hc (k := 0) rfl rfl rfl)) rfl ?_
               refine rn ?_
               refine qn ?_
               refine Wblk ?_
               refine Wseq ?_
               refine Wreg ?_
               refine rs (v := .bool (decide (y25.Kind = 0))) (eqd rfl rfl) rfl ?_
               refine rs (v := .bool (decide (y25.Kind = 0))) (av (v := .bool (decide (y25.Kind = 0))) rfl) rfl ?_
               refine rn ?_
               refine qn ?_
               cases hb38 : (decide (y25.Kind = 0))
               · replace hp := gneg hp (of_decide_eq_false hb38)
                 refine Wcf rfl ?_
                 refine Wseq ?_
                 refine Wreg ?_
                 refine rs (v := .bool (decide (y25.Kind = 1))) (eqd rfl rfl) rfl ?_
                 refine rs (v := .bool (decide (y25.Kind = 1))) (av (v := .bool (decide (y25.Kind = 1))) rfl) rfl ?_
                 refine rn ?_
                 refine qn ?_
                 cases hb39 : (decide (y25.Kind = 1))
                 · replace hp := gneg hp (of_decide_eq_false hb39)
                   refine Wcf rfl ?_
                   refine Wseq ?_
                   refine Wreg ?_
                   refine rs (v := .bool (decide (y25.Kind = 2))) (eqd rfl rfl) rfl ?_
                   refine rs (v := .bool (decide (y25.Kind = 2))) (av (v := .bool (decide (y25.Kind = 2))) rfl) rfl ?_
                   refine rn ?_
                   refine qn ?_
                   cases hb40 : (decide (y25.Kind = 2))
                   · replace hp := gneg hp (of_decide_eq_false hb40)
                     refine Wcf rfl ?_
                     refine Wseq ?_
                     refine Wreg ?_
                     refine rs (v := .bool (decide (y25.Kind = 3))) (eqd rfl rfl) rfl ?_
                     refine rs (v := .bool (decide (y25.Kind = 3))) (av (v := .bool (decide (y25.Kind = 3))) rfl) rfl ?_
                     refine rn ?_
                     refine qn ?_
                     cases hb41 : (decide (y25.Kind = 3))
                     · replace hp := gneg hp (of_decide_eq_false hb41)
                       refine Wcf rfl ?_
                       refine Wskip ?_
                       refine bn ?_
                       refine qn ?_
                       replace hc := hc.rem 0 rfl rfl
                       exact ⟨⟨j17, false, rfl, hp, hc⟩, (kl rfl kb)⟩
                     · replace hp := gpos hp (of_decide_eq_true hb41)
                       refine Wct rfl ?_
                       refine Wseq ?_
                       refine Wreg ?_
                       refine rs (v := .pointer (some ⟨b14, 0, none⟩)) (mv (v := .pointer (some ⟨b14, 0, none⟩)) rfl) rfl ?_
                       replace hp := bind_some hp; obtain ⟨r42, hr42, hp⟩ := hp
                       replace hc := hc.pull 1 rfl rfl
                       refine rc (cl Try.call15 rfl rfl) rfl ?_
                       refine beat_Watch_Bump_any hc hr42 ?_
                       clear hc; intro w43 hc
                       refine rs (v := .int .i64 r21) (mv (v := .int .i64 r21) rfl) rfl ?_
                       refine rs (v := .int .i64 (IntKind.i64.wrap (r21 + 1))) (adw rfl rfl) rfl ?_
                       refine rs (v := .bool (decide (r42.1 = (IntKind.i64.wrap (r21 + 1))))) (eqd rfl rfl) rfl ?_
                       refine rs (v := .bool (decide (r42.1 = (IntKind.i64.wrap (r21 + 1))))) (av (v := .bool (decide (r42.1 = (IntKind.i64.wrap (r21 + 1))))) rfl) rfl ?_
                       refine rn ?_
                       refine qn ?_
                       refine Wseq ?_
                       refine Wreg ?_
                       refine rs (v := .bool (decide (r42.1 = (IntKind.i64.wrap (r21 + 1))))) (mv (v := .bool (decide (r42.1 = (IntKind.i64.wrap (r21 + 1))))) rfl) rfl ?_
                       cases hb44 : (decide (r42.1 = (IntKind.i64.wrap (r21 + 1))))
                       · replace hp := gneg hp (of_decide_eq_false hb44)
                         refine rs (v := .bool true) (ntf rfl) rfl ?_
                         refine rn ?_
                         refine qn ?_
                         refine Wct rfl ?_
                         refine Wseq ?_
                         refine Wreg ?_
                         refine rs (v := .bool false) (av (v := .bool false) rfl) rfl ?_
                         refine rn ?_
                         refine qn ?_
                         refine Wret ?_
                         refine br ?_
                         refine qr ?_
                         refine br ?_
                         refine qr ?_
                         refine qr ?_
                         refine br ?_
                         refine qr ?_
                         replace hc := hc.rem 1 rfl rfl
                         replace hc := hc.rem 0 rfl rfl
                         injection hp with hp; subst hp
                         refine f1 (v := .bool false) Try.results5 Try.ntmps5 rfl ?_
                         exact ⟨_, rfl, k _ hc⟩
                       · replace hp := gpos hp (of_decide_eq_true hb44)
                         refine rs (v := .bool false) (ntt rfl) rfl ?_
                         refine rn ?_
                         refine qn ?_
                         refine Wcf rfl ?_
                         refine Wskip ?_
                         refine bn ?_
                         refine qn ?_
                         replace hc := hc.rem 1 rfl rfl
                         exact ⟨⟨r42.2, true, rfl, hp, hc⟩, (kl rfl kb)⟩
                   · replace hp := gpos hp (of_decide_eq_true hb40)
                     refine Wct rfl ?_
                     refine Wreg ?_
                     refine rs (v := .pointer (some ⟨b14, 0, none⟩)) (mv (v := .pointer (some ⟨b14, 0, none⟩)) rfl) rfl ?_
                     refine rs (v := .pointer (some ⟨b34, 1, none⟩)) (fax 1 rfl Try.underlying31 rfl Try.sizeOf3 rfl rfl rfl) rfl ?_
                     refine rs (v := .int .i64 y25.Worker) (ld rfl Try.isAgg3 (Ctx.cell hc (k := 0) rfl rfl rfl)) rfl ?_
                     refine rs (v := .pointer (some ⟨b34, 2, none⟩)) (fax 2 rfl Try.underlying31 rfl Try.sizeOf3 rfl rfl rfl) rfl ?_
                     refine rs (v := .int .i64 y25.Epoch) (ld rfl Try.isAgg3 (Ctx.cell hc (k := 0) rfl rfl rfl)) rfl ?_
                     refine rs (v := .pointer (some ⟨b34, 3, none⟩)) (fax 3 rfl Try.underlying31 rfl Try.sizeOf3 rfl rfl rfl) rfl ?_
                     refine rs (v := .int .i64 y25.Life) (ld rfl Try.isAgg3 (Ctx.cell hc (k := 0) rfl rfl rfl)) rfl ?_
                     replace hp := bind_some hp; obtain ⟨r45, hr45, hp⟩ := hp
                     replace hc := hc.pull 1 rfl rfl
                     refine rc (cl Try.call13 rfl rfl) rfl ?_
                     refine beat_Watch_Ready_any hc hr45 ?_
                     clear hc; intro w46 hc
                     refine rs (v := .bool r45.1) (av (v := .bool r45.1) rfl) rfl ?_
                     refine rn ?_
                     refine bn ?_
                     refine qn ?_
                     replace hc := hc.rem 1 rfl rfl
                     exact ⟨⟨r45.2, r45.1, rfl, hp, hc⟩, (kl rfl kb)⟩
                 · replace hp := gpos hp (of_decide_eq_true hb39)
                   refine Wct rfl ?_
                   refine Wreg ?_
                   refine rs (v := .pointer (some ⟨b14, 0, none⟩)) (mv (v := .pointer (some ⟨b14, 0, none⟩)) rfl) rfl ?_
                   refine rs (v := .pointer (some ⟨b34, 1, none⟩)) (fax 1 rfl Try.underlying31 rfl Try.sizeOf3 rfl rfl rfl) rfl ?_
                   refine rs (v := .int .i64 y25.Worker) (ld rfl Try.isAgg3 (Ctx.cell hc (k := 0) rfl rfl rfl)) rfl ?_
                   refine rs (v := .pointer (some ⟨b34, 2, none⟩)) (fax 2 rfl Try.underlying31 rfl Try.sizeOf3 rfl rfl rfl) rfl ?_
                   refine rs (v := .int .i64 y25.Epoch) (ld rfl Try.isAgg3 (Ctx.cell hc (k := 0) rfl rfl rfl)) rfl ?_
                   refine rs (v := .pointer (some ⟨b34, 3, none⟩)) (fax 3 rfl Try.underlying31 rfl Try.sizeOf3 rfl rfl rfl) rfl ?_
                   refine rs (v := .int .i64 y25.Life) (ld rfl Try.isAgg3 (Ctx.cell hc (k := 0) rfl rfl rfl)) rfl ?_
                   replace hp := bind_some hp; obtain ⟨r47, hr47, hp⟩ := hp
                   replace hc := hc.pull 1 rfl rfl
                   refine rc (cl Try.call11 rfl rfl) rfl ?_
                   refine beat_Watch_Beat_any hc hr47 ?_
                   clear hc; intro w48 hc
                   refine rs (v := .bool r47.1) (av (v := .bool r47.1) rfl) rfl ?_
                   refine rn ?_
                   refine bn ?_
                   refine qn ?_
                   replace hc := hc.rem 1 rfl rfl
                   exact ⟨⟨r47.2, r47.1, rfl, hp, hc⟩, (kl rfl kb)⟩
               · replace hp := gpos hp (of_decide_eq_true hb38)
                 refine Wct rfl ?_
                 refine Wreg ?_
                 refine rs (v := .pointer (some ⟨b14, 0, none⟩)) (mv (v := .pointer (some ⟨b14, 0, none⟩)) rfl) rfl ?_
                 replace hp := bind_some hp; obtain ⟨r49, hr49, hp⟩ := hp
                 replace hc := hc.pull 1 rfl rfl
                 refine rc (cl Try.call9 rfl rfl) rfl ?_
                 refine beat_Watch_Tick_any hc hr49 ?_
                 clear hc; intro w50 hc
                 refine rs (v := .bool r49.1) (av (v := .bool r49.1) rfl) rfl ?_
                 refine rn ?_
                 refine bn ?_
                 refine qn ?_
                 replace hc := hc.rem 1 rfl rfl
                 exact ⟨⟨r49.2, r49.1, rfl, hp, hc⟩, (kl rfl kb)⟩
             · clear hp hc; intro vs u w51 hJ
               obtain ⟨j23, j24, rfl, hp, hc⟩ := hJ
               unfold law24_BeatRises.J2 at hp
               refine Wseq ?_
               refine Wreg ?_
               refine rs (v := .int .i64 r21) (mv (v := .int .i64 r21) rfl) rfl ?_
               refine rs (v := .int .i64 r21) (av (v := .int .i64 r21) rfl) rfl ?_
               refine rn ?_
               refine qn ?_
               refine Wseqm [12, 85, 86, 87] [12] (fun vs w' => ∃ j52 : Int, vs = [.int .i64 j52] ∧ law24_BeatRises.J3 N e7 j18 j23 j24 (law24_BeatRises.L1 N x1 e7 m1) j52 = some r ∧ Ctx w' (S_beat_Watch.hp b14 j23 :: P1 :: Fr)) ?_ ?_
               · refine Wseq ?_
                 refine Wreg ?_
                 refine rs (v := .bool j24) (mv (v := .bool j24) rfl) rfl ?_
                 refine rn ?_
                 refine qn ?_
                 cases hb53 : j24
                 · replace hp := gneg hp (by rw [hb53]; exact Bool.false_ne_true)
                   subst hb53
                   refine Wcf rfl ?_
                   refine Wskip ?_
                   refine qn ?_
                   exact ⟨⟨r21, rfl, hp, hc⟩, (kl rfl kb)⟩
                 · replace hp := gpos hp hb53
                   subst hb53
                   refine Wct rfl ?_
                   refine Wreg ?_
                   refine rs (v := .int .i64 r21) (mv (v := .int .i64 r21) rfl) rfl ?_
                   refine rs (v := .int .i64 (IntKind.i64.wrap (r21 + 1))) (adw rfl rfl) rfl ?_
                   refine rs (v := .int .i64 (IntKind.i64.wrap (r21 + 1))) (av (v := .int .i64 (IntKind.i64.wrap (r21 + 1))) rfl) rfl ?_
                   refine rn ?_
                   refine qn ?_
                   exact ⟨⟨(IntKind.i64.wrap (r21 + 1)), rfl, hp, hc⟩, (kl rfl kb)⟩
               · clear hp hc; intro vs u w54 hJ
                 obtain ⟨j52, rfl, hp, hc⟩ := hJ
                 unfold law24_BeatRises.J3 at hp
                 refine Wseqm [88, 89, 90, 91, 92, 93, 94, 95, 96, 97, 98, 99, 100, 101, 102, 103, 104, 105, 106, 107] [107] (fun vs w' => ∃ j55 : Bool, vs = [.bool j55] ∧ law24_BeatRises.J4 j18 j23 (law24_BeatRises.L1 N x1 e7 m1) j55 = some r ∧ Ctx w' (S_beat_Watch.hp b14 j23 :: P1 :: Fr)) ?_ ?_
                 · refine Wreg ?_
                   refine rs (v := .pointer (some ⟨b14, 0, none⟩)) (mv (v := .pointer (some ⟨b14, 0, none⟩)) rfl) rfl ?_
                   replace hp := bind_some hp; obtain ⟨r56, hr56, hp⟩ := hp
                   refine rc (cl Try.call17 rfl rfl) rfl ?_
                   refine beat_Watch_Epoch_any hc hr56 ?_
                   clear hc; intro w57 hc
                   refine rs (v := .int .i64 j52) (mv (v := .int .i64 j52) rfl) rfl ?_
                   refine rs (v := .bool (decide (r56 ≠ j52))) (ned rfl rfl) rfl ?_
                   refine rs (v := .bool (decide (r56 ≠ j52))) (mv (v := .bool (decide (r56 ≠ j52))) rfl) rfl ?_
                   cases hb58 : (decide (r56 ≠ j52))
                   · replace hp := gneg hp (of_decide_eq_false hb58)
                     refine rs (v := .bool j24) (mv (v := .bool j24) rfl) rfl ?_
                     refine rs (v := .bool j24) (mv (v := .bool j24) rfl) rfl ?_
                     cases hb59 : j24
                     · replace hp := gneg hp (by rw [hb59]; exact Bool.false_ne_true)
                       subst hb59
                       refine r0 rfl ?_
                       refine r0 rfl ?_
                       refine r0 rfl ?_
                       refine r0 rfl ?_
                       refine r0 rfl ?_
                       refine r0 rfl ?_
                       refine r0 rfl ?_
                       refine r0 rfl ?_
                       refine r0 rfl ?_
                       refine r0 rfl ?_
                       refine r0 rfl ?_
                       refine rs (v := .bool false) (pkf (v := .bool false) rfl rfl) rfl ?_
                       refine rs (v := .bool false) (pkf (v := .bool false) rfl rfl) rfl ?_
                       refine rn ?_
                       refine qn ?_
                       exact ⟨⟨false, rfl, hp, hc⟩, (kl rfl kb)⟩
                     · replace hp := gpos hp hb59
                       subst hb59
                       refine rs (v := .pointer (some ⟨b14, 0, none⟩)) (mv (v := .pointer (some ⟨b14, 0, none⟩)) rfl) rfl ?_
                       replace hp := bind_some hp; obtain ⟨r60, hr60, hp⟩ := hp
                       refine rc (cl Try.call20 rfl rfl) rfl ?_
                       refine beat_Watch_Missing_any hc hr60 ?_
                       clear hc; intro a61 n62 q63 w64 hc
                       obtain ⟨u65, _⟩ := Ctx.rdLen hc (k := 0) rfl rfl reads_own; subst u65
                       refine rs (v := .int .i64 ((r60.length : Nat) : Int)) (ln rfl Try.underlying36) rfl ?_
                       refine rs (v := .int .i64 e7) (mv (v := .int .i64 e7) rfl) rfl ?_
                       refine rs (v := .bool (decide (((r60.length : Nat) : Int) ≠ e7))) (ned rfl rfl) rfl ?_
                       refine rs (v := .bool (decide (((r60.length : Nat) : Int) ≠ e7))) (mv (v := .bool (decide (((r60.length : Nat) : Int) ≠ e7))) rfl) rfl ?_
                       cases hb66 : (decide (((r60.length : Nat) : Int) ≠ e7))
                       · replace hp := gneg hp (of_decide_eq_false hb66)
                         refine rs (v := .pointer (some ⟨b14, 0, none⟩)) (mv (v := .pointer (some ⟨b14, 0, none⟩)) rfl) rfl ?_
                         replace hp := bind_some hp; obtain ⟨r67, hr67, hp⟩ := hp
                         replace hc := hc.pull 1 rfl rfl
                         refine rc (cl Try.call21 rfl rfl) rfl ?_
                         refine beat_Watch_Late_any hc hr67 ?_
                         clear hc; intro a68 n69 q70 w71 hc
                         obtain ⟨u72, _⟩ := Ctx.rdLen hc (k := 0) rfl rfl reads_own; subst u72
                         refine rs (v := .int .i64 ((r67.length : Nat) : Int)) (ln rfl Try.underlying36) rfl ?_
                         refine rs (v := .bool (decide (((r67.length : Nat) : Int) ≠ 0))) (ned rfl rfl) rfl ?_
                         refine rs (v := .bool (decide (((r67.length : Nat) : Int) ≠ 0))) (pkf (v := .bool (decide (((r67.length : Nat) : Int) ≠ 0))) rfl rfl) rfl ?_
                         refine rs (v := .bool (decide (((r67.length : Nat) : Int) ≠ 0))) (pkt (v := .bool (decide (((r67.length : Nat) : Int) ≠ 0))) rfl rfl) rfl ?_
                         refine rs (v := .bool (decide (((r67.length : Nat) : Int) ≠ 0))) (pkf (v := .bool (decide (((r67.length : Nat) : Int) ≠ 0))) rfl rfl) rfl ?_
                         refine rn ?_
                         refine qn ?_
                         replace hc := hc.rem 2 rfl rfl
                         replace hc := hc.rem 0 rfl rfl
                         exact ⟨⟨decide (((r67.length : Nat) : Int) ≠ 0), rfl, hp, hc⟩, (kl rfl kb)⟩
                       · replace hp := gpos hp (of_decide_eq_true hb66)
                         refine r0 rfl ?_
                         refine r0 rfl ?_
                         refine r0 rfl ?_
                         refine r0 rfl ?_
                         refine rs (v := .bool true) (pkt (v := .bool true) rfl rfl) rfl ?_
                         refine rs (v := .bool true) (pkt (v := .bool true) rfl rfl) rfl ?_
                         refine rs (v := .bool true) (pkf (v := .bool true) rfl rfl) rfl ?_
                         refine rn ?_
                         refine qn ?_
                         replace hc := hc.rem 0 rfl rfl
                         exact ⟨⟨true, rfl, hp, hc⟩, (kl rfl kb)⟩
                   · replace hp := gpos hp (of_decide_eq_true hb58)
                     refine r0 rfl ?_
                     refine r0 rfl ?_
                     refine r0 rfl ?_
                     refine r0 rfl ?_
                     refine r0 rfl ?_
                     refine r0 rfl ?_
                     refine r0 rfl ?_
                     refine r0 rfl ?_
                     refine r0 rfl ?_
                     refine r0 rfl ?_
                     refine r0 rfl ?_
                     refine r0 rfl ?_
                     refine r0 rfl ?_
                     refine r0 rfl ?_
                     refine rs (v := .bool true) (pkt (v := .bool true) rfl rfl) rfl ?_
                     refine rn ?_
                     refine qn ?_
                     exact ⟨⟨true, rfl, hp, hc⟩, (kl rfl kb)⟩
                 · clear hp hc; intro vs u w73 hJ
                   obtain ⟨j55, rfl, hp, hc⟩ := hJ
                   unfold law24_BeatRises.J4 at hp
                   cases hb74 : j55
                   · replace hp := gneg hp (by rw [hb74]; exact Bool.false_ne_true)
                     subst hb74
                     refine Wcf rfl ?_
                     refine Wskip ?_
                     refine bn ?_
                     refine qn ?_
                     refine Wreg ?_
                     refine rs (v := .int .i64 j18) (mv (v := .int .i64 j18) rfl) rfl ?_
                     refine rs (v := .int .i64 (IntKind.i64.wrap (j18 + 1))) (adw rfl rfl) rfl ?_
                     refine rs (v := .int .i64 (IntKind.i64.wrap (j18 + 1))) (av (v := .int .i64 (IntKind.i64.wrap (j18 + 1))) rfl) rfl ?_
                     refine rn ?_
                     refine qn ?_
                     exact ⟨m1, Nat.lt_succ_self _, ⟨j23, (IntKind.i64.wrap (j18 + 1)), rfl, hp, hc⟩, (kl rfl (km rfl (kl rfl (km rfl (kl rfl (km rfl (kl rfl k0)))))))⟩
                   · replace hp := gpos hp hb74
                     subst hb74
                     refine Wct rfl ?_
                     refine Wseq ?_
                     refine Wreg ?_
                     refine rs (v := .bool false) (av (v := .bool false) rfl) rfl ?_
                     refine rn ?_
                     refine qn ?_
                     refine Wret ?_
                     refine br ?_
                     refine qr ?_
                     refine qr ?_
                     refine br ?_
                     refine qr ?_
                     replace hc := hc.rem 0 rfl rfl
                     injection hp with hp; subst hp
                     refine f1 (v := .bool false) Try.results5 Try.ntmps5 rfl ?_
                     exact ⟨_, rfl, k _ hc⟩
       · replace hp := gpos hp (of_decide_eq_true hb16)
         refine Wct rfl ?_
         refine Wseq ?_
         refine Wreg ?_
         refine rs (v := .bool false) (av (v := .bool false) rfl) rfl ?_
         refine rn ?_
         refine qn ?_
         refine Wret ?_
         refine qr ?_
         replace hc := hc.rem 0 rfl rfl
         injection hp with hp; subst hp
         refine f1 (v := .bool false) Try.results5 Try.ntmps5 rfl ?_
         exact ⟨_, rfl, k _ hc⟩
   · replace hp := gpos hp (of_decide_eq_true hb6)
     refine Wct rfl ?_
     refine Wseq ?_
     refine Wreg ?_
     replace hp := bind_some hp; obtain ⟨r75, hr75, hp⟩ := hp
     refine rc (cl Try.call6 rfl rfl) rfl ?_
     refine law24_awake_any hc hr75 ?_
     clear hc; intro w76 hc
     refine rs (v := .bool r75) (av (v := .bool r75) rfl) rfl ?_
     refine rn ?_
     refine qn ?_
     refine Wret ?_
     refine qr ?_
     injection hp with hp; subst hp
     refine f1 (v := .bool r75) Try.results5 Try.ntmps5 rfl ?_
     exact ⟨_, rfl, k _ hc⟩

-- FN peloton/pelotonlaw24.BeatActs
def law24_BeatActs.J3 (N : Nat) (j27 : Int) (k2 : S_ref24_Watch → S_beat_Watch → Int → Option (Bool)) (j43 : S_ref24_Watch) (j44 : S_beat_Watch) (j45 : Bool) : Option (Bool) :=
  (ref24_Watch_Lists N j43).bind fun r82 =>
  if j45 = true then
    (beat_Watch_Epoch j44).bind fun r106 =>
    if r106 ≠ j43.Epoch then
      some false
    else
      (beat_Watch_Whole N j44).bind fun r109 =>
      if (!(r109 == (decide (((r82.1.length : Nat) : Int) = 0)))) = true then
        some false
      else
        (beat_Watch_Missing N j44).bind fun r112 =>
        (ref09_Ints N r112 r82.1).bind fun r118 =>
        if r118 = true then
          (beat_Watch_Late N j44).bind fun r121 =>
          (ref09_Ints N r121 r82.2).bind fun r127 =>
          if r127 = true then
            k2 j43 j44 (IntKind.i64.wrap (j27 + 1))
          else
            some false
        else
          some false
  else
    some false

def law24_BeatActs.L2 (N : Nat) (x2 : (List S_law24_Act)) : Nat → S_ref24_Watch → S_beat_Watch → Int → Option (Bool)
  | 0, _, _, _ => none
  | m2 + 1, j25, j26, j27 =>
    if j27 < ((x2.length : Nat) : Int) then
      (idx x2 j27).bind fun y30 =>
      if y30.Kind = 0 then
        (beat_Watch_Tick N j26).bind fun r77 =>
        (ref24_Watch_Tick N j25).bind fun r79 =>
        law24_BeatActs.J3 N j27 (law24_BeatActs.L2 N x2 m2) r79.2 r77.2 (r77.1 == r79.1)
      else
        if y30.Kind = 1 then
          (beat_Watch_Beat j26 y30.Worker y30.Epoch y30.Life).bind fun r73 =>
          (ref24_Watch_Hear N j25 false y30.Worker y30.Epoch y30.Life).bind fun r75 =>
          law24_BeatActs.J3 N j27 (law24_BeatActs.L2 N x2 m2) r75.2 r73.2 (r73.1 == r75.1)
        else
          if y30.Kind = 2 then
            (beat_Watch_Ready j26 y30.Worker y30.Epoch y30.Life).bind fun r68 =>
            (ref24_Watch_Hear N j25 true y30.Worker y30.Epoch y30.Life).bind fun r70 =>
            law24_BeatActs.J3 N j27 (law24_BeatActs.L2 N x2 m2) r70.2 r68.2 (r68.1 == r70.1)
          else
            if y30.Kind = 3 then
              (ref24_Watch_Bump N j25).bind fun r50 =>
              (beat_Watch_Bump j26).bind fun r65 =>
              law24_BeatActs.J3 N j27 (law24_BeatActs.L2 N x2 m2) r50 r65.2 (decide (r65.1 = r50.Epoch))
            else
              law24_BeatActs.J3 N j27 (law24_BeatActs.L2 N x2 m2) j25 j26 true
    else
      some true

def law24_BeatActs.J1 (N : Nat) (x0 : Int) (x1 : Int) (x2 : (List S_law24_Act)) (r7 : ((Option S_beat_Watch) × Int)) (j10 : Bool) : Option (Bool) :=
  if j10 = true then
    optc r7.1 (
      some (decide (r7.2 = 2))) fun y131 =>
    some false
  else
    optc r7.1 (
      some false) fun y17 =>
    if r7.2 ≠ 0 then
      some false
    else
      (ref24_New x0 x1).bind fun r22 =>
      law24_BeatActs.L2 N x2 N r22 y17 0

def law24_BeatActs (N : Nat) (x0 : Int) (x1 : Int) (x2 : (List S_law24_Act)) : Option (Bool) :=
  (law24_awake N).bind fun r1 =>
  if r1 = true then
    if ((x2.length : Nat) : Int) > 200 then
      (law24_awake N).bind fun r135 =>
      some r135
    else
      (beat_New x0 x1).bind fun r7 =>
      if x0 < 1 then
        law24_BeatActs.J1 N x0 x1 x2 r7 true
      else
        if x0 > 64 then
          law24_BeatActs.J1 N x0 x1 x2 r7 true
        else
          if x1 < 1 then
            law24_BeatActs.J1 N x0 x1 x2 r7 true
          else
            law24_BeatActs.J1 N x0 x1 x2 r7 (decide (x1 > 10000))
  else
    (law24_awake N).bind fun r4 =>
    some r4

set_option maxHeartbeats 2000000 in
theorem law24_BeatActs_any {N : Nat} {x0 : Int} {x1 : Int} {x2 : (List S_law24_Act)} {ax2 : Option Addr} {nx2 : Nat} {qx2 : Nat} {P2 : HP} {Fr : List HP} {w : World} {r : Bool} {K : Value → World → Prop} (hrd2 : Reads P2 S_law24_Act.pr (.slice ax2 nx2 qx2) x2) (hc : Ctx w (P2 :: Fr)) (hp : law24_BeatActs N x0 x1 x2 = some r)
    (k : ∀ w', Ctx w' (P2 :: Fr) → K (.bool r) w') : Calls Try.prog 3 #[.int .i64 x0, .int .i64 x1, .slice ax2 nx2 qx2] w (Ret K) := by
 unfold law24_BeatActs at hp
 refine Center (args := [.int .i64 x0, .int .i64 x1, .slice ax2 nx2 qx2]) (l := [(0, .int .i64 x0), (1, .int .i64 x1), (2, .slice ax2 nx2 qx2)]) Try.func3 Try.ntmps3 rfl rfl rfl ?_
 obtain ⟨hn2, _⟩ := Ctx.rdLen hc (k := 0) rfl rfl hrd2; subst hn2
 refine Wseq ?_
 refine Wreg ?_
 refine rs (v := .bool false) (av (v := .bool false) rfl) rfl ?_
 refine rn ?_
 refine qn ?_
 refine Wseq ?_
 refine Wseq ?_
 refine Wreg ?_
 replace hp := bind_some hp; obtain ⟨r1, hr1, hp⟩ := hp
 refine rc (cl Try.call6 rfl rfl) rfl ?_
 refine law24_awake_any hc hr1 ?_
 clear hc; intro w2 hc
 cases hb3 : r1
 · replace hp := gneg hp (by rw [hb3]; exact Bool.false_ne_true)
   subst hb3
   refine rs (v := .bool true) (ntf rfl) rfl ?_
   refine rs (v := .bool true) (mv (v := .bool true) rfl) rfl ?_
   refine r0 rfl ?_
   refine r0 rfl ?_
   refine r0 rfl ?_
   refine rs (v := .bool true) (pkt (v := .bool true) rfl rfl) rfl ?_
   refine rn ?_
   refine qn ?_
   refine Wct rfl ?_
   refine Wseq ?_
   refine Wreg ?_
   replace hp := bind_some hp; obtain ⟨r4, hr4, hp⟩ := hp
   refine rc (cl Try.call6 rfl rfl) rfl ?_
   refine law24_awake_any hc hr4 ?_
   clear hc; intro w5 hc
   refine rs (v := .bool r4) (av (v := .bool r4) rfl) rfl ?_
   refine rn ?_
   refine qn ?_
   refine Wret ?_
   refine qr ?_
   injection hp with hp; subst hp
   refine f1 (v := .bool r4) Try.results3 Try.ntmps3 rfl ?_
   exact ⟨_, rfl, k _ hc⟩
 · replace hp := gpos hp hb3
   subst hb3
   refine rs (v := .bool false) (ntt rfl) rfl ?_
   refine rs (v := .bool false) (mv (v := .bool false) rfl) rfl ?_
   refine rs (v := .slice ax2 x2.length qx2) (mv (v := .slice ax2 x2.length qx2) rfl) rfl ?_
   refine rs (v := .int .i64 ((x2.length : Nat) : Int)) (ln rfl Try.underlying22) rfl ?_
   refine rs (v := .bool (decide (((x2.length : Nat) : Int) > 200))) (gt' rfl rfl) rfl ?_
   refine rs (v := .bool (decide (((x2.length : Nat) : Int) > 200))) (pkf (v := .bool (decide (((x2.length : Nat) : Int) > 200))) rfl rfl) rfl ?_
   refine rn ?_
   refine qn ?_
   cases hb6 : (decide (((x2.length : Nat) : Int) > 200))
   · replace hp := gneg hp (of_decide_eq_false hb6)
     refine Wcf rfl ?_
     refine Wskip ?_
     refine qn ?_
     refine Wseq ?_
     refine Wreg ?_
     refine rs (v := .int .i64 x0) (mv (v := .int .i64 x0) rfl) rfl ?_
     refine rs (v := .int .i64 x1) (mv (v := .int .i64 x1) rfl) rfl ?_
     replace hp := bind_some hp; obtain ⟨r7, hr7, hp⟩ := hp
     refine rc (cl Try.call7 rfl rfl) rfl ?_
     refine beat_New_any hc hr7 ?_
     clear hc; intro v8 w9 hc
     refine rs (v := .tuple #[v8, .int .i64 r7.2]) (mv (v := .tuple #[v8, .int .i64 r7.2]) rfl) rfl ?_
     refine rs (v := v8) (ext (v := v8) rfl rfl) rfl ?_
     refine rs (v := .int .i64 r7.2) (ext (v := .int .i64 r7.2) rfl rfl) rfl ?_
     refine rs (v := v8) (av (v := v8) rfl) rfl ?_
     refine rs (v := .int .i64 r7.2) (av (v := .int .i64 r7.2) rfl) rfl ?_
     refine rn ?_
     refine qn ?_
     refine Wseq ?_
     refine Wseqm [29, 30, 31, 32, 33, 34, 35, 36, 37, 38, 39, 40, 41, 42] [42] (fun vs w' => ∃ j10 : Bool, vs = [.bool j10] ∧ law24_BeatActs.J1 N x0 x1 x2 r7 j10 = some r ∧ Ctx w' (PtO S_beat_Watch.hp v8 r7.1 :: P2 :: Fr)) ?_ ?_
     · refine Wreg ?_
       refine rs (v := .int .i64 x0) (mv (v := .int .i64 x0) rfl) rfl ?_
       refine rs (v := .bool (decide (x0 < 1))) (lt' rfl rfl) rfl ?_
       refine rs (v := .bool (decide (x0 < 1))) (mv (v := .bool (decide (x0 < 1))) rfl) rfl ?_
       cases hb11 : (decide (x0 < 1))
       · replace hp := gneg hp (of_decide_eq_false hb11)
         refine rs (v := .int .i64 x0) (mv (v := .int .i64 x0) rfl) rfl ?_
         refine rs (v := .bool (decide (x0 > 64))) (gt' rfl rfl) rfl ?_
         refine rs (v := .bool (decide (x0 > 64))) (pkf (v := .bool (decide (x0 > 64))) rfl rfl) rfl ?_
         refine rs (v := .bool (decide (x0 > 64))) (mv (v := .bool (decide (x0 > 64))) rfl) rfl ?_
         cases hb12 : (decide (x0 > 64))
         · replace hp := gneg hp (of_decide_eq_false hb12)
           refine rs (v := .int .i64 x1) (mv (v := .int .i64 x1) rfl) rfl ?_
           refine rs (v := .bool (decide (x1 < 1))) (lt' rfl rfl) rfl ?_
           refine rs (v := .bool (decide (x1 < 1))) (pkf (v := .bool (decide (x1 < 1))) rfl rfl) rfl ?_
           refine rs (v := .bool (decide (x1 < 1))) (mv (v := .bool (decide (x1 < 1))) rfl) rfl ?_
           cases hb13 : (decide (x1 < 1))
           · replace hp := gneg hp (of_decide_eq_false hb13)
             refine rs (v := .int .i64 x1) (mv (v := .int .i64 x1) rfl) rfl ?_
             refine rs (v := .bool (decide (x1 > 10000))) (gt' rfl rfl) rfl ?_
             refine rs (v := .bool (decide (x1 > 10000))) (pkf (v := .bool (decide (x1 > 10000))) rfl rfl) rfl ?_
             refine rn ?_
             refine qn ?_
             exact ⟨⟨decide (x1 > 10000), rfl, hp, hc⟩, (kl rfl kb)⟩
           · replace hp := gpos hp (of_decide_eq_true hb13)
             refine r0 rfl ?_
             refine r0 rfl ?_
             refine rs (v := .bool true) (pkt (v := .bool true) rfl rfl) rfl ?_
             refine rn ?_
             refine qn ?_
             exact ⟨⟨true, rfl, hp, hc⟩, (kl rfl kb)⟩
         · replace hp := gpos hp (of_decide_eq_true hb12)
           refine r0 rfl ?_
           refine r0 rfl ?_
           refine rs (v := .bool true) (pkt (v := .bool true) rfl rfl) rfl ?_
           refine rs (v := .bool true) (mv (v := .bool true) rfl) rfl ?_
           refine r0 rfl ?_
           refine r0 rfl ?_
           refine rs (v := .bool true) (pkt (v := .bool true) rfl rfl) rfl ?_
           refine rn ?_
           refine qn ?_
           exact ⟨⟨true, rfl, hp, hc⟩, (kl rfl kb)⟩
       · replace hp := gpos hp (of_decide_eq_true hb11)
         refine r0 rfl ?_
         refine r0 rfl ?_
         refine rs (v := .bool true) (pkt (v := .bool true) rfl rfl) rfl ?_
         refine rs (v := .bool true) (mv (v := .bool true) rfl) rfl ?_
         refine r0 rfl ?_
         refine r0 rfl ?_
         refine rs (v := .bool true) (pkt (v := .bool true) rfl rfl) rfl ?_
         refine rs (v := .bool true) (mv (v := .bool true) rfl) rfl ?_
         refine r0 rfl ?_
         refine r0 rfl ?_
         refine rs (v := .bool true) (pkt (v := .bool true) rfl rfl) rfl ?_
         refine rn ?_
         refine qn ?_
         exact ⟨⟨true, rfl, hp, hc⟩, (kl rfl kb)⟩
     · clear hp hc; intro vs u w14 hJ
       obtain ⟨j10, rfl, hp, hc⟩ := hJ
       unfold law24_BeatActs.J1 at hp
       cases hb15 : j10
       · replace hp := gneg hp (by rw [hb15]; exact Bool.false_ne_true)
         subst hb15
         refine Wcf rfl ?_
         refine Wskip ?_
         refine qn ?_
         refine Wseq ?_
         refine Wseq ?_
         refine Wreg ?_
         refine rs (v := v8) (mv (v := v8) rfl) rfl ?_
         cases hb16 : r7.1
         · replace hp := optN hp hb16
           rw [hb16] at hc
           replace hc := Ctx.ptoN hc; obtain ⟨u18, hc⟩ := hc; subst u18
           refine rs (v := .bool true) (ept Try.underlying24 rfl rfl) rfl ?_
           refine rs (v := .bool true) (mv (v := .bool true) rfl) rfl ?_
           refine r0 rfl ?_
           refine r0 rfl ?_
           refine rs (v := .bool true) (pkt (v := .bool true) rfl rfl) rfl ?_
           refine rn ?_
           refine qn ?_
           refine Wct rfl ?_
           refine Wseq ?_
           refine Wreg ?_
           refine rs (v := .bool false) (av (v := .bool false) rfl) rfl ?_
           refine rn ?_
           refine qn ?_
           refine Wret ?_
           refine qr ?_
           injection hp with hp; subst hp
           refine f1 (v := .bool false) Try.results3 Try.ntmps3 rfl ?_
           exact ⟨_, rfl, k _ hc⟩
         · rename_i y17
           replace hp := optS hp hb16
           rw [hb16] at hc
           replace hc := Ctx.ptoS hc; obtain ⟨b19, u20, hc⟩ := hc; subst u20
           refine rs (v := .bool false) (epf Try.underlying24 rfl rfl) rfl ?_
           refine rs (v := .bool false) (mv (v := .bool false) rfl) rfl ?_
           refine rs (v := .int .i64 r7.2) (mv (v := .int .i64 r7.2) rfl) rfl ?_
           refine rs (v := .bool (decide (r7.2 ≠ 0))) (ned rfl rfl) rfl ?_
           refine rs (v := .bool (decide (r7.2 ≠ 0))) (pkf (v := .bool (decide (r7.2 ≠ 0))) rfl rfl) rfl ?_
           refine rn ?_
           refine qn ?_
           cases hb21 : (decide (r7.2 ≠ 0))
           · replace hp := gneg hp (of_decide_eq_false hb21)
             refine Wcf rfl ?_
             refine Wskip ?_
             refine qn ?_
             refine Wseq ?_
             refine Wreg ?_
             refine rs (v := .int .i64 x0) (mv (v := .int .i64 x0) rfl) rfl ?_
             refine rs (v := .int .i64 x1) (mv (v := .int .i64 x1) rfl) rfl ?_
             replace hp := bind_some hp; obtain ⟨r22, hr22, hp⟩ := hp
             refine rc (cl Try.call8 rfl rfl) rfl ?_
             refine ref24_New_any hc hr22 ?_
             clear hc; intro b23 w24 hc
             refine rs (v := .pointer (some ⟨b23, 0, none⟩)) (av (v := .pointer (some ⟨b23, 0, none⟩)) rfl) rfl ?_
             refine rn ?_
             refine qn ?_
             refine Wseq ?_
             refine Wseq ?_
             refine Wreg ?_
             refine rs (v := .int .i64 0) (av (v := .int .i64 0) rfl) rfl ?_
             refine rn ?_
             refine qn ?_
             refine Wblk ?_
             refine Wloop [6, 10, 11, 12, 13, 14, 58, 59, 60, 61, 62, 63, 64, 65, 66, 67, 68, 69, 70, 71, 72, 73, 74, 75, 76, 77, 78, 79, 80, 81, 82, 83, 84, 85, 86, 87, 88, 89, 90, 91, 92, 93, 94, 95, 96, 97, 98, 99, 100, 101, 102, 103, 104, 105, 106, 107, 108, 109, 110, 111, 112, 113, 114, 115, 116, 117, 118, 119, 120, 121, 122, 123, 124, 125, 126, 127, 128, 129, 130, 131, 132, 133, 134, 135, 136, 137, 138, 139, 140, 141, 142, 143, 144, 145, 146, 147, 148, 149, 150, 151, 152, 153, 154, 155, 156, 157, 158, 159, 160, 161, 162, 163] [10] (fun m vs w' => ∃ j25 : S_ref24_Watch, ∃ j26 : S_beat_Watch, ∃ j27 : Int, vs = [.int .i64 j27] ∧ law24_BeatActs.L2 N x2 m j25 j26 j27 = some r ∧ Ctx w' (S_ref24_Watch.hp b23 j25 :: S_beat_Watch.hp b19 j26 :: P2 :: Fr)) N ?_ ?_
             · exact ⟨r22, y17, 0, rfl, hp, hc⟩
             · clear hp hc; intro m vs u w28 hJ
               obtain ⟨j25, j26, j27, rfl, hp, hc⟩ := hJ
               rcases m with _ | m2
               · cases (show none = some r from hp)
               rw [law24_BeatActs.L2] at hp
               refine Wseq ?_
               refine Wseq ?_
               refine Wreg ?_
               refine rs (v := .int .i64 j27) (mv (v := .int .i64 j27) rfl) rfl ?_
               refine rs (v := .slice ax2 x2.length qx2) (mv (v := .slice ax2 x2.length qx2) rfl) rfl ?_
               refine rs (v := .int .i64 ((x2.length : Nat) : Int)) (ln rfl Try.underlying22) rfl ?_
               refine rs (v := .bool (decide (j27 < ((x2.length : Nat) : Int)))) (lt' rfl rfl) rfl ?_
               refine rn ?_
               refine qn ?_
               cases hb29 : (decide (j27 < ((x2.length : Nat) : Int)))
               · replace hp := gneg hp (of_decide_eq_false hb29)
                 refine Wcf rfl ?_
                 refine Wexit ?_
                 refine qx ?_
                 refine qx ?_
                 refine be ?_
                 refine qn ?_
                 refine Wseq ?_
                 refine Wreg ?_
                 refine rs (v := .bool true) (av (v := .bool true) rfl) rfl ?_
                 refine rn ?_
                 refine qn ?_
                 refine Wret ?_
                 replace hc := hc.rem 1 rfl rfl
                 replace hc := hc.rem 0 rfl rfl
                 injection hp with hp; subst hp
                 refine f1 (v := .bool true) Try.results3 Try.ntmps3 rfl ?_
                 exact ⟨_, rfl, k _ hc⟩
               · replace hp := gpos hp (of_decide_eq_true hb29)
                 refine Wct rfl ?_
                 refine Wskip ?_
                 refine qn ?_
                 refine Wseq ?_
                 refine Wblk ?_
                 refine Wseq ?_
                 refine Wreg ?_
                 refine rs (v := .slice ax2 x2.length qx2) (mv (v := .slice ax2 x2.length qx2) rfl) rfl ?_
                 refine rs (v := .int .i64 j27) (mv (v := .int .i64 j27) rfl) rfl ?_
                 replace hp := bind_some hp; obtain ⟨y30, hy30, hp⟩ := hp
                 obtain ⟨b33, o34, u35, hi31, hi32⟩ := Ctx.rdAt hc (k := 2) rfl rfl hrd2 hy30
                 subst u35
                 refine rs (v := .pointer (some ⟨b33, o34 + (j27).toNat * 4, none⟩)) (ixx rfl rfl Try.underlying22 Try.sizeOf31 hi31 hi32 rfl) rfl ?_
                 replace hc := Ctx.rdCell hc (k := 2) rfl rfl hrd2 hy30; obtain ⟨cs36, hc, hcell37⟩ := hc
                 replace hc := Ctx.holdC hc; obtain ⟨u38, hc⟩ := hc; subst u38
                 refine rs (v := .agg #[.int .i64 y30.Kind, .int .i64 y30.Worker, .int .i64 y30.Epoch, .int .i64 y30.Life]) (ldg rfl Try.isAgg31 Try.sizeOf31 rfl (elCells hcell37 0 (vs := [.int .i64 y30.Kind, .int .i64 y30.Worker, .int .i64 y30.Epoch, .int .i64 y30.Life]) rfl)) rfl ?_
                 refine rsE (Ctx.allocOp (cs := [.int .i64 0, .int .i64 0, .int .i64 0, .int .i64 0]) hc Try.zeroValue31 rfl) rfl ?_
                 clear hc; rintro _ w41 ⟨b39, rfl, hc⟩
                 refine ruE (A := fun w' => Ctx w' (B b39 [.int .i64 y30.Kind, .int .i64 y30.Worker, .int .i64 y30.Epoch, .int .i64 y30.Life] 31 :: S_ref24_Watch.hp b23 j25 :: S_beat_Watch.hp b19 j26 :: P2 :: Fr)) (Ctx.putAgg hc (k := 0) rfl rfl (vs := [.int .i64 y30.Kind, .int .i64 y30.Worker, .int .i64 y30.Epoch, .int .i64 y30.Life]) rfl rfl rfl Try.sizeOf31 rfl rfl rfl) rfl ?_
                 clear hc; rintro w42 hc
                 refine rn ?_
                 refine qn ?_
                 refine Wseq ?_
                 refine Wreg ?_
                 refine rs (v := .bool true) (av (v := .bool true) rfl) rfl ?_
                 refine rn ?_
                 refine qn ?_
                 refine Wseqm [12, 68, 69, 70, 71, 72, 73, 74, 75, 76, 77, 78, 79, 80, 81, 82, 83, 84, 85, 86, 87, 88, 89, 90, 91, 92, 93, 94, 95, 96, 97, 98, 99, 100, 101, 102, 103, 104, 105, 106, 107, 108, 109, 110, 111, 112, 113, 114, 115, 116, 117, 118, 119, 120, 121, 122, 123, 124, 125] [12] (fun vs w' => ∃ j43 : S_ref24_Watch, ∃ j44 : S_beat_Watch, ∃ j45 : Bool, vs = [.bool j45] ∧ law24_BeatActs.J3 N j27 (law24_BeatActs.L2 N x2 m2) j43 j44 j45 = some r ∧ Ctx w' (S_ref24_Watch.hp b23 j43 :: S_beat_Watch.hp b19 j44 :: P2 :: Fr)) ?_ ?_
                 · refine Wseq ?_
                   refine Wreg ?_
                   refine rs (v := .pointer (some ⟨b39, 0, none⟩)) (fax 0 rfl Try.underlying31 rfl Try.sizeOf3 rfl rfl rfl) rfl ?_
                   refine rs (v := .int .i64 y30.Kind) (ld rfl Try.isAgg3 (Ctx.cell hc (k := 0) rfl rfl rfl)) rfl ?_
                   refine rn ?_
                   refine qn ?_
                   refine Wblk ?_
                   refine Wseq ?_
                   refine Wreg ?_
                   refine rs (v := .bool (decide (y30.Kind = 0))) (eqd rfl rfl) rfl ?_
                   refine rs (v := .bool (decide (y30.Kind = 0))) (av (v := .bool (decide (y30.Kind = 0))) rfl) rfl ?_
                   refine rn ?_
                   refine qn ?_
                   cases hb46 : (decide (y30.Kind = 0))
                   · replace hp := gneg hp (of_decide_eq_false hb46)
                     refine Wcf rfl ?_
                     refine Wseq ?_
                     refine Wreg ?_
                     refine rs (v := .bool (decide (y30.Kind = 1))) (eqd rfl rfl) rfl ?_
                     refine rs (v := .bool (decide (y30.Kind = 1))) (av (v := .bool (decide (y30.Kind = 1))) rfl) rfl ?_
                     refine rn ?_
                     refine qn ?_
                     cases hb47 : (decide (y30.Kind = 1))
                     · replace hp := gneg hp (of_decide_eq_false hb47)
                       refine Wcf rfl ?_
                       refine Wseq ?_
                       refine Wreg ?_
                       refine rs (v := .bool (decide (y30.Kind = 2))) (eqd rfl rfl) rfl ?_
                       refine rs (v := .bool (decide (y30.Kind = 2))) (av (v := .bool (decide (y30.Kind = 2))) rfl) rfl ?_
                       refine rn ?_
                       refine qn ?_
                       cases hb48 : (decide (y30.Kind = 2))
                       · replace hp := gneg hp (of_decide_eq_false hb48)
                         refine Wcf rfl ?_
                         refine Wseq ?_
                         refine Wreg ?_
                         refine rs (v := .bool (decide (y30.Kind = 3))) (eqd rfl rfl) rfl ?_
                         refine rs (v := .bool (decide (y30.Kind = 3))) (av (v := .bool (decide (y30.Kind = 3))) rfl) rfl ?_
                         refine rn ?_
                         refine qn ?_
                         cases hb49 : (decide (y30.Kind = 3))
                         · replace hp := gneg hp (of_decide_eq_false hb49)
                           refine Wcf rfl ?_
                           refine Wskip ?_
                           refine bn ?_
                           refine qn ?_
                           replace hc := hc.rem 0 rfl rfl
                           exact ⟨⟨j25, j26, true, rfl, hp, hc⟩, (kl rfl kb)⟩
                         · replace hp := gpos hp (of_decide_eq_true hb49)
                           refine Wct rfl ?_
                           refine Wseq ?_
                           refine Wreg ?_
                           refine rs (v := .pointer (some ⟨b23, 0, none⟩)) (mv (v := .pointer (some ⟨b23, 0, none⟩)) rfl) rfl ?_
                           replace hp := bind_some hp; obtain ⟨r50, hr50, hp⟩ := hp
                           replace hc := hc.pull 1 rfl rfl
                           refine rc (cl Try.call14 rfl rfl) rfl ?_
                           refine ref24_Watch_Bump_any hc hr50 ?_
                           clear hc; intro w51 hc
                           refine rn ?_
                           refine qn ?_
                           replace hc := Ctx.exF hc; obtain ⟨v52, hc⟩ := hc
                           replace hc := Ctx.exF hc; obtain ⟨v53, hc⟩ := hc
                           replace hc := Ctx.exF hc; obtain ⟨v54, hc⟩ := hc
                           replace hc := Ctx.sepF hc
                           replace hc := Ctx.sepF hc
                           replace hc := Ctx.sepF hc
                           obtain ⟨a55, q56, u57⟩ := hc.rd (k := 1) rfl rfl reads_own; subst u57
                           obtain ⟨a58, q59, u60⟩ := hc.rd (k := 2) rfl rfl reads_own; subst u60
                           obtain ⟨a61, q62, u63⟩ := hc.rd (k := 3) rfl rfl reads_own; subst u63
                           replace hc := hc.drew
                           have hF : (fun w' => w'.cell? ⟨b23, 1, none⟩ = some (.int .i64 r50.Epoch) ∧ True) (World.drew w51) := ⟨hc.cell (k := 0) rfl rfl rfl, trivial⟩
                           refine Wdrw (fun w' => w'.cell? ⟨b23, 1, none⟩ = some (.int .i64 r50.Epoch) ∧ True) [0, 1, 0, 4, 12, 28, 63, 127] 0 rfl (by kernel_rfl) (hF) ?_
                           generalize hw : World.drew w51 = w64 at *
                           clear hw
                           refine ds (v := .pointer (some ⟨b19, 0, none⟩)) (fun w' hF => mv (v := .pointer (some ⟨b19, 0, none⟩)) rfl) rfl ?_
                           replace hp := bind_some hp; obtain ⟨r65, hr65, hp⟩ := hp
                           replace hc := hc.pull 5 rfl rfl
                           refine dc (cl Try.call15 rfl rfl) rfl rfl ?_
                           refine beat_Watch_Bump_any hc hr65 ?_
                           clear hc; intro w66 hc
                           refine ⟨⟨hc.cell (k := 1) rfl rfl rfl, trivial⟩, ?_⟩
                           refine ds (v := .pointer (some ⟨b23, 0, none⟩)) (fun w' hF => mv (v := .pointer (some ⟨b23, 0, none⟩)) rfl) rfl ?_
                           refine ds (v := .pointer (some ⟨b23, 0, none⟩)) (fun w' hF => nl rfl) rfl ?_
                           refine ds (v := .pointer (some ⟨b23, 1, none⟩)) (fun w' hF => fax 1 rfl Try.underlying38 rfl Try.sizeOf3 rfl rfl rfl) rfl ?_
                           refine ds (v := .int .i64 r50.Epoch) (fun w' hF => ld rfl Try.isAgg3 (hF.1)) rfl ?_
                           refine ds (v := .bool (decide (r65.1 = r50.Epoch))) (fun w' hF => eqd rfl rfl) rfl ?_
                           refine ds (v := .bool (decide (r65.1 = r50.Epoch))) (fun w' hF => av (v := .bool (decide (r65.1 = r50.Epoch))) rfl) rfl ?_
                           refine dn ?_
                           refine bn ?_
                           refine qn ?_
                           replace hc := hc.pull 4 rfl rfl
                           replace hc := hc.pull 4 rfl rfl
                           replace hc := hc.pull 4 rfl rfl
                           replace hc := hc.pull 4 rfl rfl
                           replace hc : Ctx w66 (S_ref24_Watch.hp b23 r50 :: S_beat_Watch.hp b19 r65.2 :: B b39 [.int .i64 y30.Kind, .int .i64 y30.Worker, .int .i64 y30.Epoch, .int .i64 y30.Life] 31 :: P2 :: Fr) := Ctx.exB _ _ (Ctx.exB _ _ (Ctx.exB _ _ (Ctx.sepB (Ctx.sepB (Ctx.sepB hc)))))
                           replace hc := hc.rem 2 rfl rfl
                           exact ⟨⟨r50, r65.2, decide (r65.1 = r50.Epoch), rfl, hp, hc⟩, (kl rfl kb)⟩
                       · replace hp := gpos hp (of_decide_eq_true hb48)
                         refine Wct rfl ?_
                         replace hc := hc.drew
                         have hF : (fun w' => w'.cell? ⟨b39, 1, none⟩ = some (.int .i64 y30.Worker) ∧ w'.cell? ⟨b39, 2, none⟩ = some (.int .i64 y30.Epoch) ∧ w'.cell? ⟨b39, 3, none⟩ = some (.int .i64 y30.Life) ∧ True) (World.drew w42) := ⟨hc.cell (k := 0) rfl rfl rfl, hc.cell (k := 0) rfl rfl rfl, hc.cell (k := 0) rfl rfl rfl, trivial⟩
                         refine Wdrw (fun w' => w'.cell? ⟨b39, 1, none⟩ = some (.int .i64 y30.Worker) ∧ w'.cell? ⟨b39, 2, none⟩ = some (.int .i64 y30.Epoch) ∧ w'.cell? ⟨b39, 3, none⟩ = some (.int .i64 y30.Life) ∧ True) [0, 0, 2, 0, 8, 0, 32, 127, 0, 0, 512, 0, 2048, 0, 8192, 32767, 65535, 131071] 84 rfl (by kernel_rfl) (hF) ?_
                         generalize hw : World.drew w42 = w67 at *
                         clear hw
                         refine ds (v := .pointer (some ⟨b19, 0, none⟩)) (fun w' hF => mv (v := .pointer (some ⟨b19, 0, none⟩)) rfl) rfl ?_
                         refine ds (v := .pointer (some ⟨b39, 1, none⟩)) (fun w' hF => fax 1 rfl Try.underlying31 rfl Try.sizeOf3 rfl rfl rfl) rfl ?_
                         refine dx (v := .int .i64 y30.Worker) (ld rfl Try.isAgg3 (Ctx.cell hc (k := 0) rfl rfl rfl)) rfl rfl ?_
                         refine ds (v := .pointer (some ⟨b39, 2, none⟩)) (fun w' hF => fax 2 rfl Try.underlying31 rfl Try.sizeOf3 rfl rfl rfl) rfl ?_
                         refine dx (v := .int .i64 y30.Epoch) (ld rfl Try.isAgg3 (Ctx.cell hc (k := 0) rfl rfl rfl)) rfl rfl ?_
                         refine ds (v := .pointer (some ⟨b39, 3, none⟩)) (fun w' hF => fax 3 rfl Try.underlying31 rfl Try.sizeOf3 rfl rfl rfl) rfl ?_
                         refine dx (v := .int .i64 y30.Life) (ld rfl Try.isAgg3 (Ctx.cell hc (k := 0) rfl rfl rfl)) rfl rfl ?_
                         replace hp := bind_some hp; obtain ⟨r68, hr68, hp⟩ := hp
                         replace hc := hc.pull 2 rfl rfl
                         refine dc (cl Try.call13 rfl rfl) rfl rfl ?_
                         refine beat_Watch_Ready_any hc hr68 ?_
                         clear hc; intro w69 hc
                         refine ⟨⟨hc.cell (k := 1) rfl rfl rfl, hc.cell (k := 1) rfl rfl rfl, hc.cell (k := 1) rfl rfl rfl, trivial⟩, ?_⟩
                         refine ds (v := .pointer (some ⟨b23, 0, none⟩)) (fun w' hF => mv (v := .pointer (some ⟨b23, 0, none⟩)) rfl) rfl ?_
                         refine ds (v := .pointer (some ⟨b39, 1, none⟩)) (fun w' hF => fax 1 rfl Try.underlying31 rfl Try.sizeOf3 rfl rfl rfl) rfl ?_
                         refine ds (v := .int .i64 y30.Worker) (fun w' hF => ld rfl Try.isAgg3 (hF.1)) rfl ?_
                         refine ds (v := .pointer (some ⟨b39, 2, none⟩)) (fun w' hF => fax 2 rfl Try.underlying31 rfl Try.sizeOf3 rfl rfl rfl) rfl ?_
                         refine ds (v := .int .i64 y30.Epoch) (fun w' hF => ld rfl Try.isAgg3 (hF.2.1)) rfl ?_
                         refine ds (v := .pointer (some ⟨b39, 3, none⟩)) (fun w' hF => fax 3 rfl Try.underlying31 rfl Try.sizeOf3 rfl rfl rfl) rfl ?_
                         refine ds (v := .int .i64 y30.Life) (fun w' hF => ld rfl Try.isAgg3 (hF.2.2.1)) rfl ?_
                         replace hp := bind_some hp; obtain ⟨r70, hr70, hp⟩ := hp
                         replace hc := hc.pull 2 rfl rfl
                         refine dc (cl Try.call12 rfl rfl) rfl rfl ?_
                         refine ref24_Watch_Hear_any hc hr70 ?_
                         clear hc; intro w71 hc
                         refine ⟨⟨hc.cell (k := 2) rfl rfl rfl, hc.cell (k := 2) rfl rfl rfl, hc.cell (k := 2) rfl rfl rfl, trivial⟩, ?_⟩
                         refine ds (v := .bool (r68.1 == r70.1)) (fun w' hF => eqb Try.underlying4 rfl rfl) rfl ?_
                         refine ds (v := .bool (r68.1 == r70.1)) (fun w' hF => av (v := .bool (r68.1 == r70.1)) rfl) rfl ?_
                         refine dn ?_
                         refine bn ?_
                         refine qn ?_
                         replace hc := hc.rem 2 rfl rfl
                         exact ⟨⟨r70.2, r68.2, (r68.1 == r70.1), rfl, hp, hc⟩, (kl rfl kb)⟩
                     · replace hp := gpos hp (of_decide_eq_true hb47)
                       refine Wct rfl ?_
                       replace hc := hc.drew
                       have hF : (fun w' => w'.cell? ⟨b39, 1, none⟩ = some (.int .i64 y30.Worker) ∧ w'.cell? ⟨b39, 2, none⟩ = some (.int .i64 y30.Epoch) ∧ w'.cell? ⟨b39, 3, none⟩ = some (.int .i64 y30.Life) ∧ True) (World.drew w42) := ⟨hc.cell (k := 0) rfl rfl rfl, hc.cell (k := 0) rfl rfl rfl, hc.cell (k := 0) rfl rfl rfl, trivial⟩
                       refine Wdrw (fun w' => w'.cell? ⟨b39, 1, none⟩ = some (.int .i64 y30.Worker) ∧ w'.cell? ⟨b39, 2, none⟩ = some (.int .i64 y30.Epoch) ∧ w'.cell? ⟨b39, 3, none⟩ = some (.int .i64 y30.Life) ∧ True) [0, 0, 2, 0, 8, 0, 32, 127, 0, 0, 512, 0, 2048, 0, 8192, 32767, 65535, 131071] 84 rfl (by kernel_rfl) (hF) ?_
                       generalize hw : World.drew w42 = w72 at *
                       clear hw
                       refine ds (v := .pointer (some ⟨b19, 0, none⟩)) (fun w' hF => mv (v := .pointer (some ⟨b19, 0, none⟩)) rfl) rfl ?_
                       refine ds (v := .pointer (some ⟨b39, 1, none⟩)) (fun w' hF => fax 1 rfl Try.underlying31 rfl Try.sizeOf3 rfl rfl rfl) rfl ?_
                       refine dx (v := .int .i64 y30.Worker) (ld rfl Try.isAgg3 (Ctx.cell hc (k := 0) rfl rfl rfl)) rfl rfl ?_
                       refine ds (v := .pointer (some ⟨b39, 2, none⟩)) (fun w' hF => fax 2 rfl Try.underlying31 rfl Try.sizeOf3 rfl rfl rfl) rfl ?_
                       refine dx (v := .int .i64 y30.Epoch) (ld rfl Try.isAgg3 (Ctx.cell hc (k := 0) rfl rfl rfl)) rfl rfl ?_
                       refine ds (v := .pointer (some ⟨b39, 3, none⟩)) (fun w' hF => fax 3 rfl Try.underlying31 rfl Try.sizeOf3 rfl rfl rfl) rfl ?_
                       refine dx (v := .int .i64 y30.Life) (ld rfl Try.isAgg3 (Ctx.cell hc (k := 0) rfl rfl rfl)) rfl rfl ?_
                       replace hp := bind_some hp; obtain ⟨r73, hr73, hp⟩ := hp
                       replace hc := hc.pull 2 rfl rfl
                       refine dc (cl Try.call11 rfl rfl) rfl rfl ?_
                       refine beat_Watch_Beat_any hc hr73 ?_
                       clear hc; intro w74 hc
                       refine ⟨⟨hc.cell (k := 1) rfl rfl rfl, hc.cell (k := 1) rfl rfl rfl, hc.cell (k := 1) rfl rfl rfl, trivial⟩, ?_⟩
                       refine ds (v := .pointer (some ⟨b23, 0, none⟩)) (fun w' hF => mv (v := .pointer (some ⟨b23, 0, none⟩)) rfl) rfl ?_
                       refine ds (v := .pointer (some ⟨b39, 1, none⟩)) (fun w' hF => fax 1 rfl Try.underlying31 rfl Try.sizeOf3 rfl rfl rfl) rfl ?_
                       refine ds (v := .int .i64 y30.Worker) (fun w' hF => ld rfl Try.isAgg3 (hF.1)) rfl ?_
                       refine ds (v := .pointer (some ⟨b39, 2, none⟩)) (fun w' hF => fax 2 rfl Try.underlying31 rfl Try.sizeOf3 rfl rfl rfl) rfl ?_
                       refine ds (v := .int .i64 y30.Epoch) (fun w' hF => ld rfl Try.isAgg3 (hF.2.1)) rfl ?_
                       refine ds (v := .pointer (some ⟨b39, 3, none⟩)) (fun w' hF => fax 3 rfl Try.underlying31 rfl Try.sizeOf3 rfl rfl rfl) rfl ?_
                       refine ds (v := .int .i64 y30.Life) (fun w' hF => ld rfl Try.isAgg3 (hF.2.2.1)) rfl ?_
                       replace hp := bind_some hp; obtain ⟨r75, hr75, hp⟩ := hp
                       replace hc := hc.pull 2 rfl rfl
                       refine dc (cl Try.call12 rfl rfl) rfl rfl ?_
                       refine ref24_Watch_Hear_any hc hr75 ?_
                       clear hc; intro w76 hc
                       refine ⟨⟨hc.cell (k := 2) rfl rfl rfl, hc.cell (k := 2) rfl rfl rfl, hc.cell (k := 2) rfl rfl rfl, trivial⟩, ?_⟩
                       refine ds (v := .bool (r73.1 == r75.1)) (fun w' hF => eqb Try.underlying4 rfl rfl) rfl ?_
                       refine ds (v := .bool (r73.1 == r75.1)) (fun w' hF => av (v := .bool (r73.1 == r75.1)) rfl) rfl ?_
                       refine dn ?_
                       refine bn ?_
                       refine qn ?_
                       replace hc := hc.rem 2 rfl rfl
                       exact ⟨⟨r75.2, r73.2, (r73.1 == r75.1), rfl, hp, hc⟩, (kl rfl kb)⟩
                   · replace hp := gpos hp (of_decide_eq_true hb46)
                     refine Wct rfl ?_
                     refine Wreg ?_
                     refine rs (v := .pointer (some ⟨b19, 0, none⟩)) (mv (v := .pointer (some ⟨b19, 0, none⟩)) rfl) rfl ?_
                     replace hp := bind_some hp; obtain ⟨r77, hr77, hp⟩ := hp
                     replace hc := hc.pull 2 rfl rfl
                     refine rc (cl Try.call9 rfl rfl) rfl ?_
                     refine beat_Watch_Tick_any hc hr77 ?_
                     clear hc; intro w78 hc
                     refine rs (v := .pointer (some ⟨b23, 0, none⟩)) (mv (v := .pointer (some ⟨b23, 0, none⟩)) rfl) rfl ?_
                     replace hp := bind_some hp; obtain ⟨r79, hr79, hp⟩ := hp
                     replace hc := hc.pull 2 rfl rfl
                     refine rc (cl Try.call10 rfl rfl) rfl ?_
                     refine ref24_Watch_Tick_any hc hr79 ?_
                     clear hc; intro w80 hc
                     refine rs (v := .bool (r77.1 == r79.1)) (eqb Try.underlying4 rfl rfl) rfl ?_
                     refine rs (v := .bool (r77.1 == r79.1)) (av (v := .bool (r77.1 == r79.1)) rfl) rfl ?_
                     refine rn ?_
                     refine bn ?_
                     refine qn ?_
                     replace hc := hc.rem 2 rfl rfl
                     exact ⟨⟨r79.2, r77.2, (r77.1 == r79.1), rfl, hp, hc⟩, (kl rfl kb)⟩
                 · clear hp hc; intro vs u w81 hJ
                   obtain ⟨j43, j44, j45, rfl, hp, hc⟩ := hJ
                   unfold law24_BeatActs.J3 at hp
                   refine Wseq ?_
                   refine Wreg ?_
                   refine rs (v := .pointer (some ⟨b23, 0, none⟩)) (mv (v := .pointer (some ⟨b23, 0, none⟩)) rfl) rfl ?_
                   replace hp := bind_some hp; obtain ⟨r82, hr82, hp⟩ := hp
                   refine rc (cl Try.call16 rfl rfl) rfl ?_
                   refine ref24_Watch_Lists_any hc hr82 ?_
                   clear hc; intro a83 n84 q85 a86 n87 q88 w89 hc
                   obtain ⟨u90, _⟩ := Ctx.rdLen hc (k := 0) rfl rfl reads_own; subst u90
                   obtain ⟨u91, _⟩ := Ctx.rdLen hc (k := 1) rfl rfl reads_own; subst u91
                   refine rs (v := .tuple #[.slice a83 r82.1.length q85, .slice a86 r82.2.length q88]) (mv (v := .tuple #[.slice a83 r82.1.length q85, .slice a86 r82.2.length q88]) rfl) rfl ?_
                   refine rs (v := .slice a83 r82.1.length q85) (ext (v := .slice a83 r82.1.length q85) rfl rfl) rfl ?_
                   refine rs (v := .slice a86 r82.2.length q88) (ext (v := .slice a86 r82.2.length q88) rfl rfl) rfl ?_
                   refine rs (v := .slice a83 r82.1.length q85) (av (v := .slice a83 r82.1.length q85) rfl) rfl ?_
                   refine rs (v := .slice a86 r82.2.length q88) (av (v := .slice a86 r82.2.length q88) rfl) rfl ?_
                   refine rn ?_
                   refine qn ?_
                   refine Wseq ?_
                   replace hc := hc.pull 2 rfl rfl
                   replace hc := Ctx.exF hc; obtain ⟨v92, hc⟩ := hc
                   replace hc := Ctx.exF hc; obtain ⟨v93, hc⟩ := hc
                   replace hc := Ctx.exF hc; obtain ⟨v94, hc⟩ := hc
                   replace hc := Ctx.sepF hc
                   replace hc := Ctx.sepF hc
                   replace hc := Ctx.sepF hc
                   obtain ⟨a95, q96, u97⟩ := hc.rd (k := 1) rfl rfl reads_own; subst u97
                   obtain ⟨a98, q99, u100⟩ := hc.rd (k := 2) rfl rfl reads_own; subst u100
                   obtain ⟨a101, q102, u103⟩ := hc.rd (k := 3) rfl rfl reads_own; subst u103
                   replace hc := hc.drew
                   have hF : (fun w' => w'.cell? ⟨b23, 1, none⟩ = some (.int .i64 j43.Epoch) ∧ True) (World.drew w89) := ⟨hc.cell (k := 0) rfl rfl rfl, trivial⟩
                   refine Wdrw (fun w' => w'.cell? ⟨b23, 1, none⟩ = some (.int .i64 j43.Epoch) ∧ True) [0, 1, 3, 7, 15, 7, 39, 103, 231, 511, 1023, 2047, 4095, 8191, 4095, 20479, 53247, 131071, 262143, 524287, 1048575, 2097151, 1048575, 8388607, 16777215, 33554431, 67108863, 134217727, 268435455, 134217727, 1073741823, 2147483647, 4294967295] 0 rfl (by kernel_rfl) (hF) ?_
                   generalize hw : World.drew w89 = w104 at *
                   clear hw
                   refine ds (v := .bool j45) (fun w' hF => mv (v := .bool j45) rfl) rfl ?_
                   cases hb105 : j45
                   · replace hp := gneg hp (by rw [hb105]; exact Bool.false_ne_true)
                     subst hb105
                     refine ds (v := .bool true) (fun w' hF => ntf rfl) rfl ?_
                     refine ds (v := .bool true) (fun w' hF => mv (v := .bool true) rfl) rfl ?_
                     refine d0 rfl ?_
                     refine d0 rfl ?_
                     refine d0 rfl ?_
                     refine d0 rfl ?_
                     refine d0 rfl ?_
                     refine d0 rfl ?_
                     refine d0 rfl ?_
                     refine ds (v := .bool true) (fun w' hF => pkt (v := .bool true) rfl rfl) rfl ?_
                     refine ds (v := .bool true) (fun w' hF => mv (v := .bool true) rfl) rfl ?_
                     refine d0 rfl ?_
                     refine d0 rfl ?_
                     refine d0 rfl ?_
                     refine d0 rfl ?_
                     refine d0 rfl ?_
                     refine d0 rfl ?_
                     refine ds (v := .bool true) (fun w' hF => pkt (v := .bool true) rfl rfl) rfl ?_
                     refine ds (v := .bool true) (fun w' hF => mv (v := .bool true) rfl) rfl ?_
                     refine d0 rfl ?_
                     refine d0 rfl ?_
                     refine d0 rfl ?_
                     refine d0 rfl ?_
                     refine d0 rfl ?_
                     refine ds (v := .bool true) (fun w' hF => pkt (v := .bool true) rfl rfl) rfl ?_
                     refine ds (v := .bool true) (fun w' hF => mv (v := .bool true) rfl) rfl ?_
                     refine d0 rfl ?_
                     refine d0 rfl ?_
                     refine d0 rfl ?_
                     refine d0 rfl ?_
                     refine d0 rfl ?_
                     refine ds (v := .bool true) (fun w' hF => pkt (v := .bool true) rfl rfl) rfl ?_
                     refine dn ?_
                     refine qn ?_
                     refine Wct rfl ?_
                     refine Wseq ?_
                     refine Wreg ?_
                     refine rs (v := .bool false) (av (v := .bool false) rfl) rfl ?_
                     refine rn ?_
                     refine qn ?_
                     refine Wret ?_
                     refine br ?_
                     refine qr ?_
                     refine qr ?_
                     refine br ?_
                     refine qr ?_
                     replace hc := hc.rem 6 rfl rfl
                     replace hc := hc.rem 5 rfl rfl
                     replace hc := hc.rem 4 rfl rfl
                     replace hc := hc.rem 3 rfl rfl
                     replace hc := hc.rem 2 rfl rfl
                     replace hc := hc.rem 1 rfl rfl
                     replace hc := hc.rem 0 rfl rfl
                     injection hp with hp; subst hp
                     refine f1 (v := .bool false) Try.results3 Try.ntmps3 rfl ?_
                     exact ⟨_, rfl, k _ hc⟩
                   · replace hp := gpos hp hb105
                     subst hb105
                     refine ds (v := .bool false) (fun w' hF => ntt rfl) rfl ?_
                     refine ds (v := .bool false) (fun w' hF => mv (v := .bool false) rfl) rfl ?_
                     refine ds (v := .pointer (some ⟨b19, 0, none⟩)) (fun w' hF => mv (v := .pointer (some ⟨b19, 0, none⟩)) rfl) rfl ?_
                     replace hp := bind_some hp; obtain ⟨r106, hr106, hp⟩ := hp
                     replace hc := hc.pull 6 rfl rfl
                     refine dc (cl Try.call17 rfl rfl) rfl rfl ?_
                     refine beat_Watch_Epoch_any hc hr106 ?_
                     clear hc; intro w107 hc
                     refine ⟨⟨hc.cell (k := 1) rfl rfl rfl, trivial⟩, ?_⟩
                     refine ds (v := .pointer (some ⟨b23, 0, none⟩)) (fun w' hF => mv (v := .pointer (some ⟨b23, 0, none⟩)) rfl) rfl ?_
                     refine ds (v := .pointer (some ⟨b23, 0, none⟩)) (fun w' hF => nl rfl) rfl ?_
                     refine ds (v := .pointer (some ⟨b23, 1, none⟩)) (fun w' hF => fax 1 rfl Try.underlying38 rfl Try.sizeOf3 rfl rfl rfl) rfl ?_
                     refine ds (v := .int .i64 j43.Epoch) (fun w' hF => ld rfl Try.isAgg3 (hF.1)) rfl ?_
                     refine ds (v := .bool (decide (r106 ≠ j43.Epoch))) (fun w' hF => ned rfl rfl) rfl ?_
                     refine ds (v := .bool (decide (r106 ≠ j43.Epoch))) (fun w' hF => pkf (v := .bool (decide (r106 ≠ j43.Epoch))) rfl rfl) rfl ?_
                     refine ds (v := .bool (decide (r106 ≠ j43.Epoch))) (fun w' hF => mv (v := .bool (decide (r106 ≠ j43.Epoch))) rfl) rfl ?_
                     cases hb108 : (decide (r106 ≠ j43.Epoch))
                     · replace hp := gneg hp (of_decide_eq_false hb108)
                       refine ds (v := .pointer (some ⟨b19, 0, none⟩)) (fun w' hF => mv (v := .pointer (some ⟨b19, 0, none⟩)) rfl) rfl ?_
                       replace hp := bind_some hp; obtain ⟨r109, hr109, hp⟩ := hp
                       refine dc (cl Try.call18 rfl rfl) rfl rfl ?_
                       refine beat_Watch_Whole_any hc hr109 ?_
                       clear hc; intro w110 hc
                       refine ⟨⟨hc.cell (k := 1) rfl rfl rfl, trivial⟩, ?_⟩
                       refine ds (v := .slice a83 r82.1.length q85) (fun w' hF => mv (v := .slice a83 r82.1.length q85) rfl) rfl ?_
                       refine ds (v := .int .i64 ((r82.1.length : Nat) : Int)) (fun w' hF => ln rfl Try.underlying36) rfl ?_
                       refine ds (v := .bool (decide (((r82.1.length : Nat) : Int) = 0))) (fun w' hF => eqd rfl rfl) rfl ?_
                       refine ds (v := .bool (!(r109 == (decide (((r82.1.length : Nat) : Int) = 0))))) (fun w' hF => neb Try.underlying4 rfl rfl) rfl ?_
                       refine ds (v := .bool (!(r109 == (decide (((r82.1.length : Nat) : Int) = 0))))) (fun w' hF => pkf (v := .bool (!(r109 == (decide (((r82.1.length : Nat) : Int) = 0))))) rfl rfl) rfl ?_
                       refine ds (v := .bool (!(r109 == (decide (((r82.1.length : Nat) : Int) = 0))))) (fun w' hF => mv (v := .bool (!(r109 == (decide (((r82.1.length : Nat) : Int) = 0))))) rfl) rfl ?_
                       cases hb111 : (!(r109 == (decide (((r82.1.length : Nat) : Int) = 0))))
                       · replace hp := gneg hp (by rw [hb111]; exact Bool.false_ne_true)
                         refine ds (v := .pointer (some ⟨b19, 0, none⟩)) (fun w' hF => mv (v := .pointer (some ⟨b19, 0, none⟩)) rfl) rfl ?_
                         replace hp := bind_some hp; obtain ⟨r112, hr112, hp⟩ := hp
                         refine dc (cl Try.call20 rfl rfl) rfl rfl ?_
                         refine beat_Watch_Missing_any hc hr112 ?_
                         clear hc; intro a113 n114 q115 w116 hc
                         obtain ⟨u117, _⟩ := Ctx.rdLen hc (k := 0) rfl rfl reads_own; subst u117
                         refine ⟨⟨hc.cell (k := 2) rfl rfl rfl, trivial⟩, ?_⟩
                         refine ds (v := .slice a83 r82.1.length q85) (fun w' hF => mv (v := .slice a83 r82.1.length q85) rfl) rfl ?_
                         replace hp := bind_some hp; obtain ⟨r118, hr118, hp⟩ := hp
                         replace hc := hc.pull 6 rfl rfl
                         replace hc := hc.pull 1 rfl rfl
                         refine dc (cl Try.call19 rfl rfl) rfl rfl ?_
                         refine ref09_Ints_any reads_own reads_own hc hr118 ?_
                         clear hc; intro w119 hc
                         refine ⟨⟨hc.cell (k := 3) rfl rfl rfl, trivial⟩, ?_⟩
                         cases hb120 : r118
                         · replace hp := gneg hp (by rw [hb120]; exact Bool.false_ne_true)
                           subst hb120
                           refine ds (v := .bool true) (fun w' hF => ntf rfl) rfl ?_
                           refine ds (v := .bool true) (fun w' hF => pkf (v := .bool true) rfl rfl) rfl ?_
                           refine ds (v := .bool true) (fun w' hF => mv (v := .bool true) rfl) rfl ?_
                           refine d0 rfl ?_
                           refine d0 rfl ?_
                           refine d0 rfl ?_
                           refine d0 rfl ?_
                           refine d0 rfl ?_
                           refine ds (v := .bool true) (fun w' hF => pkt (v := .bool true) rfl rfl) rfl ?_
                           refine dn ?_
                           refine qn ?_
                           refine Wct rfl ?_
                           refine Wseq ?_
                           refine Wreg ?_
                           refine rs (v := .bool false) (av (v := .bool false) rfl) rfl ?_
                           refine rn ?_
                           refine qn ?_
                           refine Wret ?_
                           refine br ?_
                           refine qr ?_
                           refine qr ?_
                           refine br ?_
                           refine qr ?_
                           replace hc := hc.rem 7 rfl rfl
                           replace hc := hc.rem 6 rfl rfl
                           replace hc := hc.rem 5 rfl rfl
                           replace hc := hc.rem 4 rfl rfl
                           replace hc := hc.rem 3 rfl rfl
                           replace hc := hc.rem 2 rfl rfl
                           replace hc := hc.rem 1 rfl rfl
                           replace hc := hc.rem 0 rfl rfl
                           injection hp with hp; subst hp
                           refine f1 (v := .bool false) Try.results3 Try.ntmps3 rfl ?_
                           exact ⟨_, rfl, k _ hc⟩
                         · replace hp := gpos hp hb120
                           subst hb120
                           refine ds (v := .bool false) (fun w' hF => ntt rfl) rfl ?_
                           refine ds (v := .bool false) (fun w' hF => pkf (v := .bool false) rfl rfl) rfl ?_
                           refine ds (v := .bool false) (fun w' hF => mv (v := .bool false) rfl) rfl ?_
                           refine ds (v := .pointer (some ⟨b19, 0, none⟩)) (fun w' hF => mv (v := .pointer (some ⟨b19, 0, none⟩)) rfl) rfl ?_
                           replace hp := bind_some hp; obtain ⟨r121, hr121, hp⟩ := hp
                           replace hc := hc.pull 2 rfl rfl
                           refine dc (cl Try.call21 rfl rfl) rfl rfl ?_
                           refine beat_Watch_Late_any hc hr121 ?_
                           clear hc; intro a122 n123 q124 w125 hc
                           obtain ⟨u126, _⟩ := Ctx.rdLen hc (k := 0) rfl rfl reads_own; subst u126
                           refine ⟨⟨hc.cell (k := 4) rfl rfl rfl, trivial⟩, ?_⟩
                           refine ds (v := .slice a86 r82.2.length q88) (fun w' hF => mv (v := .slice a86 r82.2.length q88) rfl) rfl ?_
                           replace hp := bind_some hp; obtain ⟨r127, hr127, hp⟩ := hp
                           replace hc := hc.pull 8 rfl rfl
                           replace hc := hc.pull 1 rfl rfl
                           refine dc (cl Try.call19 rfl rfl) rfl rfl ?_
                           refine ref09_Ints_any reads_own reads_own hc hr127 ?_
                           clear hc; intro w128 hc
                           refine ⟨⟨hc.cell (k := 5) rfl rfl rfl, trivial⟩, ?_⟩
                           cases hb129 : r127
                           · replace hp := gneg hp (by rw [hb129]; exact Bool.false_ne_true)
                             subst hb129
                             refine ds (v := .bool true) (fun w' hF => ntf rfl) rfl ?_
                             refine ds (v := .bool true) (fun w' hF => pkf (v := .bool true) rfl rfl) rfl ?_
                             refine dn ?_
                             refine qn ?_
                             refine Wct rfl ?_
                             refine Wseq ?_
                             refine Wreg ?_
                             refine rs (v := .bool false) (av (v := .bool false) rfl) rfl ?_
                             refine rn ?_
                             refine qn ?_
                             refine Wret ?_
                             refine br ?_
                             refine qr ?_
                             refine qr ?_
                             refine br ?_
                             refine qr ?_
                             replace hc := hc.rem 8 rfl rfl
                             replace hc := hc.rem 7 rfl rfl
                             replace hc := hc.rem 6 rfl rfl
                             replace hc := hc.rem 5 rfl rfl
                             replace hc := hc.rem 4 rfl rfl
                             replace hc := hc.rem 3 rfl rfl
                             replace hc := hc.rem 2 rfl rfl
                             replace hc := hc.rem 1 rfl rfl
                             replace hc := hc.rem 0 rfl rfl
                             injection hp with hp; subst hp
                             refine f1 (v := .bool false) Try.results3 Try.ntmps3 rfl ?_
                             exact ⟨_, rfl, k _ hc⟩
                           · replace hp := gpos hp hb129
                             subst hb129
                             refine ds (v := .bool false) (fun w' hF => ntt rfl) rfl ?_
                             refine ds (v := .bool false) (fun w' hF => pkf (v := .bool false) rfl rfl) rfl ?_
                             refine dn ?_
                             refine qn ?_
                             refine Wcf rfl ?_
                             refine Wskip ?_
                             refine bn ?_
                             refine qn ?_
                             refine Wreg ?_
                             refine rs (v := .int .i64 j27) (mv (v := .int .i64 j27) rfl) rfl ?_
                             refine rs (v := .int .i64 (IntKind.i64.wrap (j27 + 1))) (adw rfl rfl) rfl ?_
                             refine rs (v := .int .i64 (IntKind.i64.wrap (j27 + 1))) (av (v := .int .i64 (IntKind.i64.wrap (j27 + 1))) rfl) rfl ?_
                             refine rn ?_
                             refine qn ?_
                             replace hc := hc.pull 8 rfl rfl
                             replace hc := hc.pull 8 rfl rfl
                             replace hc := hc.pull 8 rfl rfl
                             replace hc := hc.pull 8 rfl rfl
                             replace hc : Ctx w128 (S_ref24_Watch.hp b23 j43 :: Own (pInt .i64) 3 (.slice a122 r121.length q124) r121 :: Own (pInt .i64) 3 (.slice a86 r82.2.length q88) r82.2 :: S_beat_Watch.hp b19 j44 :: Own (pInt .i64) 3 (.slice a113 r112.length q115) r112 :: Own (pInt .i64) 3 (.slice a83 r82.1.length q85) r82.1 :: P2 :: Fr) := Ctx.exB _ _ (Ctx.exB _ _ (Ctx.exB _ _ (Ctx.sepB (Ctx.sepB (Ctx.sepB hc)))))
                             replace hc := hc.rem 5 rfl rfl
                             replace hc := hc.rem 4 rfl rfl
                             replace hc := hc.rem 2 rfl rfl
                             replace hc := hc.rem 1 rfl rfl
                             exact ⟨m2, Nat.lt_succ_self _, ⟨j43, j44, (IntKind.i64.wrap (j27 + 1)), rfl, hp, hc⟩, (kl rfl (km rfl (kl rfl k0)))⟩
                       · replace hp := gpos hp hb111
                         refine d0 rfl ?_
                         refine d0 rfl ?_
                         refine d0 rfl ?_
                         refine d0 rfl ?_
                         refine d0 rfl ?_
                         refine ds (v := .bool true) (fun w' hF => pkt (v := .bool true) rfl rfl) rfl ?_
                         refine ds (v := .bool true) (fun w' hF => mv (v := .bool true) rfl) rfl ?_
                         refine d0 rfl ?_
                         refine d0 rfl ?_
                         refine d0 rfl ?_
                         refine d0 rfl ?_
                         refine d0 rfl ?_
                         refine ds (v := .bool true) (fun w' hF => pkt (v := .bool true) rfl rfl) rfl ?_
                         refine dn ?_
                         refine qn ?_
                         refine Wct rfl ?_
                         refine Wseq ?_
                         refine Wreg ?_
                         refine rs (v := .bool false) (av (v := .bool false) rfl) rfl ?_
                         refine rn ?_
                         refine qn ?_
                         refine Wret ?_
                         refine br ?_
                         refine qr ?_
                         refine qr ?_
                         refine br ?_
                         refine qr ?_
                         replace hc := hc.rem 6 rfl rfl
                         replace hc := hc.rem 5 rfl rfl
                         replace hc := hc.rem 4 rfl rfl
                         replace hc := hc.rem 3 rfl rfl
                         replace hc := hc.rem 2 rfl rfl
                         replace hc := hc.rem 1 rfl rfl
                         replace hc := hc.rem 0 rfl rfl
                         injection hp with hp; subst hp
                         refine f1 (v := .bool false) Try.results3 Try.ntmps3 rfl ?_
                         exact ⟨_, rfl, k _ hc⟩
                     · replace hp := gpos hp (of_decide_eq_true hb108)
                       refine d0 rfl ?_
                       refine d0 rfl ?_
                       refine d0 rfl ?_
                       refine d0 rfl ?_
                       refine d0 rfl ?_
                       refine d0 rfl ?_
                       refine ds (v := .bool true) (fun w' hF => pkt (v := .bool true) rfl rfl) rfl ?_
                       refine ds (v := .bool true) (fun w' hF => mv (v := .bool true) rfl) rfl ?_
                       refine d0 rfl ?_
                       refine d0 rfl ?_
                       refine d0 rfl ?_
                       refine d0 rfl ?_
                       refine d0 rfl ?_
                       refine ds (v := .bool true) (fun w' hF => pkt (v := .bool true) rfl rfl) rfl ?_
                       refine ds (v := .bool true) (fun w' hF => mv (v := .bool true) rfl) rfl ?_
                       refine d0 rfl ?_
                       refine d0 rfl ?_
                       refine d0 rfl ?_
                       refine d0 rfl ?_
                       refine d0 rfl ?_
                       refine ds (v := .bool true) (fun w' hF => pkt (v := .bool true) rfl rfl) rfl ?_
                       refine dn ?_
                       refine qn ?_
                       refine Wct rfl ?_
                       refine Wseq ?_
                       refine Wreg ?_
                       refine rs (v := .bool false) (av (v := .bool false) rfl) rfl ?_
                       refine rn ?_
                       refine qn ?_
                       refine Wret ?_
                       refine br ?_
                       refine qr ?_
                       refine qr ?_
                       refine br ?_
                       refine qr ?_
                       replace hc := hc.rem 6 rfl rfl
                       replace hc := hc.rem 5 rfl rfl
                       replace hc := hc.rem 4 rfl rfl
                       replace hc := hc.rem 3 rfl rfl
                       replace hc := hc.rem 2 rfl rfl
                       replace hc := hc.rem 1 rfl rfl
                       replace hc := hc.rem 0 rfl rfl
                       injection hp with hp; subst hp
                       refine f1 (v := .bool false) Try.results3 Try.ntmps3 rfl ?_
                       exact ⟨_, rfl, k _ hc⟩
           · replace hp := gpos hp (of_decide_eq_true hb21)
             refine Wct rfl ?_
             refine Wseq ?_
             refine Wreg ?_
             refine rs (v := .bool false) (av (v := .bool false) rfl) rfl ?_
             refine rn ?_
             refine qn ?_
             refine Wret ?_
             refine qr ?_
             replace hc := hc.rem 0 rfl rfl
             injection hp with hp; subst hp
             refine f1 (v := .bool false) Try.results3 Try.ntmps3 rfl ?_
             exact ⟨_, rfl, k _ hc⟩
       · replace hp := gpos hp hb15
         subst hb15
         refine Wct rfl ?_
         refine Wseq ?_
         refine Wreg ?_
         refine rs (v := v8) (mv (v := v8) rfl) rfl ?_
         cases hb130 : r7.1
         · replace hp := optN hp hb130
           rw [hb130] at hc
           replace hc := Ctx.ptoN hc; obtain ⟨u132, hc⟩ := hc; subst u132
           refine rs (v := .bool true) (ept Try.underlying24 rfl rfl) rfl ?_
           refine rs (v := .bool true) (mv (v := .bool true) rfl) rfl ?_
           refine rs (v := .int .i64 r7.2) (mv (v := .int .i64 r7.2) rfl) rfl ?_
           refine rs (v := .bool (decide (r7.2 = 2))) (eqd rfl rfl) rfl ?_
           refine rs (v := .bool (decide (r7.2 = 2))) (pkt (v := .bool (decide (r7.2 = 2))) rfl rfl) rfl ?_
           refine rs (v := .bool (decide (r7.2 = 2))) (av (v := .bool (decide (r7.2 = 2))) rfl) rfl ?_
           refine rn ?_
           refine qn ?_
           refine Wret ?_
           refine qr ?_
           injection hp with hp; subst hp
           refine f1 (v := .bool (decide (r7.2 = 2))) Try.results3 Try.ntmps3 rfl ?_
           exact ⟨_, rfl, k _ hc⟩
         · rename_i y131
           replace hp := optS hp hb130
           rw [hb130] at hc
           replace hc := Ctx.ptoS hc; obtain ⟨b133, u134, hc⟩ := hc; subst u134
           refine rs (v := .bool false) (epf Try.underlying24 rfl rfl) rfl ?_
           refine rs (v := .bool false) (mv (v := .bool false) rfl) rfl ?_
           refine r0 rfl ?_
           refine r0 rfl ?_
           refine rs (v := .bool false) (pkf (v := .bool false) rfl rfl) rfl ?_
           refine rs (v := .bool false) (av (v := .bool false) rfl) rfl ?_
           refine rn ?_
           refine qn ?_
           refine Wret ?_
           refine qr ?_
           replace hc := hc.rem 0 rfl rfl
           injection hp with hp; subst hp
           refine f1 (v := .bool false) Try.results3 Try.ntmps3 rfl ?_
           exact ⟨_, rfl, k _ hc⟩
   · replace hp := gpos hp (of_decide_eq_true hb6)
     refine Wct rfl ?_
     refine Wseq ?_
     refine Wreg ?_
     replace hp := bind_some hp; obtain ⟨r135, hr135, hp⟩ := hp
     refine rc (cl Try.call6 rfl rfl) rfl ?_
     refine law24_awake_any hc hr135 ?_
     clear hc; intro w136 hc
     refine rs (v := .bool r135) (av (v := .bool r135) rfl) rfl ?_
     refine rn ?_
     refine qn ?_
     refine Wret ?_
     refine qr ?_
     injection hp with hp; subst hp
     refine f1 (v := .bool r135) Try.results3 Try.ntmps3 rfl ?_
     exact ⟨_, rfl, k _ hc⟩

end Go.Proofs.Ytmphbmocpiolfaa
