/- What the law needs. -/
import Derived.Test.YtbfiagimgokccaaGreatMBlockWholeh
section
namespace Go.Proofs.YtbfiagimgokccaaGreat
open Go Go.RowKit Go.Hp
set_option linter.unusedVariables false
set_option linter.unusedSimpArgs false
set_option maxRecDepth 100000
set_option maxHeartbeats 8000000

def ref01_Near (x0 : Int) (x1 : Int) (x2 : Int) : Option (Int) :=
  if x0 < x1 then
    some x1
  else
    if x0 > x2 then
      some x2
    else
      some x0

theorem ref01_Near_any {x0 x1 x2 r : Int} {Fr : List HP} {w : World} {K : Value → World → Prop}  (hc : Ctx w (Fr)) (hp : ref01_Near x0 x1 x2 = some r)
    (k : ∀ w', Ctx w' (Fr) → K (.int .i64 r) w') : Calls Tryz.prog 51 #[.int .i64 x0, .int .i64 x1, .int .i64 x2] w (Ret K) := by
 unfold ref01_Near at hp; refine Center3 F51 M51 rfl rfl ?_; refine Wseq (Wreg ?_); refine au 1 rfl <| rn (qn (Wseq (Wseq (Wreg ?_)))); refine au 3 rfl <| rn (qn ?_); refine Wif hp (fun _ hp => ?_) fun _ hp => ?_
 · refine Wskip (qn (Wseq (Wseq (Wreg ?_)))); refine au 3 rfl <| rn (qn ?_); refine Wif hp (fun _ hp => ?_) fun _ hp => ?_
   · refine Wskip (qn (Wseq (Wreg ?_))); refine au 2 rfl <| rn (qn (Wret ?_)); obtain rfl := sj hp; exact fz R51 M51 (k _ hc)
   · refine Wseq (Wreg ?_); refine au 2 rfl <| rn (qn (Wret (qr ?_))); obtain rfl := sj hp; exact fz R51 M51 (k _ hc)
 · refine Wseq (Wreg ?_); refine au 2 rfl <| rn (qn (Wret (qr ?_))); obtain rfl := sj hp; exact fz R51 M51 (k _ hc)

def ref02_above (x0 : Int) (x1 : Int) (x2 : Int) : Option (Bool) :=
  if x0 = 0 then
    some false
  else
    if x1 = 0 then
      some false
    else
      chk (x1 ≠ 0) <|
      chk (x0 ≠ 0) <|
      some (decide (x0 > (IntKind.u64.wrap (Int.tdiv (IntKind.u64.wrap (Int.tdiv x2 x1)) x0))))

theorem ref02_above_any {x0 x1 x2 : Int} {Fr : List HP} {w : World} {r : Bool} {K : Value → World → Prop}  (hc : Ctx w (Fr)) (hp : ref02_above x0 x1 x2 = some r)
    (k : ∀ w', Ctx w' (Fr) → K (.bool r) w') : Calls Tryz.prog 114 #[.int .u64 x0, .int .u64 x1, .int .u64 x2] w (Ret K) := by
 unfold ref02_above at hp; refine Center3 F114 M114 rfl rfl ?_; refine Wseq (Wreg ?_); refine au 1 rfl <| rn (qn (Wseq (Wseq (Wreg ?_)))); refine au 3 rfl ?_; cases hb1 : (decide (x0 = 0))
 · replace hp := gneg hp (of_decide_eq_false hb1); refine au 3 rfl <| rn (qn ?_); refine Wif hp (fun _ hp => ?_) fun _ hp => ?_
   · refine Wskip (qn (Wseq (Wreg ?_))); refine au 3 rfl ?_; obtain ⟨hg3, hp⟩ := chk_some hp; refine sz (quw rfl rfl hg3) <| au 1 rfl ?_; obtain ⟨hg4, hp⟩ := chk_some hp; refine sz (quw rfl rfl hg4) <| au 2 rfl <| rn (qn (Wret ?_)); obtain rfl := sj hp; exact fz R114 M114 (k _ hc)
   · refine Wseq (Wreg ?_); refine au 1 rfl <| rn (qn (Wret (qr ?_))); obtain rfl := sj hp; exact fz R114 M114 (k _ hc)
 · replace hp := gpos hp (of_decide_eq_true hb1); (iterate 2 refine r0 rfl ?_); refine au 1 rfl <| rn (qn (Wct rfl (Wseq (Wreg ?_)))); refine au 1 rfl <| rn (qn (Wret (qr ?_))); obtain rfl := sj hp; exact fz R114 M114 (k _ hc)

def ref02_greatest.L1 (x0 : Int) (x1 : Int) : Nat → Int → Int → Option (Int)
  | 0, _, _ => none
  | m1 + 1, j1, j2 =>
    if (IntKind.u64.wrap (j2 - j1)) > 1 then
      (some (IntKind.u64.wrap (Int.tdiv (IntKind.u64.wrap (j1 + j2)) 2))).bind fun e5 =>
      (ref02_above e5 x0 x1).bind fun r6 =>
      if r6 = true then
        (ref02_greatest.L1 x0 x1 m1) j1 e5
      else
        (ref02_greatest.L1 x0 x1 m1) e5 j2
    else
      some j1

def ref02_greatest (N : Nat) (x0 : Int) (x1 : Int) : Option (Int) :=
  ref02_greatest.L1 x0 x1 N 0 4294967296

theorem ref02_greatest_any {N : Nat} {x0 x1 r : Int} {Fr : List HP} {w : World} {K : Value → World → Prop}  (hc : Ctx w (Fr)) (hp : ref02_greatest N x0 x1 = some r)
    (k : ∀ w', Ctx w' (Fr) → K (.int .u64 r) w') : Calls Tryz.prog 88 #[.int .u64 x0, .int .u64 x1] w (Ret K) := by
 unfold ref02_greatest at hp; refine Center2 F88 M88 rfl rfl ?_; refine Wseq (Wreg ?_); refine au 1 rfl <| rn (qn (Wseq (Wreg ?_))); refine au 2 rfl <| rn (qn (Wseq (Wblk ?_))); refine Wloop (rg [5, 17]) [5, 6] (fun m vs w' => ∃ j1 : Int, ∃ j2 : Int, vs = [.int .u64 j1, .int .u64 j2] ∧ ref02_greatest.L1 x0 x1 m j1 j2 = some r ∧ Ctx w' (Fr)) N ?_ ?_
 · exact ⟨0, 4294967296, rfl, hp, hc⟩
 · clear hp hc; intro m vs u w3 hJ; obtain ⟨j1, j2, rfl, hp, hc⟩ := hJ; rcases m with _ | m1
   · cases (show none = some r from hp)
   rw [ref02_greatest.L1] at hp; refine Wseq (Wseq (Wreg ?_)); refine au 4 rfl <| rn (qn ?_); refine Wif hp (fun _ h => ?_) fun _ h => ?_
   · replace hp := h; clear h; refine Wexit (qx (qx (be (qn (Wseq (Wreg ?_)))))); refine au 2 rfl <| rn (qn (Wret ?_)); obtain rfl := sj hp; exact fz R88 M88 (k _ hc)
   · replace hp := h; clear h; refine Wskip (qn (Wblk (Wseq (Wreg ?_)))); refine au 3 rfl <| sz (quw rfl rfl (by decide)) ?_; replace hp := bind_some hp; obtain ⟨e5, he5, hp⟩ := hp; injection he5 with he5; refine sz (v := .int .u64 e5) (av (v := .int .u64 e5) (by rw [← he5]; rfl)) <| rn (qn (Wseq (Wreg ?_))); refine au 3 rfl ?_; replace hp := bind_some hp; obtain ⟨r6, hr6, hp⟩ := hp; refine kz C114 ?_; refine ref02_above_any hc hr6 ?_; clear hc; intro w7 hc; refine rn (qn ?_); cases hb8 : r6
     · replace hp := gneg hp (by rw [hb8]; exact Bool.false_ne_true); subst hb8; refine Wcf rfl (Wreg ?_); refine au 2 rfl <| rn (bn (qn ?_)); exact ⟨m1, Nat.lt_succ_self _, ⟨e5, j2, rfl, hp, hc⟩, (kl rfl k0)⟩
     · replace hp := gpos hp hb8; subst hb8; refine Wct rfl (Wreg ?_); refine au 2 rfl <| rn (bn (qn ?_)); exact ⟨m1, Nat.lt_succ_self _, ⟨j1, e5, rfl, hp, hc⟩, (kl rfl k0)⟩

def ref02_Inverse (N : Nat) (x0 : Int) : Option (Int) :=
  if x0 = 0 then
    some 16777216
  else
    (ref02_greatest N x0 281474976710656).bind fun r2 =>
    some r2

theorem ref02_Inverse_any {N : Nat} {x0 r : Int} {Fr : List HP} {w : World} {K : Value → World → Prop}  (hc : Ctx w (Fr)) (hp : ref02_Inverse N x0 = some r)
    (k : ∀ w', Ctx w' (Fr) → K (.int .u64 r) w') : Calls Tryz.prog 52 #[.int .u64 x0] w (Ret K) := by
 unfold ref02_Inverse at hp; refine Center1 F52 M52 rfl rfl ?_; refine Wseq (Wreg ?_); refine au 1 rfl <| rn (qn (Wseq (Wseq (Wreg ?_)))); refine au 2 rfl <| rn (qn ?_); refine Wif hp (fun _ hp => ?_) fun _ hp => ?_
 · refine Wskip (qn (Wseq (Wreg ?_))); refine au 1 rfl ?_; obtain ⟨r2, hr2, hp⟩ := bind_some hp; refine kz C88 ?_; refine ref02_greatest_any hc hr2 ?_; clear hc; intro w3 hc; refine au 1 rfl <| rn (qn (Wret ?_)); obtain rfl := sj hp; exact fz R52 M52 (k _ hc)
 · refine Wseq (Wreg ?_); refine au 1 rfl <| rn (qn (Wret (qr ?_))); obtain rfl := sj hp; exact fz R52 M52 (k _ hc)

def ref01_Shift.J4 (j12 : Int) (j17 : Bool) : Option (Int) :=
  if j17 = true then
    some (IntKind.i64.wrap (j12 + 1))
  else
    some j12

def ref01_Shift.J3 (j5 : Int) (j12 : Int) (j13 : Int) : Option (Int) :=
  if j13 > (IntKind.i64.wrap (j5 - j13)) then
    ref01_Shift.J4 j12 true
  else
    if j13 = (IntKind.i64.wrap (j5 - j13)) then
      ref01_Shift.J4 j12 (decide ((Int.tmod j12 2) ≠ 0))
    else
      ref01_Shift.J4 j12 false

def ref01_Shift.L2 (x0 : Int) (j1 : Int) : Nat → Int → Int → Option (Int)
  | 0, _, _ => none
  | m2 + 1, j5, j6 =>
    if j6 < j1 then
      (ref01_Shift.L2 x0 j1 m2) (IntKind.i64.wrap (j5 * 2)) (IntKind.i64.wrap (j6 + 1))
    else
      chk (j5 ≠ 0) <|
      (some (IntKind.i64.wrap (Int.tdiv x0 j5))).bind fun e10 =>
      chk (j5 ≠ 0) <|
      if (Int.tmod x0 j5) < 0 then
        (some (IntKind.i64.wrap ((Int.tmod x0 j5) + j5))).bind fun e15 =>
        ref01_Shift.J3 j5 (IntKind.i64.wrap (e10 - 1)) e15
      else
        ref01_Shift.J3 j5 e10 (Int.tmod x0 j5)

def ref01_Shift.J1 (N : Nat) (x0 : Int) (j1 : Int) : Option (Int) :=
  if j1 ≤ 0 then
    some x0
  else
    ref01_Shift.L2 x0 j1 N 1 0

def ref01_Shift (N : Nat) (x0 : Int) (x1 : Int) : Option (Int) :=
  if x1 > 62 then
    ref01_Shift.J1 N x0 62
  else
    ref01_Shift.J1 N x0 x1

theorem ref01_Shift_any {N : Nat} {x0 x1 r : Int} {Fr : List HP} {w : World} {K : Value → World → Prop}  (hc : Ctx w (Fr)) (hp : ref01_Shift N x0 x1 = some r)
    (k : ∀ w', Ctx w' (Fr) → K (.int .i64 r) w') : Calls Tryz.prog 53 #[.int .i64 x0, .int .i64 x1] w (Ret K) := by
 unfold ref01_Shift at hp; refine Center2 F53 M53 rfl rfl ?_; refine Wseq (Wreg ?_); refine au 1 rfl <| rn (qn ?_); refine Wseqm [1, 9, 10] [1] (fun vs w' => ∃ j1 : Int, vs = [.int .i64 j1] ∧ ref01_Shift.J1 N x0 j1 = some r ∧ Ctx w' (Fr)) ?_ ?_
 · refine Wseq (Wreg ?_); refine au 2 rfl <| rn (qn ?_); refine Wif hp (fun _ h => ?_) fun _ h => ?_
   · replace hp := h; clear h; refine Wskip (qn ?_); exact ⟨⟨x1, rfl, hp, hc⟩, (kl rfl kb)⟩
   · replace hp := h; clear h; refine Wreg <| au 1 rfl <| rn (qn ?_); exact ⟨⟨62, rfl, hp, hc⟩, (kl rfl kb)⟩
 · clear hp hc; intro vs u w3 hJ; obtain ⟨j1, rfl, hp, hc⟩ := hJ; unfold ref01_Shift.J1 at hp; refine Wseq (Wseq (Wreg ?_)); refine au 2 rfl <| rn (qn ?_); refine Wif hp (fun _ h => ?_) fun _ h => ?_
   · replace hp := h; clear h; refine Wskip (qn (Wseq (Wreg ?_))); refine au 1 rfl <| rn (qn (Wseq (Wseq (Wreg ?_)))); refine au 1 rfl <| rn (qn (Wblk ?_)); refine Wloop (rg [5, 2, 14, 7]) [5, 6] (fun m vs w' => ∃ j5 : Int, ∃ j6 : Int, vs = [.int .i64 j5, .int .i64 j6] ∧ ref01_Shift.L2 x0 j1 m j5 j6 = some r ∧ Ctx w' (Fr)) N ?_ ?_
     · exact ⟨1, 0, rfl, hp, hc⟩
     · clear hp hc; intro m vs u w7 hJ; obtain ⟨j5, j6, rfl, hp, hc⟩ := hJ; rcases m with _ | m2
       · cases (show none = some r from hp)
       rw [ref01_Shift.L2] at hp; refine Wseq (Wseq (Wreg ?_)); refine au 3 rfl <| rn (qn ?_); refine Wif hp (fun _ h => ?_) fun _ h => ?_
       · replace hp := h; clear h; refine Wexit (qx (qx (be (qn (Wseq (Wreg ?_)))))); refine au 2 rfl ?_; replace hp := chk_some hp; obtain ⟨hg9, hp⟩ := hp; refine sz (quw rfl rfl hg9) ?_; replace hp := bind_some hp; obtain ⟨e10, he10, hp⟩ := hp; injection he10 with he10; refine sz (v := .int .i64 e10) (av (v := .int .i64 e10) (by rw [← he10]; rfl)) <| rn (qn (Wseq (Wreg ?_))); refine au 2 rfl ?_; replace hp := chk_some hp; obtain ⟨hg11, hp⟩ := hp; refine sz (rm rfl rfl hg11) <| au 1 rfl <| rn (qn ?_); refine Wseqm (rg [7, 2, 27, 7]) [7, 8] (fun vs w' => ∃ j12 : Int, ∃ j13 : Int, vs = [.int .i64 j12, .int .i64 j13] ∧ ref01_Shift.J3 j5 j12 j13 = some r ∧ Ctx w' (Fr)) ?_ ?_
         · refine Wseq (Wreg ?_); refine au 2 rfl <| rn (qn ?_); refine Wif hp (fun _ h => ?_) fun _ h => ?_
           · replace hp := h; clear h; refine Wskip (qn ?_); exact ⟨⟨e10, (Int.tmod x0 j5), rfl, hp, hc⟩, (kl rfl kb)⟩
           · replace hp := h; clear h; refine Wseq (Wreg ?_); refine au 3 rfl <| rn (qn (Wreg ?_)); refine au 3 rfl ?_; replace hp := bind_some hp; obtain ⟨e15, he15, hp⟩ := hp; injection he15 with he15; refine sz (v := .int .i64 e15) (av (v := .int .i64 e15) (by rw [← he15]; rfl)) <| rn (qn ?_); exact ⟨⟨(IntKind.i64.wrap (e10 - 1)), e15, rfl, hp, hc⟩, (kl rfl kb)⟩
         · clear hp hc; intro vs u w16 hJ; obtain ⟨j12, j13, rfl, hp, hc⟩ := hJ; unfold ref01_Shift.J3 at hp; refine Wseq ?_; refine Wseqm (rg [34, 17]) [50] (fun vs w' => ∃ j17 : Bool, vs = [.bool j17] ∧ ref01_Shift.J4 j12 j17 = some r ∧ Ctx w' (Fr)) ?_ ?_
           · refine Wreg <| au 6 rfl ?_; cases hb18 : (decide (j13 > (IntKind.i64.wrap (j5 - j13))))
             · replace hp := gneg hp (of_decide_eq_false hb18); refine au 6 rfl ?_; cases hb19 : (decide (j13 = (IntKind.i64.wrap (j5 - j13))))
               · replace hp := gneg hp (of_decide_eq_false hb19); (iterate 3 refine r0 rfl ?_); refine au 2 rfl <| rn (qn ?_); exact ⟨⟨false, rfl, hp, hc⟩, (kl rfl kb)⟩
               · replace hp := gpos hp (of_decide_eq_true hb19); refine au 1 rfl <| sz (rm rfl rfl (by decide)) <| au 3 rfl <| rn (qn ?_); exact ⟨⟨decide ((Int.tmod j12 2) ≠ 0), rfl, hp, hc⟩, (kl rfl kb)⟩
             · replace hp := gpos hp (of_decide_eq_true hb18); (iterate 10 refine r0 rfl ?_); refine au 1 rfl <| rn (qn ?_); exact ⟨⟨true, rfl, hp, hc⟩, (kl rfl kb)⟩
           · clear hp hc; intro vs u w20 hJ; obtain ⟨j17, rfl, hp, hc⟩ := hJ; unfold ref01_Shift.J4 at hp; cases hb21 : j17
             · replace hp := gneg hp (by rw [hb21]; exact Bool.false_ne_true); subst hb21; refine Wcf rfl (Wskip (qn (Wseq (Wreg ?_)))); refine au 2 rfl <| rn (qn (Wret ?_)); obtain rfl := sj hp; exact fz R53 M53 (k _ hc)
             · replace hp := gpos hp hb21; subst hb21; refine Wct rfl (Wreg ?_); refine au 3 rfl <| rn (qn (Wseq (Wreg ?_))); refine au 2 rfl <| rn (qn (Wret ?_)); obtain rfl := sj hp; exact fz R53 M53 (k _ hc)
       · replace hp := h; clear h; refine Wskip (qn (Wseq (Wblk (Wreg ?_)))); refine au 3 rfl <| rn (bn (qn (Wreg ?_))); refine au 3 rfl <| rn (qn ?_); exact ⟨m2, Nat.lt_succ_self _, ⟨(IntKind.i64.wrap (j5 * 2)), (IntKind.i64.wrap (j6 + 1)), rfl, hp, hc⟩, (kl rfl k0)⟩
   · replace hp := h; clear h; refine Wseq (Wreg ?_); refine au 2 rfl <| rn (qn (Wret (qr ?_))); obtain rfl := sj hp; exact fz R53 M53 (k _ hc)

def ref05_Norm.L2 (N : Nat) (x0 : (List Int)) (x1 : (List Int)) (j1 : Int) : Nat → (List Int) → Int → Option ((List Int))
  | 0, _, _ => none
  | m2 + 1, j5, j9 =>
    if j9 < ((x1.length : Nat) : Int) then
      chk ((IntKind.u64.wrap ((x1.length : Nat) : Int)) ≠ 0) <|
      (ref02_Inverse N (IntKind.u64.wrap (Int.tdiv j1 (IntKind.u64.wrap ((x1.length : Nat) : Int))))).bind fun r14 =>
      (idx x1 j9).bind fun y16 =>
      (ref01_Near (IntKind.i64.wrap y16) (-8388608) 8388607).bind fun r25 =>
      (idx x0 j9).bind fun y27 =>
      (ref01_Shift N (IntKind.i64.wrap ((IntKind.i64.wrap (r25 * (IntKind.i64.wrap r14))) * (IntKind.i64.wrap y27))) 23).bind fun r36 =>
      (ref01_Near r36 (-128) 127).bind fun r38 =>
      (app j5 ([(IntKind.i8.wrap r38)])).bind fun z42 =>
      (ref05_Norm.L2 N x0 x1 j1 m2) z42 (IntKind.i64.wrap (j9 + 1))
    else
      some j5

def ref05_Norm.L1 (N : Nat) (x0 : (List Int)) (x1 : (List Int)) : Nat → Int → Int → Option ((List Int))
  | 0, _, _ => none
  | m1 + 1, j1, j2 =>
    if j2 < ((x1.length : Nat) : Int) then
      (idx x1 j2).bind fun y48 =>
      (ref01_Near (IntKind.i64.wrap y48) (-8388608) 8388607).bind fun r57 =>
      (some (IntKind.u64.wrap (j1 + (IntKind.u64.wrap (IntKind.i64.wrap (r57 * r57)))))).bind fun e59 =>
      (ref05_Norm.L1 N x0 x1 m1) e59 (IntKind.i64.wrap (j2 + 1))
    else
      ref05_Norm.L2 N x0 x1 j1 N ([]) 0

def ref05_Norm (N : Nat) (x0 : (List Int)) (x1 : (List Int)) : Option ((List Int)) :=
  ref05_Norm.L1 N x0 x1 N 0 0

theorem ref05_Norm_any {N nx0 qx0 nx1 qx1 : Nat} {x0 x1 r : (List Int)} {ax0 ax1 : Option Addr} {P0 P1 : HP} {Fr : List HP} {w : World} {K : Value → World → Prop} (hrd0 : Reads P0 (pInt .i8) (.slice ax0 nx0 qx0) x0) (hrd1 : Reads P1 (pInt .i32) (.slice ax1 nx1 qx1) x1) (hc : Ctx w (P0 :: P1 :: Fr)) (hp : ref05_Norm N x0 x1 = some r)
    (k : ∀ a60 n61 q62 w', Ctx w' (Own (pInt .i8) 88 (.slice a60 n61 q62) r :: P0 :: P1 :: Fr) → K (.slice a60 n61 q62) w') : Calls Tryz.prog 19 #[.slice ax0 nx0 qx0, .slice ax1 nx1 qx1] w (Ret K) := by
 unfold ref05_Norm at hp; refine Center2 F19 M19 rfl rfl ?_; obtain ⟨hn0, _⟩ := Ctx.rdLen hc (k := 0) rfl rfl hrd0; subst hn0; obtain ⟨hn1, _⟩ := Ctx.rdLen hc (k := 1) rfl rfl hrd1; subst hn1; refine Wseq (Wreg ?_); refine au 1 rfl <| rn (qn (Wseq (Wreg ?_))); refine au 1 rfl <| rn (qn (Wseq (Wseq (Wreg ?_)))); refine au 1 rfl <| rn (qn (Wblk ?_)); refine Wloop (rg [5, 3, 12, 18]) [5, 6] (fun m vs w' => ∃ j1 : Int, ∃ j2 : Int, vs = [.int .u64 j1, .int .i64 j2] ∧ ref05_Norm.L1 N x0 x1 m j1 j2 = some r ∧ Ctx w' (P0 :: P1 :: Fr)) N ?_ ?_
 · exact ⟨0, 0, rfl, hp, hc⟩
 · clear hp hc; intro m vs u w3 hJ; obtain ⟨j1, j2, rfl, hp, hc⟩ := hJ; rcases m with _ | m1
   · cases (show none = some r from hp)
   rw [ref05_Norm.L1] at hp; refine Wseq (Wseq (Wreg ?_)); refine au 2 rfl <| sz (ln rfl U51) <| au 1 rfl <| rn (qn ?_); refine Wif hp (fun _ hp => ?_) fun _ hp => ?_
   · refine Wexit (qx (qx (be (qn (Wseq (Wreg ?_)))))); refine au 1 rfl <| rn (qn (Wseq (Wseq (Wreg ?_)))); refine au 1 rfl <| rn (qn (Wblk ?_)); replace hc := hc.nilOwn (pInt .i8) 88; replace hc := hc.m [4, 4]; refine Wloop (rg [8, 4, 30, 34]) [8, 9] (fun m vs w' => ∃ j5 : (List Int), ∃ j9 : Int, ∃ a6 n7 q8, vs = [.slice a6 n7 q8, .int .i64 j9] ∧ ref05_Norm.L2 N x0 x1 j1 m j5 j9 = some r ∧ Ctx w' (P0 :: P1 :: Own (pInt .i8) 88 (.slice a6 n7 q8) j5 :: Fr)) N ?_ ?_
     · exact ⟨[], 0, none, 0, 0, rfl, hp, hc⟩
     · clear hp hc; intro m vs u w10 hJ; obtain ⟨j5, j9, a6, n7, q8, rfl, hp, hc⟩ := hJ; obtain rfl := hc.rz 2 reads_own; rcases m with _ | m2
       · cases (show none = some r from hp)
       rw [ref05_Norm.L2] at hp; refine Wseq (Wseq (Wreg ?_)); refine au 2 rfl <| sz (ln rfl U51) <| au 1 rfl <| rn (qn ?_); refine Wif hp (fun _ hp => ?_) fun _ hp => ?_
       · refine Wexit (qx (qx (be (qn (Wseq (Wreg ?_)))))); refine au 2 rfl <| rn (qn (Wret ?_)); replace hc := hc.m [2, 2, 4]; obtain rfl := sj hp; exact fz R19 M19 (k _ _ _ _ hc)
       · refine Wskip (qn (Wseq (Wblk (Wseq (Wreg ?_))))); refine au 2 rfl <| sz (ln rfl U51) <| sz (cvi rfl U3 U23) ?_; obtain ⟨hg13, hp⟩ := chk_some hp; refine sz (quw rfl rfl hg13) ?_; obtain ⟨r14, hr14, hp⟩ := bind_some hp; refine kz C52 ?_; refine ref02_Inverse_any hc hr14 ?_; clear hc; intro w15 hc; refine sz (cvi rfl U23 U2) <| au 1 rfl <| rn (qn (Wseq (Wreg ?_))); refine au 2 rfl ?_; obtain ⟨y16, hy16, hp⟩ := bind_some hp; obtain ⟨b19, o20, rfl, hi17, hi18⟩ := hc.ra 1 hrd1 hy16; refine sz (ixx rfl rfl U51 Z21 hi17 hi18 rfl) ?_; have hcell23 := hc.rv 1 hrd1 hy16; refine sz (ld rfl G21 (hcell23 0 _ rfl)) <| sz (cvi rfl U21 U2) ?_; obtain ⟨r25, hr25, hp⟩ := bind_some hp; refine kz C51 ?_; refine ref01_Near_any hc hr25 ?_; clear hc; intro w26 hc; refine au 1 rfl <| rn (qn (Wreg ?_)); refine au 6 rfl ?_; obtain ⟨y27, hy27, hp⟩ := bind_some hp; obtain ⟨b30, o31, rfl, hi28, hi29⟩ := hc.ra 0 hrd0 hy27; refine sz (ixx rfl rfl U30 Z88 hi28 hi29 rfl) ?_; have hcell34 := hc.rv 0 hrd0 hy27; refine sz (ld rfl G88 (hcell34 0 _ rfl)) <| sz (cvi rfl U88 U2) <| au 1 rfl ?_; obtain ⟨r36, hr36, hp⟩ := bind_some hp; refine kz C53 ?_; refine ref01_Shift_any hc hr36 ?_; clear hc; intro w37 hc; obtain ⟨r38, hr38, hp⟩ := bind_some hp; refine kz C51 ?_; refine ref01_Near_any hc hr38 ?_; clear hc; intro w39 hc; refine sz (cvi rfl U2 U88) ?_; refine rsE (oneI hc U30 Z88 V88) rfl ?_; clear hc; rintro _ w41 ⟨a40, rfl, hc⟩; obtain ⟨z42, hz42, hp⟩ := bind_some hp; obtain ⟨hg43, e44⟩ := app_some hz42; refine rsE (hc.ap 3 0 reads_own U30 Tryz.t88 hg43) rfl ?_; clear hc; rintro _ w47 ⟨a45, q46, rfl, hc⟩; rw [← e44] at hc ⊢; replace hc := Ctx.n3 hc; refine au 1 rfl <| rn (bn (qn (Wreg ?_))); refine au 3 rfl <| rn (qn ?_); replace hc := hc.m [1]; exact ⟨m2, Nat.lt_succ_self _, ⟨z42, (IntKind.i64.wrap (j9 + 1)), a45, z42.length, q46, rfl, hp, hc⟩, (kl rfl k0)⟩
   · refine Wskip (qn (Wseq (Wblk (Wseq (Wreg ?_))))); refine au 2 rfl ?_; obtain ⟨y48, hy48, hp⟩ := bind_some hp; obtain ⟨b51, o52, rfl, hi49, hi50⟩ := hc.ra 1 hrd1 hy48; refine sz (ixx rfl rfl U51 Z21 hi49 hi50 rfl) ?_; have hcell55 := hc.rv 1 hrd1 hy48; refine sz (ld rfl G21 (hcell55 0 _ rfl)) <| sz (cvi rfl U21 U2) ?_; obtain ⟨r57, hr57, hp⟩ := bind_some hp; refine kz C51 ?_; refine ref01_Near_any hc hr57 ?_; clear hc; intro w58 hc; refine au 1 rfl <| rn (qn (Wreg ?_)); refine au 4 rfl <| sz (cvi rfl U2 U23) <| au 1 rfl ?_; obtain ⟨e59, he59, hp⟩ := bind_some hp; injection he59 with he59; refine sz (v := .int .u64 e59) (av (v := .int .u64 e59) (by rw [← he59]; rfl)) <| rn (bn (qn (Wreg ?_))); refine au 3 rfl <| rn (qn ?_); exact ⟨m1, Nat.lt_succ_self _, ⟨e59, (IntKind.i64.wrap (j2 + 1)), rfl, hp, hc⟩, (kl rfl k0)⟩

def ref04_Right (x0 : S_api_Mat) : Option (Bool) :=
  if x0.Rows ≥ 0 then
    if x0.Cols ≥ 0 then
      if x0.Rows ≤ 4096 then
        if x0.Cols ≤ 4096 then
          if ((x0.V.length : Nat) : Int) = (IntKind.i64.wrap (x0.Rows * x0.Cols)) then
            some (decide (((x0.V.length : Nat) : Int) ≤ 1048576))
          else
            some false
        else
          some false
      else
        some false
    else
      some false
  else
    some false

theorem ref04_Right_any {x0 : S_api_Mat} {a1 : Option Addr} {n2 q3 : Nat} {Fr : List HP} {w : World} {r : Bool} {K : Value → World → Prop}  (hc : Ctx w (Hold (pRo (pInt .i8)) [.slice a1 n2 q3] x0.V :: Fr)) (hp : ref04_Right x0 = some r)
    (k : ∀ w', Ctx w' (Fr) → K (.bool r) w') : Calls Tryz.prog 49 #[.agg #[.int .i64 x0.Rows, .int .i64 x0.Cols, .slice a1 n2 q3]] w (Ret K) := by
 unfold ref04_Right at hp; refine Center1 F49 M49 rfl rfl ?_; obtain rfl := hc.rz 0 reads_ro; refine Wseq (Wreg ?_); refine rsE (Ctx.boxOp (cs := (S_api_Mat.cz x0 a1 q3)) (v := .agg (S_api_Mat.cz x0 a1 q3).toArray) hc rfl rfl) rfl ?_; clear hc; rintro _ w7 ⟨b5, rfl, hc⟩; refine au 1 rfl <| rn (qn (Wseq (Wreg ?_))); refine fq 0 U32 Z3 G3 hc 0 ?_; refine au 2 rfl ?_; cases hb8 : (decide (x0.Rows ≥ 0))
 · replace hp := gneg hp (of_decide_eq_false hb8); (iterate 3 refine r0 rfl ?_); refine au 2 rfl ?_; (iterate 3 refine r0 rfl ?_); refine au 2 rfl ?_; (iterate 3 refine r0 rfl ?_); refine au 2 rfl ?_; (iterate 9 refine r0 rfl ?_); refine au 2 rfl ?_; (iterate 4 refine r0 rfl ?_); refine au 2 rfl <| rn (qn (Wret ?_)); replace hc := hc.m [3, 1]; obtain rfl := sj hp; exact fz R49 M49 (k _ hc)
 · replace hp := gpos hp (of_decide_eq_true hb8); refine fq 1 U32 Z3 G3 hc 0 ?_; refine au 3 rfl ?_; cases hb9 : (decide (x0.Cols ≥ 0))
   · replace hp := gneg hp (of_decide_eq_false hb9); (iterate 3 refine r0 rfl ?_); refine au 2 rfl ?_; (iterate 3 refine r0 rfl ?_); refine au 2 rfl ?_; (iterate 9 refine r0 rfl ?_); refine au 2 rfl ?_; (iterate 4 refine r0 rfl ?_); refine au 2 rfl <| rn (qn (Wret ?_)); replace hc := hc.m [3, 1]; obtain rfl := sj hp; exact fz R49 M49 (k _ hc)
   · replace hp := gpos hp (of_decide_eq_true hb9); refine fq 0 U32 Z3 G3 hc 0 ?_; refine au 3 rfl ?_; cases hb10 : (decide (x0.Rows ≤ 4096))
     · replace hp := gneg hp (of_decide_eq_false hb10); (iterate 3 refine r0 rfl ?_); refine au 2 rfl ?_; (iterate 9 refine r0 rfl ?_); refine au 2 rfl ?_; (iterate 4 refine r0 rfl ?_); refine au 2 rfl <| rn (qn (Wret ?_)); replace hc := hc.m [3, 1]; obtain rfl := sj hp; exact fz R49 M49 (k _ hc)
     · replace hp := gpos hp (of_decide_eq_true hb10); refine fq 1 U32 Z3 G3 hc 0 ?_; refine au 3 rfl ?_; cases hb11 : (decide (x0.Cols ≤ 4096))
       · replace hp := gneg hp (of_decide_eq_false hb11); (iterate 9 refine r0 rfl ?_); refine au 2 rfl ?_; (iterate 4 refine r0 rfl ?_); refine au 2 rfl <| rn (qn (Wret ?_)); replace hc := hc.m [3, 1]; obtain rfl := sj hp; exact fz R49 M49 (k _ hc)
       · replace hp := gpos hp (of_decide_eq_true hb11); refine fq 2 U32 Z30 G30 hc 0 ?_; refine sz (ln rfl U30) ?_; refine fq 0 U32 Z3 G3 hc 0 ?_; refine fq 1 U32 Z3 G3 hc 0 ?_; refine au 4 rfl ?_; cases hb12 : (decide (((x0.V.length : Nat) : Int) = (IntKind.i64.wrap (x0.Rows * x0.Cols))))
         · replace hp := gneg hp (of_decide_eq_false hb12); (iterate 4 refine r0 rfl ?_); refine au 2 rfl <| rn (qn (Wret ?_)); replace hc := hc.m [3, 1]; obtain rfl := sj hp; exact fz R49 M49 (k _ hc)
         · replace hp := gpos hp (of_decide_eq_true hb12); refine fq 2 U32 Z30 G30 hc 0 ?_; refine sz (ln rfl U30) <| au 3 rfl <| rn (qn (Wret ?_)); replace hc := hc.m [3, 1]; obtain rfl := sj hp; exact fz R49 M49 (k _ hc)

def ref01_Mod.J1 (j1 : Int) : Option (Int) :=
  if j1 ≥ 2147483648 then
    (some (IntKind.i64.wrap (j1 - 4294967296))).bind fun e6 =>
    some (IntKind.i32.wrap e6)
  else
    some (IntKind.i32.wrap j1)

def ref01_Mod (x0 : Int) : Option (Int) :=
  if (Int.tmod x0 4294967296) < 0 then
    (some (IntKind.i64.wrap ((Int.tmod x0 4294967296) + 4294967296))).bind fun e3 =>
    ref01_Mod.J1 e3
  else
    ref01_Mod.J1 (Int.tmod x0 4294967296)

theorem ref01_Mod_any {x0 r : Int} {Fr : List HP} {w : World} {K : Value → World → Prop}  (hc : Ctx w (Fr)) (hp : ref01_Mod x0 = some r)
    (k : ∀ w', Ctx w' (Fr) → K (.int .i32 r) w') : Calls Tryz.prog 87 #[.int .i64 x0] w (Ret K) := by
 unfold ref01_Mod at hp; refine Center1 F87 M87 rfl rfl ?_; refine Wseq (Wreg ?_); refine au 1 rfl <| rn (qn (Wseq (Wreg ?_))); refine au 1 rfl <| sz (rm rfl rfl (by decide)) <| au 1 rfl <| rn (qn ?_); refine Wseqm [3, 6, 7, 8, 9] [3] (fun vs w' => ∃ j1 : Int, vs = [.int .i64 j1] ∧ ref01_Mod.J1 j1 = some r ∧ Ctx w' (Fr)) ?_ ?_
 · refine Wseq (Wreg ?_); refine au 2 rfl <| rn (qn ?_); refine Wif hp (fun _ hp => ?_) fun _ hp => ?_
   · refine Wskip (qn ?_); exact ⟨⟨(Int.tmod x0 4294967296), rfl, hp, hc⟩, (kl rfl kb)⟩
   · refine Wreg <| au 2 rfl ?_; obtain ⟨e3, he3, hp⟩ := bind_some hp; injection he3 with he3; refine sz (v := .int .i64 e3) (av (v := .int .i64 e3) (by rw [← he3]; rfl)) <| rn (qn ?_); exact ⟨⟨e3, rfl, hp, hc⟩, (kl rfl kb)⟩
 · clear hp hc; intro vs u w4 hJ; obtain ⟨j1, rfl, hp, hc⟩ := hJ; unfold ref01_Mod.J1 at hp; refine Wseq (Wseq (Wreg ?_)); refine au 2 rfl <| rn (qn ?_); refine Wif hp (fun _ hp => ?_) fun _ hp => ?_
   · refine Wskip (qn (Wseq (Wreg ?_))); refine au 1 rfl <| sz (cvi rfl U2 U21) <| au 1 rfl <| rn (qn (Wret ?_)); obtain rfl := sj hp; exact fz R87 M87 (k _ hc)
   · refine Wreg <| au 2 rfl ?_; obtain ⟨e6, he6, hp⟩ := bind_some hp; injection he6 with he6; refine sz (v := .int .i64 e6) (av (v := .int .i64 e6) (by rw [← he6]; rfl)) <| rn (qn (Wseq (Wreg ?_))); refine au 1 rfl <| sz (cvi rfl U2 U21) <| au 1 rfl <| rn (qn (Wret ?_)); obtain rfl := sj hp; exact fz R87 M87 (k _ hc)

def ref01_Wrap.L1 (x0 : (List Int)) : Nat → Int → Int → Option (Int)
  | 0, _, _ => none
  | m1 + 1, j1, j2 =>
    if j2 < ((x0.length : Nat) : Int) then
      (idx x0 j2).bind fun y5 =>
      (ref01_Mod y5).bind fun r14 =>
      (ref01_Mod (IntKind.i64.wrap (j1 + (IntKind.i64.wrap r14)))).bind fun r16 =>
      (ref01_Wrap.L1 x0 m1) (IntKind.i64.wrap r16) (IntKind.i64.wrap (j2 + 1))
    else
      some (IntKind.i32.wrap j1)

def ref01_Wrap (N : Nat) (x0 : (List Int)) : Option (Int) :=
  ref01_Wrap.L1 x0 N 0 0

theorem ref01_Wrap_any {N nx0 qx0 : Nat} {x0 : (List Int)} {ax0 : Option Addr} {P0 : HP} {Fr : List HP} {w : World} {r : Int} {K : Value → World → Prop} (hrd0 : Reads P0 (pInt .i64) (.slice ax0 nx0 qx0) x0) (hc : Ctx w (P0 :: Fr)) (hp : ref01_Wrap N x0 = some r)
    (k : ∀ w', Ctx w' (P0 :: Fr) → K (.int .i32 r) w') : Calls Tryz.prog 50 #[.slice ax0 nx0 qx0] w (Ret K) := by
 unfold ref01_Wrap at hp; refine Center1 F50 M50 rfl rfl ?_; obtain ⟨hn0, _⟩ := Ctx.rdLen hc (k := 0) rfl rfl hrd0; subst hn0; refine Wseq (Wreg ?_); refine au 1 rfl <| rn (qn (Wseq (Wreg ?_))); refine au 1 rfl <| rn (qn (Wseq (Wseq (Wreg ?_)))); refine au 1 rfl <| rn (qn (Wblk ?_)); refine Wloop (rg [3, 18]) [3, 4] (fun m vs w' => ∃ j1 : Int, ∃ j2 : Int, vs = [.int .i64 j1, .int .i64 j2] ∧ ref01_Wrap.L1 x0 m j1 j2 = some r ∧ Ctx w' (P0 :: Fr)) N ?_ ?_
 · exact ⟨0, 0, rfl, hp, hc⟩
 · clear hp hc; intro m vs u w3 hJ; obtain ⟨j1, j2, rfl, hp, hc⟩ := hJ; rcases m with _ | m1
   · cases (show none = some r from hp)
   rw [ref01_Wrap.L1] at hp; refine Wseq (Wseq (Wreg ?_)); refine au 2 rfl <| sz (ln rfl U125) <| au 1 rfl <| rn (qn ?_); refine Wif hp (fun _ hp => ?_) fun _ hp => ?_
   · refine Wexit (qx (qx (be (qn (Wseq (Wreg ?_)))))); refine au 1 rfl <| sz (cvi rfl U2 U21) <| au 1 rfl <| rn (qn (Wret ?_)); obtain rfl := sj hp; exact fz R50 M50 (k _ hc)
   · refine Wskip (qn (Wseq (Wblk (Wreg ?_)))); refine au 3 rfl ?_; obtain ⟨y5, hy5, hp⟩ := bind_some hp; obtain ⟨b8, o9, rfl, hi6, hi7⟩ := hc.ra 0 hrd0 hy5; refine sz (ixx rfl rfl U125 Z2 hi6 hi7 rfl) ?_; have hcell12 := hc.rv 0 hrd0 hy5; refine sz (ld rfl G2 (hcell12 0 _ rfl)) ?_; obtain ⟨r14, hr14, hp⟩ := bind_some hp; refine kz C87 ?_; refine ref01_Mod_any hc hr14 ?_; clear hc; intro w15 hc; refine sz (cvi rfl U21 U2) <| au 1 rfl ?_; obtain ⟨r16, hr16, hp⟩ := bind_some hp; refine kz C87 ?_; refine ref01_Mod_any hc hr16 ?_; clear hc; intro w17 hc; refine sz (cvi rfl U21 U2) <| au 1 rfl <| rn (bn (qn (Wreg ?_))); refine au 3 rfl <| rn (qn ?_); exact ⟨m1, Nat.lt_succ_self _, ⟨(IntKind.i64.wrap r16), (IntKind.i64.wrap (j2 + 1)), rfl, hp, hc⟩, (kl rfl k0)⟩

def ref04_Apply.L2 (N : Nat) (x0 : S_api_Mat) (x1 : (List Int)) (j12 : (List Int)) (j16 : Int) (k1 : (List Int) → Int → Option ((List Int) × Bool)) : Nat → (List Int) → Int → Option ((List Int) × Bool)
  | 0, _, _ => none
  | m2 + 1, j20, j24 =>
    if j24 < x0.Cols then
      (idx x0.V (IntKind.i64.wrap ((IntKind.i64.wrap (j16 * x0.Cols)) + j24))).bind fun y39 =>
      (idx x1 j24).bind fun y48 =>
      (app j20 ([(IntKind.i64.wrap ((IntKind.i64.wrap y39) * (IntKind.i64.wrap y48)))])).bind fun z59 =>
      (ref04_Apply.L2 N x0 x1 j12 j16 k1 m2) z59 (IntKind.i64.wrap (j24 + 1))
    else
      (ref01_Wrap N j20).bind fun r28 =>
      (app j12 ([r28])).bind fun z32 =>
      k1 z32 (IntKind.i64.wrap (j16 + 1))

def ref04_Apply.L1 (N : Nat) (x0 : S_api_Mat) (x1 : (List Int)) : Nat → (List Int) → Int → Option ((List Int) × Bool)
  | 0, _, _ => none
  | m1 + 1, j12, j16 =>
    if j16 < x0.Rows then
      ref04_Apply.L2 N x0 x1 j12 j16 (ref04_Apply.L1 N x0 x1 m1) N ([]) 0
    else
      some (j12, true)

def ref04_Apply (N : Nat) (x0 : S_api_Mat) (x1 : (List Int)) : Option ((List Int) × Bool) :=
  (ref04_Right x0).bind fun r8 =>
  if r8 = true then
    if ((x1.length : Nat) : Int) ≠ x0.Cols then
      some ([], false)
    else
      ref04_Apply.L1 N x0 x1 N ([]) 0
  else
    some ([], false)

theorem ref04_Apply_any {N n2 q3 nx1 qx1 : Nat} {x0 : S_api_Mat} {a1 ax1 : Option Addr} {x1 : (List Int)} {P1 : HP} {Fr : List HP} {w : World} {r : (List Int) × Bool} {K : Value → World → Prop} (hrd1 : Reads P1 (pInt .i8) (.slice ax1 nx1 qx1) x1) (hc : Ctx w (Hold (pRo (pInt .i8)) [.slice a1 n2 q3] x0.V :: P1 :: Fr)) (hp : ref04_Apply N x0 x1 = some r)
    (k : ∀ a65 n66 q67 w', Ctx w' (Own (pInt .i32) 21 (.slice a65 n66 q67) r.1 :: P1 :: Fr) → K (.tuple #[.slice a65 n66 q67, .bool r.2]) w') : Calls Tryz.prog 18 #[.agg #[.int .i64 x0.Rows, .int .i64 x0.Cols, .slice a1 n2 q3], .slice ax1 nx1 qx1] w (Ret K) := by
 unfold ref04_Apply at hp; refine Center2 F18 M18 rfl rfl ?_; obtain ⟨hn1, _⟩ := Ctx.rdLen hc (k := 1) rfl rfl hrd1; subst hn1; obtain rfl := hc.rz 0 reads_ro; refine Wseq (Wreg ?_); refine rsE (Ctx.boxOp (cs := (S_api_Mat.cz x0 a1 q3)) (v := .agg (S_api_Mat.cz x0 a1 q3).toArray) hc rfl rfl) rfl ?_; clear hc; rintro _ w7 ⟨b5, rfl, hc⟩; refine au 2 rfl <| rn (qn (Wseq (Wseq (Wreg ?_)))); refine lg G32 Z32 hc 0 ?_; replace hc := hc.dz 1; replace hp := bind_some hp; obtain ⟨r8, hr8, hp⟩ := hp; refine kz C49 ?_; refine ref04_Right_any (x0 := x0) hc hr8 ?_; clear hc; intro w9 hc; cases hb10 : r8
 · replace hp := gneg hp (by rw [hb10]; exact Bool.false_ne_true); subst hb10; refine au 2 rfl ?_; (iterate 5 refine r0 rfl ?_); refine au 1 rfl <| rn (qn (Wct rfl (Wseq (Wreg ?_)))); refine au 2 rfl <| rn (qn (Wret (qr ?_))); replace hc := hc.nilOwn (pInt .i32) 21; replace hc := hc.m [5, 3]; obtain rfl := sj hp; exact fz2 R18 M18 (k _ _ _ _ hc)
 · replace hp := gpos hp hb10; subst hb10; refine au 3 rfl <| sz (ln rfl U30) ?_; refine fq 1 U32 Z3 G3 hc 0 ?_; refine au 2 rfl <| rn (qn ?_); refine Wif hp (fun _ h => ?_) fun _ h => ?_
   · replace hp := h; clear h; refine Wskip (qn (Wseq (Wreg ?_))); refine au 1 rfl <| rn (qn (Wseq (Wseq (Wreg ?_)))); refine au 1 rfl <| rn (qn (Wblk ?_)); replace hc := hc.nilOwn (pInt .i32) 21; replace hc := hc.m [6, 6, 6]; refine Wloop (rg [6, 4, 20, 37]) [6, 7] (fun m vs w' => ∃ j12 : (List Int), ∃ j16 : Int, ∃ a13 n14 q15, vs = [.slice a13 n14 q15, .int .i64 j16] ∧ ref04_Apply.L1 N x0 x1 m j12 j16 = some r ∧ Ctx w' (B b5 (S_api_Mat.cz x0 a1 q3) 32 :: hR .i8 a1 q3 x0.V :: P1 :: Own (pInt .i32) 21 (.slice a13 n14 q15) j12 :: Fr)) N ?_ ?_
     · exact ⟨[], 0, none, 0, 0, rfl, hp, hc⟩
     · clear hp hc; intro m vs u w17 hJ; obtain ⟨j12, j16, a13, n14, q15, rfl, hp, hc⟩ := hJ; obtain rfl := hc.rz 3 reads_own; rcases m with _ | m1
       · cases (show none = some r from hp)
       rw [ref04_Apply.L1] at hp; refine Wseq (Wseq (Wreg ?_)); refine au 1 rfl ?_; refine fq 0 U32 Z3 G3 hc 0 ?_; refine au 1 rfl <| rn (qn ?_); refine Wif hp (fun _ h => ?_) fun _ h => ?_
       · replace hp := h; clear h; refine Wexit (qx (qx (be (qn (Wseq (Wreg ?_)))))); refine au 3 rfl <| rn (qn (Wret ?_)); replace hc := hc.m [3, 1, 2]; obtain rfl := sj hp; exact fz2 R18 M18 (k _ _ _ _ hc)
       · replace hp := h; clear h; refine Wskip (qn (Wseq (Wblk (Wseq (Wreg ?_))))); refine au 1 rfl <| rn (qn (Wseq (Wseq (Wreg ?_)))); refine au 1 rfl <| rn (qn (Wblk ?_)); replace hc := hc.nilOwn (pInt .i64) 2; replace hc := hc.m [8, 8, 8, 8]; refine Wloop (rg [8, 2, 26, 26]) [8, 9] (fun m vs w' => ∃ j20 : (List Int), ∃ j24 : Int, ∃ a21 n22 q23, vs = [.slice a21 n22 q23, .int .i64 j24] ∧ ref04_Apply.L2 N x0 x1 j12 j16 (ref04_Apply.L1 N x0 x1 m1) m j20 j24 = some r ∧ Ctx w' (B b5 (S_api_Mat.cz x0 a1 q3) 32 :: hR .i8 a1 q3 x0.V :: P1 :: oR .i32 21 a13 q15 j12 :: Own (pInt .i64) 2 (.slice a21 n22 q23) j20 :: Fr)) N ?_ ?_
         · exact ⟨[], 0, none, 0, 0, rfl, hp, hc⟩
         · clear hp hc; intro m vs u w25 hJ; obtain ⟨j20, j24, a21, n22, q23, rfl, hp, hc⟩ := hJ; obtain rfl := hc.rz 4 reads_own; rcases m with _ | m2
           · cases (show none = some r from hp)
           rw [ref04_Apply.L2] at hp; refine Wseq (Wseq (Wreg ?_)); refine au 1 rfl ?_; refine fq 1 U32 Z3 G3 hc 0 ?_; refine au 1 rfl <| rn (qn ?_); refine Wif hp (fun _ h => ?_) fun _ h => ?_
           · replace hp := h; clear h; refine Wexit (qx (qx (be (qn (Wreg ?_))))); refine au 2 rfl ?_; replace hp := bind_some hp; obtain ⟨r28, hr28, hp⟩ := hp; replace hc := hc.m [8]; refine kz C50 ?_; refine ref01_Wrap_any reads_own hc hr28 ?_; clear hc; intro w29 hc; refine rsE (oneI hc U51 Z21 V21) rfl ?_; clear hc; rintro _ w31 ⟨a30, rfl, hc⟩; replace hp := bind_some hp; obtain ⟨z32, hz32, hp⟩ := hp; obtain ⟨hg33, e34⟩ := app_some hz32; refine rsE (hc.ap 5 0 reads_own U51 Tryz.t21 hg33) rfl ?_; clear hc; rintro _ w37 ⟨a35, q36, rfl, hc⟩; rw [← e34] at hc ⊢; replace hc := Ctx.n5 hc; refine au 1 rfl <| rn (bn (qn (Wreg ?_))); refine au 3 rfl <| rn (qn ?_); replace hc := hc.m [3, 1]; exact ⟨m1, Nat.lt_succ_self _, ⟨z32, (IntKind.i64.wrap (j16 + 1)), a35, z32.length, q36, rfl, hp, hc⟩, (kl rfl (km rfl (kl rfl k0)))⟩
           · replace hp := h; clear h; refine Wskip (qn (Wseq (Wblk ?_))); replace hc := hc.drew; refine Wdrw (fun j w' => True) [0, 0, 2, 0, 0, 16, 56, 0, 248, 510, 1022, 2046, 0, 0, 12288, 28672, 61440, 131070, 262142, 524287, 1048575] 0 33828 rfl (by kernel_rfl) (fun _ _ => trivial) ?_; generalize hw : World.drew w25 = w38 at *; clear hw; refine ad_ 1 rfl <| ds (v := pt b5 2) rfl (fun w' hF => fax 2 rfl U32 rfl Z30 rfl rfl rfl) rfl <| dx rfl (ld rfl G30 (Ctx.cell hc (k := 0) rfl rfl rfl)) rfl rfl <| ad_ 1 rfl <| ds (v := pt b5 1) rfl (fun w' hF => fax 1 rfl U32 rfl Z3 rfl rfl rfl) rfl <| dx rfl (ld rfl G3 (Ctx.cell hc (k := 0) rfl rfl rfl)) rfl rfl <| ad_ 3 rfl ?_; replace hp := bind_some hp; obtain ⟨y39, hy39, hp⟩ := hp; obtain ⟨b42, o43, rfl, hi40, hi41⟩ := hc.ra 1 reads_ro hy39; refine ds rfl (fun w' hF => ixx rfl rfl U30 Z88 hi40 hi41 rfl) rfl ?_; have hcell46 := hc.rv 1 reads_ro hy39; refine dx rfl (ld rfl G88 (hcell46 0 _ rfl)) rfl rfl <| ds rfl (fun w' hF => cvi rfl U88 U2) rfl <| ad_ 2 rfl ?_; replace hp := bind_some hp; obtain ⟨y48, hy48, hp⟩ := hp; obtain ⟨b51, o52, rfl, hi49, hi50⟩ := hc.ra 2 hrd1 hy48; refine ds rfl (fun w' hF => ixx rfl rfl U30 Z88 hi49 hi50 rfl) rfl ?_; have hcell55 := hc.rv 2 hrd1 hy48; refine dx rfl (ld rfl G88 (hcell55 0 _ rfl)) rfl rfl <| ds rfl (fun w' hF => cvi rfl U88 U2) rfl <| ad_ 1 rfl ?_; refine deE (oneI hc U125 Z2 V2) rfl rfl ?_; clear hc; rintro _ w58 ⟨a57, rfl, hc⟩; refine ⟨fun j hj hb => trivial, ?_⟩; replace hp := bind_some hp; obtain ⟨z59, hz59, hp⟩ := hp; obtain ⟨hg60, e61⟩ := app_some hz59; refine deE (hc.ap 5 0 reads_own U125 Tryz.t2 hg60) rfl rfl ?_; clear hc; rintro _ w64 ⟨a62, q63, rfl, hc⟩; rw [← e61] at hc ⊢; replace hc := Ctx.n5 hc; refine ⟨fun j hj hb => trivial, ?_⟩; refine ad_ 1 rfl <| dn (bn (qn (Wreg ?_))); refine au 3 rfl <| rn (qn ?_); replace hc := hc.m [1]; exact ⟨m2, Nat.lt_succ_self _, ⟨z59, (IntKind.i64.wrap (j24 + 1)), a62, z59.length, q63, rfl, hp, hc⟩, (kl rfl k0)⟩
   · replace hp := h; clear h; refine Wseq (Wreg ?_); refine au 2 rfl <| rn (qn (Wret (qr ?_))); replace hc := hc.nilOwn (pInt .i32) 21; replace hc := hc.m [5, 3]; obtain rfl := sj hp; exact fz2 R18 M18 (k _ _ _ _ hc)

def ref01_Scale (N : Nat) (x0 : Int) (x1 : Int) (x2 : Int) (x3 : Int) (x4 : Int) : Option (Int) :=
  (ref01_Shift N (IntKind.i64.wrap ((IntKind.i64.wrap x0) * (IntKind.i64.wrap x1))) x2).bind fun r1 =>
  (ref01_Near r1 x3 x4).bind fun r3 =>
  some r3

theorem ref01_Scale_any {N : Nat} {x0 x1 x2 x3 x4 r : Int} {Fr : List HP} {w : World} {K : Value → World → Prop}  (hc : Ctx w (Fr)) (hp : ref01_Scale N x0 x1 x2 x3 x4 = some r)
    (k : ∀ w', Ctx w' (Fr) → K (.int .i64 r) w') : Calls Tryz.prog 84 #[.int .i32 x0, .int .i32 x1, .int .i64 x2, .int .i64 x3, .int .i64 x4] w (Ret K) := by
 unfold ref01_Scale at hp; refine Center (args := [.int .i32 x0, .int .i32 x1, .int .i64 x2, .int .i64 x3, .int .i64 x4]) (l := [(0, .int .i32 x0), (1, .int .i32 x1), (2, .int .i64 x2), (3, .int .i64 x3), (4, .int .i64 x4)]) F84 M84 rfl rfl rfl ?_; refine Wseq (Wreg ?_); refine au 1 rfl <| rn (qn (Wseq (Wreg ?_))); refine au 1 rfl <| sz (cvi rfl U21 U2) <| au 1 rfl <| sz (cvi rfl U21 U2) <| au 2 rfl ?_; obtain ⟨r1, hr1, hp⟩ := bind_some hp; refine kz C53 ?_; refine ref01_Shift_any hc hr1 ?_; clear hc; intro w2 hc; refine au 2 rfl ?_; obtain ⟨r3, hr3, hp⟩ := bind_some hp; refine kz C51 ?_; refine ref01_Near_any hc hr3 ?_; clear hc; intro w4 hc; refine au 1 rfl <| rn (qn (Wret ?_)); obtain rfl := sj hp; exact fz R84 M84 (k _ hc)

def ref08_quants.L1 (N : Nat) (r8 : ((List Int) × Bool)) : Nat → (List Int) → Int → Option ((List Int))
  | 0, _, _ => none
  | m1 + 1, j14, j18 =>
    if j18 < ((r8.1.length : Nat) : Int) then
      (idx r8.1 j18).bind fun y22 =>
      (ref01_Scale N y22 1 7 (-128) 127).bind fun r31 =>
      (app j14 ([(IntKind.i8.wrap r31)])).bind fun z35 =>
      (ref08_quants.L1 N r8 m1) z35 (IntKind.i64.wrap (j18 + 1))
    else
      some j14

def ref08_quants (N : Nat) (x0 : S_api_Mat) (x1 : (List Int)) : Option ((List Int)) :=
  (ref04_Apply N x0 x1).bind fun r8 =>
  ref08_quants.L1 N r8 N ([]) 0

theorem ref08_quants_any {N n2 q3 nx1 qx1 : Nat} {x0 : S_api_Mat} {a1 ax1 : Option Addr} {x1 r : (List Int)} {P1 : HP} {Fr : List HP} {w : World} {K : Value → World → Prop} (hrd1 : Reads P1 (pInt .i8) (.slice ax1 nx1 qx1) x1) (hc : Ctx w (Hold (pRo (pInt .i8)) [.slice a1 n2 q3] x0.V :: P1 :: Fr)) (hp : ref08_quants N x0 x1 = some r)
    (k : ∀ a41 n42 q43 w', Ctx w' (Own (pInt .i8) 88 (.slice a41 n42 q43) r :: P1 :: Fr) → K (.slice a41 n42 q43) w') : Calls Tryz.prog 56 #[.agg #[.int .i64 x0.Rows, .int .i64 x0.Cols, .slice a1 n2 q3], .slice ax1 nx1 qx1] w (Ret K) := by
 unfold ref08_quants at hp; refine Center2 F56 M56 rfl rfl ?_; obtain ⟨hn1, _⟩ := Ctx.rdLen hc (k := 1) rfl rfl hrd1; subst hn1; obtain rfl := hc.rz 0 reads_ro; refine Wseq (Wreg ?_); refine rsE (Ctx.boxOp (cs := (S_api_Mat.cz x0 a1 q3)) (v := .agg (S_api_Mat.cz x0 a1 q3).toArray) hc rfl rfl) rfl ?_; clear hc; rintro _ w7 ⟨b5, rfl, hc⟩; refine au 1 rfl <| rn (qn (Wseq (Wreg ?_))); refine lg G32 Z32 hc 0 ?_; refine au 1 rfl ?_; replace hc := hc.dz 1; obtain ⟨r8, hr8, hp⟩ := bind_some hp; replace hc := hc.m [6, 2]; refine kz C18 ?_; refine ref04_Apply_any (x0 := x0) hrd1 hc hr8 ?_; clear hc; intro a9 n10 q11 w12 hc; obtain rfl := hc.rz 0 reads_own; refine au 5 rfl <| rn (qn (Wseq (Wreg ?_))); refine au 1 rfl <| rn (qn (Wseq (Wseq (Wreg ?_)))); refine au 1 rfl <| rn (qn (Wblk ?_)); replace hc := hc.nilOwn (pInt .i8) 88; replace hc := hc.m [9, 7, 4, 4]; refine Wloop (rg [7, 2, 15, 15]) [7, 8] (fun m vs w' => ∃ j14 : (List Int), ∃ j18 : Int, ∃ a15 n16 q17, vs = [.slice a15 n16 q17, .int .i64 j18] ∧ ref08_quants.L1 N r8 m j14 j18 = some r ∧ Ctx w' (oR .i32 21 a9 q11 r8.1 :: P1 :: Own (pInt .i8) 88 (.slice a15 n16 q17) j14 :: Fr)) N ?_ ?_
 · exact ⟨[], 0, none, 0, 0, rfl, hp, hc⟩
 · clear hp hc; intro m vs u w19 hJ; obtain ⟨j14, j18, a15, n16, q17, rfl, hp, hc⟩ := hJ; obtain rfl := hc.rz 2 reads_own; rcases m with _ | m1
   · cases (show none = some r from hp)
   rw [ref08_quants.L1] at hp; refine Wseq (Wseq (Wreg ?_)); refine au 2 rfl <| sz (ln rfl U51) <| au 1 rfl <| rn (qn ?_); refine Wif hp (fun _ hp => ?_) fun _ hp => ?_
   · refine Wexit (qx (qx (be (qn (Wseq (Wreg ?_)))))); refine au 2 rfl <| rn (qn (Wret ?_)); replace hc := hc.m [1, 2]; obtain rfl := sj hp; exact fz R56 M56 (k _ _ _ _ hc)
   · refine Wskip (qn (Wseq (Wblk (Wreg ?_)))); refine au 3 rfl ?_; obtain ⟨y22, hy22, hp⟩ := bind_some hp; obtain ⟨b25, o26, rfl, hi23, hi24⟩ := hc.ra 0 reads_own hy22; refine sz (ixx rfl rfl U51 Z21 hi23 hi24 rfl) ?_; have hcell29 := hc.rv 0 reads_own hy22; refine sz (ld rfl G21 (hcell29 0 _ rfl)) ?_; obtain ⟨r31, hr31, hp⟩ := bind_some hp; refine kz C84 ?_; refine ref01_Scale_any hc hr31 ?_; clear hc; intro w32 hc; refine sz (cvi rfl U2 U88) ?_; refine rsE (oneI hc U30 Z88 V88) rfl ?_; clear hc; rintro _ w34 ⟨a33, rfl, hc⟩; obtain ⟨z35, hz35, hp⟩ := bind_some hp; obtain ⟨hg36, e37⟩ := app_some hz35; refine rsE (hc.ap 3 0 reads_own U30 Tryz.t88 hg36) rfl ?_; clear hc; rintro _ w40 ⟨a38, q39, rfl, hc⟩; rw [← e37] at hc ⊢; replace hc := Ctx.n3 hc; refine au 1 rfl <| rn (bn (qn (Wreg ?_))); refine au 3 rfl <| rn (qn ?_); replace hc := hc.m [1]; exact ⟨m1, Nat.lt_succ_self _, ⟨z35, (IntKind.i64.wrap (j18 + 1)), a38, z35.length, q39, rfl, hp, hc⟩, (kl rfl k0)⟩

def ref06_rest (x0 : Int) : Option (Int) :=
  if (Int.tmod x0 65536) < 0 then
    (some (IntKind.i64.wrap ((Int.tmod x0 65536) + 65536))).bind fun e2 =>
    some e2
  else
    some (Int.tmod x0 65536)

theorem ref06_rest_any {x0 r : Int} {Fr : List HP} {w : World} {K : Value → World → Prop}  (hc : Ctx w (Fr)) (hp : ref06_rest x0 = some r)
    (k : ∀ w', Ctx w' (Fr) → K (.int .i64 r) w') : Calls Tryz.prog 128 #[.int .i64 x0] w (Ret K) := by
 unfold ref06_rest at hp; refine Center1 F128 M128 rfl rfl ?_; refine Wseq (Wreg ?_); refine au 1 rfl <| rn (qn (Wseq (Wreg ?_))); refine au 1 rfl <| sz (rm rfl rfl (by decide)) <| au 1 rfl <| rn (qn (Wseq (Wseq (Wreg ?_)))); refine au 2 rfl <| rn (qn ?_); refine Wif hp (fun _ hp => ?_) fun _ hp => ?_
 · refine Wskip (qn (Wseq (Wreg ?_))); refine au 2 rfl <| rn (qn (Wret ?_)); obtain rfl := sj hp; exact fz R128 M128 (k _ hc)
 · refine Wreg <| au 2 rfl ?_; obtain ⟨e2, he2, hp⟩ := bind_some hp; injection he2 with he2; refine sz (v := .int .i64 e2) (av (v := .int .i64 e2) (by rw [← he2]; rfl)) <| rn (qn (Wseq (Wreg ?_))); refine au 2 rfl <| rn (qn (Wret ?_)); obtain rfl := sj hp; exact fz R128 M128 (k _ hc)

def ref06_Angle.J2 (x0 : Int) (j4 : Int) (j5 : Int) (k1 : Int → Int → Option (Int)) (j7 : Bool) : Option (Int) :=
  if j7 = true then
    (some (IntKind.i64.wrap (Int.tdiv j4 2))).bind fun e13 =>
    k1 e13 (IntKind.i64.wrap (j5 + 1))
  else
    (ref06_rest (IntKind.i64.wrap (x0 * j4))).bind fun r11 =>
    some r11

def ref06_Angle.L1 (x0 : Int) (x1 : Int) : Nat → Int → Int → Option (Int)
  | 0, _, _ => none
  | m1 + 1, j4, j5 =>
    if j5 < x1 then
      ref06_Angle.J2 x0 j4 j5 (ref06_Angle.L1 x0 x1 m1) (decide (j4 > 0))
    else
      ref06_Angle.J2 x0 j4 j5 (ref06_Angle.L1 x0 x1 m1) false

def ref06_Angle (N : Nat) (x0 : Int) (x1 : Int) : Option (Int) :=
  if x0 < 0 then
    some 0
  else
    if x0 > 1048576 then
      some 0
    else
      if x1 < 0 then
        some 0
      else
        ref06_Angle.L1 x0 x1 N 8192 0

theorem ref06_Angle_any {N : Nat} {x0 x1 r : Int} {Fr : List HP} {w : World} {K : Value → World → Prop}  (hc : Ctx w (Fr)) (hp : ref06_Angle N x0 x1 = some r)
    (k : ∀ w', Ctx w' (Fr) → K (.int .i64 r) w') : Calls Tryz.prog 110 #[.int .i64 x0, .int .i64 x1] w (Ret K) := by
 unfold ref06_Angle at hp; refine Center2 F110 M110 rfl rfl ?_; refine Wseq (Wreg ?_); refine au 1 rfl <| rn (qn (Wseq (Wseq (Wreg ?_)))); refine au 3 rfl ?_; cases hb1 : (decide (x0 < 0))
 · replace hp := gneg hp (of_decide_eq_false hb1); refine au 4 rfl ?_; cases hb2 : (decide (x0 > 1048576))
   · replace hp := gneg hp (of_decide_eq_false hb2); refine au 3 rfl <| rn (qn ?_); refine Wif hp (fun _ h => ?_) fun _ h => ?_
     · replace hp := h; clear h; refine Wskip (qn (Wseq (Wreg ?_))); refine au 1 rfl <| rn (qn (Wseq (Wseq (Wreg ?_)))); refine au 1 rfl <| rn (qn (Wblk ?_)); refine Wloop (rg [5, 2, 17, 11]) [5, 6] (fun m vs w' => ∃ j4 : Int, ∃ j5 : Int, vs = [.int .i64 j4, .int .i64 j5] ∧ ref06_Angle.L1 x0 x1 m j4 j5 = some r ∧ Ctx w' (Fr)) N ?_ ?_
       · exact ⟨8192, 0, rfl, hp, hc⟩
       · clear hp hc; intro m vs u w6 hJ; obtain ⟨j4, j5, rfl, hp, hc⟩ := hJ; rcases m with _ | m1
         · cases (show none = some r from hp)
         rw [ref06_Angle.L1] at hp; refine Wseq ?_; refine Wseqm (rg [17, 7]) [23] (fun vs w' => ∃ j7 : Bool, vs = [.bool j7] ∧ ref06_Angle.J2 x0 j4 j5 (ref06_Angle.L1 x0 x1 m1) j7 = some r ∧ Ctx w' (Fr)) ?_ ?_
         · refine Wreg <| au 4 rfl ?_; cases hb8 : (decide (j5 < x1))
           · replace hp := gneg hp (of_decide_eq_false hb8); (iterate 2 refine r0 rfl ?_); refine au 1 rfl <| rn (qn ?_); exact ⟨⟨false, rfl, hp, hc⟩, (kl rfl kb)⟩
           · replace hp := gpos hp (of_decide_eq_true hb8); refine au 3 rfl <| rn (qn ?_); exact ⟨⟨decide (j4 > 0), rfl, hp, hc⟩, (kl rfl kb)⟩
         · clear hp hc; intro vs u w9 hJ; obtain ⟨j7, rfl, hp, hc⟩ := hJ; unfold ref06_Angle.J2 at hp; cases hb10 : j7
           · replace hp := gneg hp (by rw [hb10]; exact Bool.false_ne_true); subst hb10; refine Wcf rfl (Wexit (qx (qx (be (qn (Wseq (Wreg ?_))))))); refine au 3 rfl ?_; replace hp := bind_some hp; obtain ⟨r11, hr11, hp⟩ := hp; refine kz C128 ?_; refine ref06_rest_any hc hr11 ?_; clear hc; intro w12 hc; refine au 1 rfl <| rn (qn (Wret ?_)); obtain rfl := sj hp; exact fz R110 M110 (k _ hc)
           · replace hp := gpos hp hb10; subst hb10; refine Wct rfl (Wskip (qn (Wseq (Wblk (Wreg ?_))))); refine au 1 rfl <| sz (quw rfl rfl (by decide)) ?_; replace hp := bind_some hp; obtain ⟨e13, he13, hp⟩ := hp; injection he13 with he13; refine sz (v := .int .i64 e13) (av (v := .int .i64 e13) (by rw [← he13]; rfl)) <| rn (bn (qn (Wreg ?_))); refine au 3 rfl <| rn (qn ?_); exact ⟨m1, Nat.lt_succ_self _, ⟨e13, (IntKind.i64.wrap (j5 + 1)), rfl, hp, hc⟩, (kl rfl (km rfl (kl rfl k0)))⟩
     · replace hp := h; clear h; refine Wseq (Wreg ?_); refine au 1 rfl <| rn (qn (Wret (qr ?_))); obtain rfl := sj hp; exact fz R110 M110 (k _ hc)
   · replace hp := gpos hp (of_decide_eq_true hb2); (iterate 2 refine r0 rfl ?_); refine au 1 rfl <| rn (qn (Wct rfl (Wseq (Wreg ?_)))); refine au 1 rfl <| rn (qn (Wret (qr ?_))); obtain rfl := sj hp; exact fz R110 M110 (k _ hc)
 · replace hp := gpos hp (of_decide_eq_true hb1); (iterate 2 refine r0 rfl ?_); refine au 2 rfl ?_; (iterate 2 refine r0 rfl ?_); refine au 1 rfl <| rn (qn (Wct rfl (Wseq (Wreg ?_)))); refine au 1 rfl <| rn (qn (Wret (qr ?_))); obtain rfl := sj hp; exact fz R110 M110 (k _ hc)

def ref06_S (x0 : Int) : Option (Int) :=
  (idx ((0 :: 804 :: 1606 :: 2404 :: 3196 :: 3981 :: 4756 :: 5520 :: 6270 :: 7005 :: 7723 :: 8423 :: 9102 :: 9760 :: 10394 :: 11003 :: 11585 :: 12140 :: 12665 :: 13160 :: 13623 :: 14053 :: 14449 :: 14811 :: 15137 :: 15426 :: 15679 :: 15893 :: 16069 :: 16207 :: 16305 :: 16364 :: 16384 :: [])) x0).bind fun y3 =>
  some y3

theorem ref06_S_any {x0 r : Int} {Fr : List HP} {w : World} {K : Value → World → Prop}  (hc : Ctx w (Fr)) (hp : ref06_S x0 = some r)
    (k : ∀ w', Ctx w' (Fr) → K (.int .i64 r) w') : Calls Tryz.prog 129 #[.int .i64 x0] w (Ret K) := by
 unfold ref06_S at hp; refine Center1 F129 M129 rfl rfl ?_; refine Wseq (Wreg ?_); refine au 1 rfl <| rn (qn (Wseq (Wreg ?_))); refine rsE (Ctx.builtOp (css := [[.int .i64 0], [.int .i64 804], [.int .i64 1606], [.int .i64 2404], [.int .i64 3196], [.int .i64 3981], [.int .i64 4756], [.int .i64 5520], [.int .i64 6270], [.int .i64 7005], [.int .i64 7723], [.int .i64 8423], [.int .i64 9102], [.int .i64 9760], [.int .i64 10394], [.int .i64 11003], [.int .i64 11585], [.int .i64 12140], [.int .i64 12665], [.int .i64 13160], [.int .i64 13623], [.int .i64 14053], [.int .i64 14449], [.int .i64 14811], [.int .i64 15137], [.int .i64 15426], [.int .i64 15679], [.int .i64 15893], [.int .i64 16069], [.int .i64 16207], [.int .i64 16305], [.int .i64 16364], [.int .i64 16384]]) (xs := ((0 :: 804 :: 1606 :: 2404 :: 3196 :: 3981 :: 4756 :: 5520 :: 6270 :: 7005 :: 7723 :: 8423 :: 9102 :: 9760 :: 10394 :: 11003 :: 11585 :: 12140 :: 12665 :: 13160 :: 13623 :: 14053 :: 14449 :: 14811 :: 15137 :: 15426 :: 15679 :: 15893 :: 16069 :: 16207 :: 16305 :: 16364 :: 16384 :: []) : List Int)) (E := (pInt .i64)) (Ctx.holdsC (f := fun x : Int => [.int .i64 x]) (fun _ _ _ => rfl) hc ((0 :: 804 :: 1606 :: 2404 :: 3196 :: 3981 :: 4756 :: 5520 :: 6270 :: 7005 :: 7723 :: 8423 :: 9102 :: 9760 :: 10394 :: 11003 :: 11585 :: 12140 :: 12665 :: 13160 :: 13623 :: 14053 :: 14449 :: 14811 :: 15137 :: 15426 :: 15679 :: 15893 :: 16069 :: 16207 :: 16305 :: 16364 :: 16384 :: []) : List Int)) U125 Z2 V2 rfl rfl rfl rfl rfl rfl rfl rfl) rfl ?_; clear hc; rintro _ w2 ⟨a1, rfl, hc⟩; refine au 1 rfl <| rn (qn (Wseq (Wreg ?_))); refine au 2 rfl ?_; obtain ⟨y3, hy3, hp⟩ := bind_some hp; obtain ⟨b6, o7, rfl, hi4, hi5⟩ := hc.ra 0 reads_own hy3; refine sz (ixx rfl rfl U125 Z2 hi4 hi5 rfl) ?_; have hcell10 := hc.rv 0 reads_own hy3; refine sz (ld rfl G2 (hcell10 0 _ rfl)) <| au 1 rfl <| rn (qn (Wret ?_)); replace hc := hc.m [1]; obtain rfl := sj hp; exact fz R129 M129 (k _ hc)

def ref06_Sin.J4 (j14 : Int) (j23 : Bool) : Option (Int) :=
  if j23 = true then
    (some (IntKind.i32.wrap (IntKind.i64.wrap (0 - j14)))).bind fun e27 =>
    some e27
  else
    some (IntKind.i32.wrap j14)

def ref06_Sin.J3 (e3 : Int) (j14 : Int) : Option (Int) :=
  if e3 = 2 then
    ref06_Sin.J4 j14 true
  else
    ref06_Sin.J4 j14 (decide (e3 = 3))

def ref06_Sin.J1 (N : Nat) (e3 : Int) (j4 : Int) : Option (Int) :=
  (some (IntKind.i64.wrap (Int.tdiv j4 512))).bind fun e11 =>
  (ref06_S e11).bind fun r12 =>
  if e11 < 32 then
    (ref06_S (IntKind.i64.wrap (e11 + 1))).bind fun r16 =>
    (ref06_S e11).bind fun r18 =>
    (ref01_Shift N (IntKind.i64.wrap ((IntKind.i64.wrap (r16 - r18)) * (Int.tmod j4 512))) 9).bind fun r20 =>
    ref06_Sin.J3 e3 (IntKind.i64.wrap (r12 + r20))
  else
    ref06_Sin.J3 e3 r12

def ref06_Sin.J2 (N : Nat) (r1 : (Int)) (e3 : Int) (j5 : Bool) : Option (Int) :=
  if j5 = true then
    (some (IntKind.i64.wrap (16384 - (Int.tmod r1 16384)))).bind fun e9 =>
    ref06_Sin.J1 N e3 e9
  else
    ref06_Sin.J1 N e3 (Int.tmod r1 16384)

def ref06_Sin (N : Nat) (x0 : Int) : Option (Int) :=
  (ref06_rest x0).bind fun r1 =>
  (some (IntKind.i64.wrap (Int.tdiv r1 16384))).bind fun e3 =>
  if e3 = 1 then
    ref06_Sin.J2 N r1 e3 true
  else
    ref06_Sin.J2 N r1 e3 (decide (e3 = 3))

theorem ref06_Sin_any {N : Nat} {x0 r : Int} {Fr : List HP} {w : World} {K : Value → World → Prop}  (hc : Ctx w (Fr)) (hp : ref06_Sin N x0 = some r)
    (k : ∀ w', Ctx w' (Fr) → K (.int .i32 r) w') : Calls Tryz.prog 112 #[.int .i64 x0] w (Ret K) := by
 unfold ref06_Sin at hp; refine Center1 F112 M112 rfl rfl ?_; refine Wseq (Wreg ?_); refine au 1 rfl <| rn (qn (Wseq (Wreg ?_))); refine au 1 rfl ?_; replace hp := bind_some hp; obtain ⟨r1, hr1, hp⟩ := hp; refine kz C128 ?_; refine ref06_rest_any hc hr1 ?_; clear hc; intro w2 hc; refine au 1 rfl <| rn (qn (Wseq (Wreg ?_))); refine au 1 rfl <| sz (quw rfl rfl (by decide)) ?_; replace hp := bind_some hp; obtain ⟨e3, he3, hp⟩ := hp; injection he3 with he3; refine sz (v := .int .i64 e3) (av (v := .int .i64 e3) (by rw [← he3]; rfl)) <| rn (qn (Wseq (Wreg ?_))); refine au 1 rfl <| sz (rm rfl rfl (by decide)) <| au 1 rfl <| rn (qn ?_); refine Wseqm (rg [5, 1, 14, 8]) [5] (fun vs w' => ∃ j4 : Int, vs = [.int .i64 j4] ∧ ref06_Sin.J1 N e3 j4 = some r ∧ Ctx w' (Fr)) ?_ ?_
 · refine Wseqm (rg [14, 6]) [19] (fun vs w' => ∃ j5 : Bool, vs = [.bool j5] ∧ ref06_Sin.J2 N r1 e3 j5 = some r ∧ Ctx w' (Fr)) ?_ ?_
   · refine Wreg <| au 3 rfl ?_; cases hb6 : (decide (e3 = 1))
     · replace hp := gneg hp (of_decide_eq_false hb6); refine au 3 rfl <| rn (qn ?_); exact ⟨⟨decide (e3 = 3), rfl, hp, hc⟩, (kl rfl kb)⟩
     · replace hp := gpos hp (of_decide_eq_true hb6); (iterate 2 refine r0 rfl ?_); refine au 1 rfl <| rn (qn ?_); exact ⟨⟨true, rfl, hp, hc⟩, (kl rfl kb)⟩
   · clear hp hc; intro vs u w7 hJ; obtain ⟨j5, rfl, hp, hc⟩ := hJ; unfold ref06_Sin.J2 at hp; cases hb8 : j5
     · replace hp := gneg hp (by rw [hb8]; exact Bool.false_ne_true); subst hb8; refine Wcf rfl (Wskip (qn ?_)); exact ⟨⟨(Int.tmod r1 16384), rfl, hp, hc⟩, (kl rfl (km rfl (kl rfl kb)))⟩
     · replace hp := gpos hp hb8; subst hb8; refine Wct rfl (Wreg ?_); refine au 2 rfl ?_; replace hp := bind_some hp; obtain ⟨e9, he9, hp⟩ := hp; injection he9 with he9; refine sz (v := .int .i64 e9) (av (v := .int .i64 e9) (by rw [← he9]; rfl)) <| rn (qn ?_); exact ⟨⟨e9, rfl, hp, hc⟩, (kl rfl (km rfl (kl rfl kb)))⟩
 · clear hp hc; intro vs u w10 hJ; obtain ⟨j4, rfl, hp, hc⟩ := hJ; unfold ref06_Sin.J1 at hp; refine Wseq (Wreg ?_); refine au 1 rfl <| sz (quw rfl rfl (by decide)) ?_; replace hp := bind_some hp; obtain ⟨e11, he11, hp⟩ := hp; injection he11 with he11; refine sz (v := .int .i64 e11) (av (v := .int .i64 e11) (by rw [← he11]; rfl)) <| rn (qn (Wseq (Wreg ?_))); refine au 1 rfl ?_; replace hp := bind_some hp; obtain ⟨r12, hr12, hp⟩ := hp; refine kz C129 ?_; refine ref06_S_any hc hr12 ?_; clear hc; intro w13 hc; refine au 1 rfl <| rn (qn ?_); refine Wseqm (rg [7, 1, 26, 14]) [7] (fun vs w' => ∃ j14 : Int, vs = [.int .i64 j14] ∧ ref06_Sin.J3 e3 j14 = some r ∧ Ctx w' (Fr)) ?_ ?_
   · refine Wseq (Wreg ?_); refine au 2 rfl <| rn (qn ?_); refine Wif hp (fun _ h => ?_) fun _ h => ?_
     · replace hp := h; clear h; refine Wskip (qn ?_); exact ⟨⟨r12, rfl, hp, hc⟩, (kl rfl kb)⟩
     · replace hp := h; clear h; refine Wreg <| au 3 rfl ?_; replace hp := bind_some hp; obtain ⟨r16, hr16, hp⟩ := hp; refine kz C129 ?_; refine ref06_S_any hc hr16 ?_; clear hc; intro w17 hc; refine au 1 rfl ?_; replace hp := bind_some hp; obtain ⟨r18, hr18, hp⟩ := hp; refine kz C129 ?_; refine ref06_S_any hc hr18 ?_; clear hc; intro w19 hc; refine au 2 rfl <| sz (rm rfl rfl (by decide)) <| au 1 rfl ?_; replace hp := bind_some hp; obtain ⟨r20, hr20, hp⟩ := hp; refine kz C53 ?_; refine ref01_Shift_any hc hr20 ?_; clear hc; intro w21 hc; refine au 2 rfl <| rn (qn ?_); exact ⟨⟨(IntKind.i64.wrap (r12 + r20)), rfl, hp, hc⟩, (kl rfl kb)⟩
   · clear hp hc; intro vs u w22 hJ; obtain ⟨j14, rfl, hp, hc⟩ := hJ; unfold ref06_Sin.J3 at hp; refine Wseq ?_; refine Wseqm (rg [40, 6]) [45] (fun vs w' => ∃ j23 : Bool, vs = [.bool j23] ∧ ref06_Sin.J4 j14 j23 = some r ∧ Ctx w' (Fr)) ?_ ?_
     · refine Wreg <| au 3 rfl ?_; cases hb24 : (decide (e3 = 2))
       · replace hp := gneg hp (of_decide_eq_false hb24); refine au 3 rfl <| rn (qn ?_); exact ⟨⟨decide (e3 = 3), rfl, hp, hc⟩, (kl rfl kb)⟩
       · replace hp := gpos hp (of_decide_eq_true hb24); (iterate 2 refine r0 rfl ?_); refine au 1 rfl <| rn (qn ?_); exact ⟨⟨true, rfl, hp, hc⟩, (kl rfl kb)⟩
     · clear hp hc; intro vs u w25 hJ; obtain ⟨j23, rfl, hp, hc⟩ := hJ; unfold ref06_Sin.J4 at hp; cases hb26 : j23
       · replace hp := gneg hp (by rw [hb26]; exact Bool.false_ne_true); subst hb26; refine Wcf rfl (Wskip (qn (Wseq (Wreg ?_)))); refine au 1 rfl <| sz (cvi rfl U2 U21) <| au 1 rfl <| rn (qn (Wret ?_)); obtain rfl := sj hp; exact fz R112 M112 (k _ hc)
       · replace hp := gpos hp hb26; subst hb26; refine Wct rfl (Wreg ?_); refine au 1 rfl <| sz (neg_ rfl) <| au 1 rfl <| rn (qn (Wseq (Wreg ?_))); refine au 1 rfl <| sz (cvi rfl U2 U21) ?_; replace hp := bind_some hp; obtain ⟨e27, he27, hp⟩ := hp; injection he27 with he27; refine sz (v := .int .i32 e27) (av (v := .int .i32 e27) (by rw [← he27]; rfl)) <| rn (qn (Wret ?_)); obtain rfl := sj hp; exact fz R112 M112 (k _ hc)

def ref06_Cos (N : Nat) (x0 : Int) : Option (Int) :=
  (ref06_rest x0).bind fun r1 =>
  (ref06_Sin N (IntKind.i64.wrap (r1 + 16384))).bind fun r3 =>
  some r3

theorem ref06_Cos_any {N : Nat} {x0 r : Int} {Fr : List HP} {w : World} {K : Value → World → Prop}  (hc : Ctx w (Fr)) (hp : ref06_Cos N x0 = some r)
    (k : ∀ w', Ctx w' (Fr) → K (.int .i32 r) w') : Calls Tryz.prog 111 #[.int .i64 x0] w (Ret K) := by
 unfold ref06_Cos at hp; refine Center1 F111 M111 rfl rfl ?_; refine Wseq (Wreg ?_); refine au 1 rfl <| rn (qn (Wseq (Wreg ?_))); refine au 1 rfl ?_; obtain ⟨r1, hr1, hp⟩ := bind_some hp; refine kz C128 ?_; refine ref06_rest_any hc hr1 ?_; clear hc; intro w2 hc; refine au 1 rfl ?_; obtain ⟨r3, hr3, hp⟩ := bind_some hp; refine kz C112 ?_; refine ref06_Sin_any hc hr3 ?_; clear hc; intro w4 hc; refine au 1 rfl <| rn (qn (Wret ?_)); obtain rfl := sj hp; exact fz R111 M111 (k _ hc)

def ref06_Turn.L1 (N : Nat) (x0 : Int) (x1 : (List Int)) : Nat → (List Int) → Int → Option ((List Int))
  | 0, _, _ => none
  | m1 + 1, j1, j5 =>
    if (IntKind.i64.wrap (j5 + 1)) < ((x1.length : Nat) : Int) then
      (ref06_Angle N x0 (IntKind.i64.wrap (Int.tdiv j5 2))).bind fun r9 =>
      (ref06_Cos N r9).bind fun r11 =>
      (ref06_Sin N r9).bind fun r13 =>
      (idx x1 j5).bind fun y15 =>
      (idx x1 (IntKind.i64.wrap (j5 + 1))).bind fun y24 =>
      (ref01_Shift N (IntKind.i64.wrap ((IntKind.i64.wrap ((IntKind.i64.wrap y15) * (IntKind.i64.wrap r11))) - (IntKind.i64.wrap ((IntKind.i64.wrap y24) * (IntKind.i64.wrap r13))))) 14).bind fun r33 =>
      (ref01_Near r33 (-128) 127).bind fun r35 =>
      (app j1 ([(IntKind.i8.wrap r35)])).bind fun z39 =>
      (ref01_Shift N (IntKind.i64.wrap ((IntKind.i64.wrap ((IntKind.i64.wrap y15) * (IntKind.i64.wrap r13))) + (IntKind.i64.wrap ((IntKind.i64.wrap y24) * (IntKind.i64.wrap r11))))) 14).bind fun r45 =>
      (ref01_Near r45 (-128) 127).bind fun r47 =>
      (app z39 ([(IntKind.i8.wrap r47)])).bind fun z51 =>
      (ref06_Turn.L1 N x0 x1 m1) z51 (IntKind.i64.wrap (j5 + 2))
    else
      some j1

def ref06_Turn (N : Nat) (x0 : Int) (x1 : (List Int)) : Option ((List Int)) :=
  ref06_Turn.L1 N x0 x1 N ([]) 0

theorem ref06_Turn_any {N nx1 qx1 : Nat} {x0 : Int} {x1 r : (List Int)} {ax1 : Option Addr} {P1 : HP} {Fr : List HP} {w : World} {K : Value → World → Prop} (hrd1 : Reads P1 (pInt .i8) (.slice ax1 nx1 qx1) x1) (hc : Ctx w (P1 :: Fr)) (hp : ref06_Turn N x0 x1 = some r)
    (k : ∀ a57 n58 q59 w', Ctx w' (Own (pInt .i8) 88 (.slice a57 n58 q59) r :: P1 :: Fr) → K (.slice a57 n58 q59) w') : Calls Tryz.prog 83 #[.int .i64 x0, .slice ax1 nx1 qx1] w (Ret K) := by
 unfold ref06_Turn at hp; refine Center2 F83 M83 rfl rfl ?_; obtain ⟨hn1, _⟩ := Ctx.rdLen hc (k := 0) rfl rfl hrd1; subst hn1; refine Wseq (Wreg ?_); refine au 1 rfl <| rn (qn (Wseq (Wreg ?_))); refine au 1 rfl <| rn (qn (Wseq (Wseq (Wreg ?_)))); refine au 1 rfl <| rn (qn (Wblk ?_)); replace hc := hc.nilOwn (pInt .i8) 88; replace hc := hc.m [2]; refine Wloop (rg [5, 61]) [5, 6] (fun m vs w' => ∃ j1 : (List Int), ∃ j5 : Int, ∃ a2 n3 q4, vs = [.slice a2 n3 q4, .int .i64 j5] ∧ ref06_Turn.L1 N x0 x1 m j1 j5 = some r ∧ Ctx w' (P1 :: Own (pInt .i8) 88 (.slice a2 n3 q4) j1 :: Fr)) N ?_ ?_
 · exact ⟨[], 0, none, 0, 0, rfl, hp, hc⟩
 · clear hp hc; intro m vs u w6 hJ; obtain ⟨j1, j5, a2, n3, q4, rfl, hp, hc⟩ := hJ; obtain rfl := hc.rz 1 reads_own; rcases m with _ | m1
   · cases (show none = some r from hp)
   rw [ref06_Turn.L1] at hp; refine Wseq (Wseq (Wreg ?_)); refine au 3 rfl <| sz (ln rfl U30) <| au 1 rfl <| rn (qn ?_); refine Wif hp (fun _ hp => ?_) fun _ hp => ?_
   · refine Wexit (qx (qx (be (qn (Wseq (Wreg ?_)))))); refine au 2 rfl <| rn (qn (Wret ?_)); replace hc := hc.m [2]; obtain rfl := sj hp; exact fz R83 M83 (k _ _ _ _ hc)
   · refine Wskip (qn (Wseq (Wblk (Wseq (Wreg ?_))))); refine au 2 rfl <| sz (quw rfl rfl (by decide)) ?_; obtain ⟨r9, hr9, hp⟩ := bind_some hp; refine kz C110 ?_; refine ref06_Angle_any hc hr9 ?_; clear hc; intro w10 hc; refine au 1 rfl <| rn (qn (Wseq (Wreg ?_))); refine au 1 rfl ?_; obtain ⟨r11, hr11, hp⟩ := bind_some hp; refine kz C111 ?_; refine ref06_Cos_any hc hr11 ?_; clear hc; intro w12 hc; refine sz (cvi rfl U21 U2) <| au 1 rfl <| rn (qn (Wseq (Wreg ?_))); refine au 1 rfl ?_; obtain ⟨r13, hr13, hp⟩ := bind_some hp; refine kz C112 ?_; refine ref06_Sin_any hc hr13 ?_; clear hc; intro w14 hc; refine sz (cvi rfl U21 U2) <| au 1 rfl <| rn (qn (Wseq (Wreg ?_))); refine au 2 rfl ?_; obtain ⟨y15, hy15, hp⟩ := bind_some hp; obtain ⟨b18, o19, rfl, hi16, hi17⟩ := hc.ra 0 hrd1 hy15; refine sz (ixx rfl rfl U30 Z88 hi16 hi17 rfl) ?_; have hcell22 := hc.rv 0 hrd1 hy15; refine sz (ld rfl G88 (hcell22 0 _ rfl)) <| sz (cvi rfl U88 U2) <| au 1 rfl <| rn (qn (Wseq (Wreg ?_))); refine au 3 rfl ?_; obtain ⟨y24, hy24, hp⟩ := bind_some hp; obtain ⟨b27, o28, -, hi25, hi26⟩ := hc.ra 0 hrd1 hy24; refine sz (ixx rfl rfl U30 Z88 hi25 hi26 rfl) ?_; have hcell31 := hc.rv 0 hrd1 hy24; refine sz (ld rfl G88 (hcell31 0 _ rfl)) <| sz (cvi rfl U88 U2) <| au 1 rfl <| rn (qn (Wseq (Wreg ?_))); refine au 8 rfl ?_; obtain ⟨r33, hr33, hp⟩ := bind_some hp; refine kz C53 ?_; refine ref01_Shift_any hc hr33 ?_; clear hc; intro w34 hc; obtain ⟨r35, hr35, hp⟩ := bind_some hp; refine kz C51 ?_; refine ref01_Near_any hc hr35 ?_; clear hc; intro w36 hc; refine sz (cvi rfl U2 U88) ?_; refine rsE (oneI hc U30 Z88 V88) rfl ?_; clear hc; rintro _ w38 ⟨a37, rfl, hc⟩; obtain ⟨z39, hz39, hp⟩ := bind_some hp; obtain ⟨hg40, e41⟩ := app_some hz39; refine rsE (hc.ap 2 0 reads_own U30 Tryz.t88 hg40) rfl ?_; clear hc; rintro _ w44 ⟨a42, q43, rfl, hc⟩; rw [← e41] at hc ⊢; replace hc := Ctx.n2 hc; refine au 1 rfl <| rn (qn (Wreg ?_)); refine au 8 rfl ?_; obtain ⟨r45, hr45, hp⟩ := bind_some hp; refine kz C53 ?_; refine ref01_Shift_any hc hr45 ?_; clear hc; intro w46 hc; obtain ⟨r47, hr47, hp⟩ := bind_some hp; refine kz C51 ?_; refine ref01_Near_any hc hr47 ?_; clear hc; intro w48 hc; refine sz (cvi rfl U2 U88) ?_; refine rsE (oneI hc U30 Z88 V88) rfl ?_; clear hc; rintro _ w50 ⟨a49, rfl, hc⟩; obtain ⟨z51, hz51, hp⟩ := bind_some hp; obtain ⟨hg52, e53⟩ := app_some hz51; refine rsE (hc.ap 3 0 reads_own U30 Tryz.t88 hg52) rfl ?_; clear hc; rintro _ w56 ⟨a54, q55, rfl, hc⟩; rw [← e53] at hc ⊢; replace hc := Ctx.n3 hc; refine au 1 rfl <| rn (bn (qn (Wreg ?_))); refine au 3 rfl <| rn (qn ?_); replace hc := hc.m [3, 1]; exact ⟨m1, Nat.lt_succ_self _, ⟨z51, (IntKind.i64.wrap (j5 + 2)), a54, z51.length, q55, rfl, hp, hc⟩, (kl rfl k0)⟩

def ref08_turned.L1 (N : Nat) (x0 : Int) (x1 : Int) (x2 : (List Int)) : Nat → (List Int) → Int → Option ((List Int))
  | 0, _, _ => none
  | m1 + 1, j1, j5 =>
    if j5 < ((x2.length : Nat) : Int) then
      chk (0 ≤ j5 ∧ j5 ≤ (IntKind.i64.wrap (j5 + x1)) ∧ (IntKind.i64.wrap (j5 + x1)) ≤ ((x2.length : Nat) : Int)) <|
      (ref06_Turn N x0 ((x2.take ((IntKind.i64.wrap (j5 + x1))).toNat).drop (j5).toNat)).bind fun r15 =>
      (app j1 r15).bind fun z21 =>
      (ref08_turned.L1 N x0 x1 x2 m1) z21 (IntKind.i64.wrap (j5 + x1))
    else
      some j1

def ref08_turned (N : Nat) (x0 : Int) (x1 : Int) (x2 : (List Int)) : Option ((List Int)) :=
  ref08_turned.L1 N x0 x1 x2 N ([]) 0

theorem ref08_turned_any {N nx2 qx2 : Nat} {x0 x1 : Int} {x2 r : (List Int)} {ax2 : Option Addr} {P2 : HP} {Fr : List HP} {w : World} {K : Value → World → Prop} (hrd2 : Reads P2 (pInt .i8) (.slice ax2 nx2 qx2) x2) (hc : Ctx w (P2 :: Fr)) (hp : ref08_turned N x0 x1 x2 = some r)
    (k : ∀ a27 n28 q29 w', Ctx w' (Own (pInt .i8) 88 (.slice a27 n28 q29) r :: P2 :: Fr) → K (.slice a27 n28 q29) w') : Calls Tryz.prog 55 #[.int .i64 x0, .int .i64 x1, .slice ax2 nx2 qx2] w (Ret K) := by
 unfold ref08_turned at hp; refine Center3 F55 M55 rfl rfl ?_; obtain ⟨hn2, _⟩ := Ctx.rdLen hc (k := 0) rfl rfl hrd2; subst hn2; refine Wseq (Wreg ?_); refine au 1 rfl <| rn (qn (Wseq (Wreg ?_))); refine au 1 rfl <| rn (qn (Wseq (Wseq (Wreg ?_)))); refine au 1 rfl <| rn (qn (Wblk ?_)); replace hc := hc.nilOwn (pInt .i8) 88; replace hc := hc.m [2]; refine Wloop (rg [7, 19]) [7, 8] (fun m vs w' => ∃ j1 : (List Int), ∃ j5 : Int, ∃ a2 n3 q4, vs = [.slice a2 n3 q4, .int .i64 j5] ∧ ref08_turned.L1 N x0 x1 x2 m j1 j5 = some r ∧ Ctx w' (P2 :: Own (pInt .i8) 88 (.slice a2 n3 q4) j1 :: Fr)) N ?_ ?_
 · exact ⟨[], 0, none, 0, 0, rfl, hp, hc⟩
 · clear hp hc; intro m vs u w6 hJ; obtain ⟨j1, j5, a2, n3, q4, rfl, hp, hc⟩ := hJ; obtain rfl := hc.rz 1 reads_own; rcases m with _ | m1
   · cases (show none = some r from hp)
   rw [ref08_turned.L1] at hp; refine Wseq (Wseq (Wreg ?_)); refine au 2 rfl <| sz (ln rfl U30) <| au 1 rfl <| rn (qn ?_); refine Wif hp (fun _ hp => ?_) fun _ hp => ?_
   · refine Wexit (qx (qx (be (qn (Wseq (Wreg ?_)))))); refine au 2 rfl <| rn (qn (Wret ?_)); replace hc := hc.m [2]; obtain rfl := sj hp; exact fz R55 M55 (k _ _ _ _ hc)
   · refine Wskip (qn (Wseq (Wblk (Wreg ?_)))); refine au 7 rfl ?_; obtain ⟨hg9, hp⟩ := chk_some hp; refine rsE (Ctx.subOp (li := some j5) (hi' := some (IntKind.i64.wrap (j5 + x1))) hc (k := 0) rfl rfl hrd2 rfl ⟨_, rfl⟩ ⟨_, rfl⟩ U30 Z88 hg9) rfl ?_; rintro _ _ ⟨rfl, a10, q11, rfl, rd12, ea13, eq14⟩; replace rd12 : Reads (P2) (pInt .i8) (.slice a10 (((IntKind.i64.wrap (j5 + x1))).toNat - (j5).toNat) q11) ((x2.take ((IntKind.i64.wrap (j5 + x1))).toNat).drop (j5).toNat) := rd12; obtain ⟨r15, hr15, hp⟩ := bind_some hp; refine kz C83 ?_; refine ref06_Turn_any rd12 hc hr15 ?_; clear hc; intro a16 n17 q18 w19 hc; obtain rfl := hc.rz 0 reads_own; obtain ⟨z21, hz21, hp⟩ := bind_some hp; obtain ⟨hg22, e23⟩ := app_some hz21; refine rsE (hc.ap 2 0 reads_own U30 Tryz.t88 hg22) rfl ?_; clear hc; rintro _ w26 ⟨a24, q25, rfl, hc⟩; rw [← e23] at hc ⊢; replace hc := Ctx.n2 hc; refine au 1 rfl <| rn (bn (qn (Wreg ?_))); refine au 4 rfl <| rn (qn ?_); replace hc := hc.m [1]; exact ⟨m1, Nat.lt_succ_self _, ⟨z21, (IntKind.i64.wrap (j5 + x1)), a24, z21.length, q25, rfl, hp, hc⟩, (kl rfl k0)⟩

def ref01_Dot.J2 (N : Nat) (x0 : (List Int)) (x1 : (List Int)) (j1 : (List Int)) (j5 : Int) (k1 : (List Int) → Int → Option (Int)) (j8 : Bool) : Option (Int) :=
  if j8 = true then
    (idx x0 j5).bind fun y15 =>
    (idx x1 j5).bind fun y24 =>
    (app j1 ([(IntKind.i64.wrap ((IntKind.i64.wrap y15) * (IntKind.i64.wrap y24)))])).bind fun z35 =>
    k1 z35 (IntKind.i64.wrap (j5 + 1))
  else
    (ref01_Wrap N j1).bind fun r12 =>
    some r12

def ref01_Dot.L1 (N : Nat) (x0 : (List Int)) (x1 : (List Int)) : Nat → (List Int) → Int → Option (Int)
  | 0, _, _ => none
  | m1 + 1, j1, j5 =>
    if j5 < ((x0.length : Nat) : Int) then
      ref01_Dot.J2 N x0 x1 j1 j5 (ref01_Dot.L1 N x0 x1 m1) (decide (j5 < ((x1.length : Nat) : Int)))
    else
      ref01_Dot.J2 N x0 x1 j1 j5 (ref01_Dot.L1 N x0 x1 m1) false

def ref01_Dot (N : Nat) (x0 : (List Int)) (x1 : (List Int)) : Option (Int) :=
  ref01_Dot.L1 N x0 x1 N ([]) 0

theorem ref01_Dot_any {N nx0 qx0 nx1 qx1 : Nat} {x0 x1 : (List Int)} {ax0 ax1 : Option Addr} {P0 P1 : HP} {Fr : List HP} {w : World} {r : Int} {K : Value → World → Prop} (hrd0 : Reads P0 (pInt .i8) (.slice ax0 nx0 qx0) x0) (hrd1 : Reads P1 (pInt .i8) (.slice ax1 nx1 qx1) x1) (hc : Ctx w (P0 :: P1 :: Fr)) (hp : ref01_Dot N x0 x1 = some r)
    (k : ∀ w', Ctx w' (P0 :: P1 :: Fr) → K (.int .i32 r) w') : Calls Tryz.prog 45 #[.slice ax0 nx0 qx0, .slice ax1 nx1 qx1] w (Ret K) := by
 unfold ref01_Dot at hp; refine Center2 F45 M45 rfl rfl ?_; obtain ⟨hn0, _⟩ := Ctx.rdLen hc (k := 0) rfl rfl hrd0; subst hn0; obtain ⟨hn1, _⟩ := Ctx.rdLen hc (k := 1) rfl rfl hrd1; subst hn1; refine Wseq (Wreg ?_); refine au 1 rfl <| rn (qn (Wseq (Wreg ?_))); refine au 1 rfl <| rn (qn (Wseq (Wseq (Wreg ?_)))); refine au 1 rfl <| rn (qn (Wblk ?_)); replace hc := hc.nilOwn (pInt .i64) 2; replace hc := hc.m [4, 4]; refine Wloop (rg [5, 28]) [5, 6] (fun m vs w' => ∃ j1 : (List Int), ∃ j5 : Int, ∃ a2 n3 q4, vs = [.slice a2 n3 q4, .int .i64 j5] ∧ ref01_Dot.L1 N x0 x1 m j1 j5 = some r ∧ Ctx w' (P0 :: P1 :: Own (pInt .i64) 2 (.slice a2 n3 q4) j1 :: Fr)) N ?_ ?_
 · exact ⟨[], 0, none, 0, 0, rfl, hp, hc⟩
 · clear hp hc; intro m vs u w6 hJ; obtain ⟨j1, j5, a2, n3, q4, rfl, hp, hc⟩ := hJ; obtain rfl := hc.rz 2 reads_own; rcases m with _ | m1
   · cases (show none = some r from hp)
   rw [ref01_Dot.L1] at hp; refine Wseq ?_; refine Wseqm (rg [7, 10]) [16] (fun vs w' => ∃ j8 : Bool, vs = [.bool j8] ∧ ref01_Dot.J2 N x0 x1 j1 j5 (ref01_Dot.L1 N x0 x1 m1) j8 = some r ∧ Ctx w' (P0 :: P1 :: oR .i64 2 a2 q4 j1 :: Fr)) ?_ ?_
   · refine Wreg <| au 2 rfl <| sz (ln rfl U30) <| au 2 rfl ?_; cases hb9 : (decide (j5 < ((x0.length : Nat) : Int)))
     · replace hp := gneg hp (of_decide_eq_false hb9); (iterate 4 refine r0 rfl ?_); refine au 1 rfl <| rn (qn ?_); exact ⟨⟨false, rfl, hp, hc⟩, (kl rfl kb)⟩
     · replace hp := gpos hp (of_decide_eq_true hb9); refine au 2 rfl <| sz (ln rfl U30) <| au 2 rfl <| rn (qn ?_); exact ⟨⟨decide (j5 < ((x1.length : Nat) : Int)), rfl, hp, hc⟩, (kl rfl kb)⟩
   · clear hp hc; intro vs u w10 hJ; obtain ⟨j8, rfl, hp, hc⟩ := hJ; unfold ref01_Dot.J2 at hp; cases hb11 : j8
     · replace hp := gneg hp (by rw [hb11]; exact Bool.false_ne_true); subst hb11; refine Wcf rfl (Wexit (qx (qx (be (qn (Wseq (Wreg ?_))))))); refine au 1 rfl ?_; replace hp := bind_some hp; obtain ⟨r12, hr12, hp⟩ := hp; replace hc := hc.m [4]; refine kz C50 ?_; refine ref01_Wrap_any reads_own hc hr12 ?_; clear hc; intro w13 hc; refine au 1 rfl <| rn (qn (Wret ?_)); replace hc := hc.m [1]; obtain rfl := sj hp; exact fz R45 M45 (k _ hc)
     · replace hp := gpos hp hb11; subst hb11; refine Wct rfl (Wskip (qn (Wseq (Wblk ?_)))); replace hc := hc.drew; refine Wdrw (fun j w' => True) [0, 0, 0, 6, 14, 30, 0, 0, 192, 448, 960, 2046, 4094, 8191, 16383] 0 528 rfl (by kernel_rfl) (fun _ _ => trivial) ?_; generalize hw : World.drew w10 = w14 at *; clear hw; refine ad_ 3 rfl ?_; replace hp := bind_some hp; obtain ⟨y15, hy15, hp⟩ := hp; obtain ⟨b18, o19, rfl, hi16, hi17⟩ := hc.ra 0 hrd0 hy15; refine ds rfl (fun w' hF => ixx rfl rfl U30 Z88 hi16 hi17 rfl) rfl ?_; have hcell22 := hc.rv 0 hrd0 hy15; refine dx rfl (ld rfl G88 (hcell22 0 _ rfl)) rfl rfl <| ds rfl (fun w' hF => cvi rfl U88 U2) rfl <| ad_ 2 rfl ?_; replace hp := bind_some hp; obtain ⟨y24, hy24, hp⟩ := hp; obtain ⟨b27, o28, rfl, hi25, hi26⟩ := hc.ra 1 hrd1 hy24; refine ds rfl (fun w' hF => ixx rfl rfl U30 Z88 hi25 hi26 rfl) rfl ?_; have hcell31 := hc.rv 1 hrd1 hy24; refine dx rfl (ld rfl G88 (hcell31 0 _ rfl)) rfl rfl <| ds rfl (fun w' hF => cvi rfl U88 U2) rfl <| ad_ 1 rfl ?_; refine deE (oneI hc U125 Z2 V2) rfl rfl ?_; clear hc; rintro _ w34 ⟨a33, rfl, hc⟩; refine ⟨fun j hj hb => trivial, ?_⟩; replace hp := bind_some hp; obtain ⟨z35, hz35, hp⟩ := hp; obtain ⟨hg36, e37⟩ := app_some hz35; refine deE (hc.ap 3 0 reads_own U125 Tryz.t2 hg36) rfl rfl ?_; clear hc; rintro _ w40 ⟨a38, q39, rfl, hc⟩; rw [← e37] at hc ⊢; replace hc := Ctx.n3 hc; refine ⟨fun j hj hb => trivial, ?_⟩; refine ad_ 1 rfl <| dn (bn (qn (Wreg ?_))); refine au 3 rfl <| rn (qn ?_); replace hc := hc.m [1]; exact ⟨m1, Nat.lt_succ_self _, ⟨z35, (IntKind.i64.wrap (j5 + 1)), a38, z35.length, q39, rfl, hp, hc⟩, (kl rfl (km rfl (kl rfl k0)))⟩

def ref02_T (x0 : Int) : Option (Int) :=
  (idx ((65536 :: 64132 :: 62757 :: 61413 :: 60097 :: 58809 :: 57549 :: 56316 :: 55109 :: 53928 :: 52773 :: 51642 :: 50535 :: 49452 :: 48393 :: 47356 :: 46341 :: 45348 :: 44376 :: 43425 :: 42495 :: 41584 :: 40693 :: 39821 :: 38968 :: 38133 :: 37316 :: 36516 :: 35734 :: 34968 :: 34219 :: 33486 :: 32768 :: [])) x0).bind fun y3 =>
  some y3

theorem ref02_T_any {x0 r : Int} {Fr : List HP} {w : World} {K : Value → World → Prop}  (hc : Ctx w (Fr)) (hp : ref02_T x0 = some r)
    (k : ∀ w', Ctx w' (Fr) → K (.int .i64 r) w') : Calls Tryz.prog 113 #[.int .i64 x0] w (Ret K) := by
 unfold ref02_T at hp; refine Center1 F113 M113 rfl rfl ?_; refine Wseq (Wreg ?_); refine au 1 rfl <| rn (qn (Wseq (Wreg ?_))); refine rsE (Ctx.builtOp (css := [[.int .i64 65536], [.int .i64 64132], [.int .i64 62757], [.int .i64 61413], [.int .i64 60097], [.int .i64 58809], [.int .i64 57549], [.int .i64 56316], [.int .i64 55109], [.int .i64 53928], [.int .i64 52773], [.int .i64 51642], [.int .i64 50535], [.int .i64 49452], [.int .i64 48393], [.int .i64 47356], [.int .i64 46341], [.int .i64 45348], [.int .i64 44376], [.int .i64 43425], [.int .i64 42495], [.int .i64 41584], [.int .i64 40693], [.int .i64 39821], [.int .i64 38968], [.int .i64 38133], [.int .i64 37316], [.int .i64 36516], [.int .i64 35734], [.int .i64 34968], [.int .i64 34219], [.int .i64 33486], [.int .i64 32768]]) (xs := ((65536 :: 64132 :: 62757 :: 61413 :: 60097 :: 58809 :: 57549 :: 56316 :: 55109 :: 53928 :: 52773 :: 51642 :: 50535 :: 49452 :: 48393 :: 47356 :: 46341 :: 45348 :: 44376 :: 43425 :: 42495 :: 41584 :: 40693 :: 39821 :: 38968 :: 38133 :: 37316 :: 36516 :: 35734 :: 34968 :: 34219 :: 33486 :: 32768 :: []) : List Int)) (E := (pInt .i64)) (Ctx.holdsC (f := fun x : Int => [.int .i64 x]) (fun _ _ _ => rfl) hc ((65536 :: 64132 :: 62757 :: 61413 :: 60097 :: 58809 :: 57549 :: 56316 :: 55109 :: 53928 :: 52773 :: 51642 :: 50535 :: 49452 :: 48393 :: 47356 :: 46341 :: 45348 :: 44376 :: 43425 :: 42495 :: 41584 :: 40693 :: 39821 :: 38968 :: 38133 :: 37316 :: 36516 :: 35734 :: 34968 :: 34219 :: 33486 :: 32768 :: []) : List Int)) U125 Z2 V2 rfl rfl rfl rfl rfl rfl rfl rfl) rfl ?_; clear hc; rintro _ w2 ⟨a1, rfl, hc⟩; refine au 1 rfl <| rn (qn (Wseq (Wreg ?_))); refine au 2 rfl ?_; obtain ⟨y3, hy3, hp⟩ := bind_some hp; obtain ⟨b6, o7, rfl, hi4, hi5⟩ := hc.ra 0 reads_own hy3; refine sz (ixx rfl rfl U125 Z2 hi4 hi5 rfl) ?_; have hcell10 := hc.rv 0 reads_own hy3; refine sz (ld rfl G2 (hcell10 0 _ rfl)) <| au 1 rfl <| rn (qn (Wret ?_)); replace hc := hc.m [1]; obtain rfl := sj hp; exact fz R113 M113 (k _ hc)

def ref02_Exp (N : Nat) (x0 : Int) : Option (Int) :=
  if x0 > 0 then
    some 65536
  else
    if x0 < (-10000000) then
      some 0
    else
      (some (IntKind.i64.wrap (Int.tdiv (IntKind.i64.wrap ((IntKind.i64.wrap (0 - x0)) * 94548)) 65536))).bind fun e3 =>
      (some (IntKind.i64.wrap (Int.tdiv e3 65536))).bind fun e4 =>
      (some (IntKind.i64.wrap (Int.tdiv (Int.tmod e3 65536) 2048))).bind fun e5 =>
      (some (Int.tmod (Int.tmod e3 65536) 2048)).bind fun e6 =>
      (ref02_T e5).bind fun r7 =>
      (ref02_T e5).bind fun r9 =>
      (ref02_T (IntKind.i64.wrap (e5 + 1))).bind fun r11 =>
      (ref01_Shift N (IntKind.i64.wrap ((IntKind.i64.wrap (r9 - r11)) * e6)) 11).bind fun r13 =>
      if e4 > 31 then
        some 0
      else
        (ref01_Shift N (IntKind.i64.wrap (r7 - r13)) e4).bind fun r16 =>
        some (IntKind.i32.wrap r16)

theorem ref02_Exp_any {N : Nat} {x0 r : Int} {Fr : List HP} {w : World} {K : Value → World → Prop}  (hc : Ctx w (Fr)) (hp : ref02_Exp N x0 = some r)
    (k : ∀ w', Ctx w' (Fr) → K (.int .i32 r) w') : Calls Tryz.prog 85 #[.int .i64 x0] w (Ret K) := by
 unfold ref02_Exp at hp; refine Center1 F85 M85 rfl rfl ?_; refine Wseq (Wreg ?_); refine au 1 rfl <| rn (qn (Wseq (Wseq (Wreg ?_)))); refine au 2 rfl <| rn (qn ?_); refine Wif hp (fun _ hp => ?_) fun _ hp => ?_
 · refine Wskip (qn (Wseq (Wseq (Wreg ?_)))); refine au 2 rfl <| rn (qn ?_); refine Wif hp (fun _ hp => ?_) fun _ hp => ?_
   · refine Wskip (qn (Wseq (Wreg ?_))); refine au 1 rfl <| sz (neg_ rfl) <| au 1 rfl <| rn (qn (Wseq (Wreg ?_))); refine au 2 rfl <| sz (quw rfl rfl (by decide)) ?_; obtain ⟨e3, he3, hp⟩ := bind_some hp; injection he3 with he3; refine sz (v := .int .i64 e3) (av (v := .int .i64 e3) (by rw [← he3]; rfl)) <| rn (qn (Wseq (Wreg ?_))); refine au 1 rfl <| sz (quw rfl rfl (by decide)) ?_; obtain ⟨e4, he4, hp⟩ := bind_some hp; injection he4 with he4; refine sz (v := .int .i64 e4) (av (v := .int .i64 e4) (by rw [← he4]; rfl)) <| rn (qn (Wseq (Wreg ?_))); refine au 1 rfl <| sz (rm rfl rfl (by decide)) <| au 1 rfl <| rn (qn (Wseq (Wreg ?_))); refine au 1 rfl <| sz (quw rfl rfl (by decide)) ?_; obtain ⟨e5, he5, hp⟩ := bind_some hp; injection he5 with he5; refine sz (v := .int .i64 e5) (av (v := .int .i64 e5) (by rw [← he5]; rfl)) <| rn (qn (Wseq (Wreg ?_))); refine au 1 rfl <| sz (rm rfl rfl (by decide)) ?_; obtain ⟨e6, he6, hp⟩ := bind_some hp; injection he6 with he6; refine sz (v := .int .i64 e6) (av (v := .int .i64 e6) (by rw [← he6]; rfl)) <| rn (qn (Wseq (Wreg ?_))); refine au 1 rfl ?_; obtain ⟨r7, hr7, hp⟩ := bind_some hp; refine kz C113 ?_; refine ref02_T_any hc hr7 ?_; clear hc; intro w8 hc; refine au 1 rfl ?_; obtain ⟨r9, hr9, hp⟩ := bind_some hp; refine kz C113 ?_; refine ref02_T_any hc hr9 ?_; clear hc; intro w10 hc; refine au 2 rfl ?_; obtain ⟨r11, hr11, hp⟩ := bind_some hp; refine kz C113 ?_; refine ref02_T_any hc hr11 ?_; clear hc; intro w12 hc; refine au 3 rfl ?_; obtain ⟨r13, hr13, hp⟩ := bind_some hp; refine kz C53 ?_; refine ref01_Shift_any hc hr13 ?_; clear hc; intro w14 hc; refine au 2 rfl <| rn (qn (Wseq (Wseq (Wreg ?_)))); refine au 2 rfl <| rn (qn ?_); refine Wif hp (fun _ hp => ?_) fun _ hp => ?_
     · refine Wskip (qn (Wseq (Wreg ?_))); refine au 2 rfl ?_; obtain ⟨r16, hr16, hp⟩ := bind_some hp; refine kz C53 ?_; refine ref01_Shift_any hc hr16 ?_; clear hc; intro w17 hc; refine sz (cvi rfl U2 U21) <| au 1 rfl <| rn (qn (Wret ?_)); obtain rfl := sj hp; exact fz R85 M85 (k _ hc)
     · refine Wseq (Wreg ?_); refine au 1 rfl <| rn (qn (Wret (qr ?_))); obtain rfl := sj hp; exact fz R85 M85 (k _ hc)
   · refine Wseq (Wreg ?_); refine au 1 rfl <| rn (qn (Wret (qr ?_))); obtain rfl := sj hp; exact fz R85 M85 (k _ hc)
 · refine Wseq (Wreg ?_); refine au 1 rfl <| rn (qn (Wret (qr ?_))); obtain rfl := sj hp; exact fz R85 M85 (k _ hc)

def ref02_Shares.J3 (j5 : (List Int)) (j9 : Int) (k2 : (List Int) → Int → Option ((List Int))) (j13 : Int) : Option ((List Int)) :=
  (app j5 ([(IntKind.i32.wrap j13)])).bind fun z41 =>
  k2 z41 (IntKind.i64.wrap (j9 + 1))

def ref02_Shares.J4 (x0 : Int) (x1 : (List Int)) (j1 : Int) (j5 : (List Int)) (j9 : Int) (k2 : (List Int) → Int → Option ((List Int))) (j14 : Bool) : Option ((List Int)) :=
  if j14 = true then
    (idx x1 j9).bind fun y27 =>
    chk (j1 ≠ 0) <|
    (some (IntKind.i64.wrap (Int.tdiv (IntKind.i64.wrap ((IntKind.i64.wrap y27) * (IntKind.i64.wrap x0))) j1))).bind fun e37 =>
    ref02_Shares.J3 j5 j9 k2 e37
  else
    ref02_Shares.J3 j5 j9 k2 0

def ref02_Shares.L2 (x0 : Int) (x1 : (List Int)) (j1 : Int) : Nat → (List Int) → Int → Option ((List Int))
  | 0, _, _ => none
  | m2 + 1, j5, j9 =>
    if j9 < ((x1.length : Nat) : Int) then
      (idx x1 j9).bind fun y15 =>
      if y15 > 0 then
        ref02_Shares.J4 x0 x1 j1 j5 j9 (ref02_Shares.L2 x0 x1 j1 m2) (decide (x0 > 0))
      else
        ref02_Shares.J4 x0 x1 j1 j5 j9 (ref02_Shares.L2 x0 x1 j1 m2) false
    else
      some j5

def ref02_Shares.J5 (j2 : Int) (k1 : Int → Int → Option ((List Int))) (j47 : Int) : Option ((List Int)) :=
  k1 j47 (IntKind.i64.wrap (j2 + 1))

def ref02_Shares.L1 (N : Nat) (x0 : Int) (x1 : (List Int)) : Nat → Int → Int → Option ((List Int))
  | 0, _, _ => none
  | m1 + 1, j1, j2 =>
    if j2 < ((x1.length : Nat) : Int) then
      (idx x1 j2).bind fun y48 =>
      if y48 > 0 then
        (idx x1 j2).bind fun y58 =>
        (some (IntKind.i64.wrap (j1 + (IntKind.i64.wrap y58)))).bind fun e67 =>
        ref02_Shares.J5 j2 (ref02_Shares.L1 N x0 x1 m1) e67
      else
        ref02_Shares.J5 j2 (ref02_Shares.L1 N x0 x1 m1) j1
    else
      ref02_Shares.L2 x0 x1 j1 N ([]) 0

def ref02_Shares (N : Nat) (x0 : Int) (x1 : (List Int)) : Option ((List Int)) :=
  ref02_Shares.L1 N x0 x1 N 0 0

theorem ref02_Shares_any {N nx1 qx1 : Nat} {x0 : Int} {x1 r : (List Int)} {ax1 : Option Addr} {P1 : HP} {Fr : List HP} {w : World} {K : Value → World → Prop} (hrd1 : Reads P1 (pInt .i32) (.slice ax1 nx1 qx1) x1) (hc : Ctx w (P1 :: Fr)) (hp : ref02_Shares N x0 x1 = some r)
    (k : ∀ a69 n70 q71 w', Ctx w' (Own (pInt .i32) 21 (.slice a69 n70 q71) r :: P1 :: Fr) → K (.slice a69 n70 q71) w') : Calls Tryz.prog 86 #[.int .i32 x0, .slice ax1 nx1 qx1] w (Ret K) := by
 unfold ref02_Shares at hp; refine Center2 F86 M86 rfl rfl ?_; obtain ⟨hn1, _⟩ := Ctx.rdLen hc (k := 0) rfl rfl hrd1; subst hn1; refine Wseq (Wreg ?_); refine au 1 rfl <| rn (qn (Wseq (Wreg ?_))); refine au 1 rfl <| rn (qn (Wseq (Wseq (Wreg ?_)))); refine au 1 rfl <| rn (qn (Wblk ?_)); refine Wloop (rg [5, 2, 10, 18]) [5, 6] (fun m vs w' => ∃ j1 : Int, ∃ j2 : Int, vs = [.int .i64 j1, .int .i64 j2] ∧ ref02_Shares.L1 N x0 x1 m j1 j2 = some r ∧ Ctx w' (P1 :: Fr)) N ?_ ?_
 · exact ⟨0, 0, rfl, hp, hc⟩
 · clear hp hc; intro m vs u w3 hJ; obtain ⟨j1, j2, rfl, hp, hc⟩ := hJ; rcases m with _ | m1
   · cases (show none = some r from hp)
   rw [ref02_Shares.L1] at hp; refine Wseq (Wseq (Wreg ?_)); refine au 2 rfl <| sz (ln rfl U51) <| au 1 rfl <| rn (qn ?_); refine Wif hp (fun _ h => ?_) fun _ h => ?_
   · replace hp := h; clear h; refine Wexit (qx (qx (be (qn (Wseq (Wreg ?_)))))); refine au 1 rfl <| rn (qn (Wseq (Wseq (Wreg ?_)))); refine au 1 rfl <| rn (qn (Wblk ?_)); replace hc := hc.nilOwn (pInt .i32) 21; replace hc := hc.m [2]; refine Wloop (rg [7, 3, 28, 30]) [7, 8] (fun m vs w' => ∃ j5 : (List Int), ∃ j9 : Int, ∃ a6 n7 q8, vs = [.slice a6 n7 q8, .int .i64 j9] ∧ ref02_Shares.L2 x0 x1 j1 m j5 j9 = some r ∧ Ctx w' (P1 :: Own (pInt .i32) 21 (.slice a6 n7 q8) j5 :: Fr)) N ?_ ?_
     · exact ⟨[], 0, none, 0, 0, rfl, hp, hc⟩
     · clear hp hc; intro m vs u w10 hJ; obtain ⟨j5, j9, a6, n7, q8, rfl, hp, hc⟩ := hJ; obtain rfl := hc.rz 1 reads_own; rcases m with _ | m2
       · cases (show none = some r from hp)
       rw [ref02_Shares.L2] at hp; refine Wseq (Wseq (Wreg ?_)); refine au 2 rfl <| sz (ln rfl U51) <| au 1 rfl <| rn (qn ?_); refine Wif hp (fun _ h => ?_) fun _ h => ?_
       · replace hp := h; clear h; refine Wexit (qx (qx (be (qn (Wseq (Wreg ?_)))))); refine au 2 rfl <| rn (qn (Wret ?_)); replace hc := hc.m [2]; obtain rfl := sj hp; exact fz R86 M86 (k _ _ _ _ hc)
       · replace hp := h; clear h; refine Wskip (qn (Wseq (Wblk (Wseq (Wreg ?_))))); refine au 1 rfl <| rn (qn ?_); refine Wseqm (rg [9, 1, 34, 19]) [9] (fun vs w' => ∃ j13 : Int, vs = [.int .i64 j13] ∧ ref02_Shares.J3 j5 j9 (ref02_Shares.L2 x0 x1 j1 m2) j13 = some r ∧ Ctx w' (P1 :: oR .i32 21 a6 q8 j5 :: Fr)) ?_ ?_
         · refine Wseqm (rg [34, 9]) [42] (fun vs w' => ∃ j14 : Bool, vs = [.bool j14] ∧ ref02_Shares.J4 x0 x1 j1 j5 j9 (ref02_Shares.L2 x0 x1 j1 m2) j14 = some r ∧ Ctx w' (P1 :: oR .i32 21 a6 q8 j5 :: Fr)) ?_ ?_
           · refine Wreg <| au 2 rfl ?_; replace hp := bind_some hp; obtain ⟨y15, hy15, hp⟩ := hp; obtain ⟨b18, o19, rfl, hi16, hi17⟩ := hc.ra 0 hrd1 hy15; refine sz (ixx rfl rfl U51 Z21 hi16 hi17 rfl) ?_; have hcell22 := hc.rv 0 hrd1 hy15; refine sz (ld rfl G21 (hcell22 0 _ rfl)) <| au 2 rfl ?_; cases hb24 : (decide (y15 > 0))
             · replace hp := gneg hp (of_decide_eq_false hb24); (iterate 2 refine r0 rfl ?_); refine au 1 rfl <| rn (qn ?_); exact ⟨⟨false, rfl, hp, hc⟩, (kl rfl kb)⟩
             · replace hp := gpos hp (of_decide_eq_true hb24); refine au 3 rfl <| rn (qn ?_); exact ⟨⟨decide (x0 > 0), rfl, hp, hc⟩, (kl rfl kb)⟩
           · clear hp hc; intro vs u w25 hJ; obtain ⟨j14, rfl, hp, hc⟩ := hJ; unfold ref02_Shares.J4 at hp; cases hb26 : j14
             · replace hp := gneg hp (by rw [hb26]; exact Bool.false_ne_true); subst hb26; refine Wcf rfl (Wskip (qn ?_)); exact ⟨⟨0, rfl, hp, hc⟩, (kl rfl (km rfl (kl rfl kb)))⟩
             · replace hp := gpos hp hb26; subst hb26; refine Wct rfl (Wreg ?_); refine au 2 rfl ?_; replace hp := bind_some hp; obtain ⟨y27, hy27, hp⟩ := hp; obtain ⟨b30, o31, rfl, hi28, hi29⟩ := hc.ra 0 hrd1 hy27; refine sz (ixx rfl rfl U51 Z21 hi28 hi29 rfl) ?_; have hcell34 := hc.rv 0 hrd1 hy27; refine sz (ld rfl G21 (hcell34 0 _ rfl)) <| sz (cvi rfl U21 U2) <| au 1 rfl <| sz (cvi rfl U21 U2) <| au 2 rfl ?_; replace hp := chk_some hp; obtain ⟨hg36, hp⟩ := hp; refine sz (quw rfl rfl hg36) ?_; replace hp := bind_some hp; obtain ⟨e37, he37, hp⟩ := hp; injection he37 with he37; refine sz (v := .int .i64 e37) (av (v := .int .i64 e37) (by rw [← he37]; rfl)) <| rn (qn ?_); exact ⟨⟨e37, rfl, hp, hc⟩, (kl rfl (km rfl (kl rfl kb)))⟩
         · clear hp hc; intro vs u w38 hJ; obtain ⟨j13, rfl, hp, hc⟩ := hJ; unfold ref02_Shares.J3 at hp; refine Wreg <| au 2 rfl <| sz (cvi rfl U2 U21) ?_; refine rsE (oneI hc U51 Z21 V21) rfl ?_; clear hc; rintro _ w40 ⟨a39, rfl, hc⟩; replace hp := bind_some hp; obtain ⟨z41, hz41, hp⟩ := hp; obtain ⟨hg42, e43⟩ := app_some hz41; refine rsE (hc.ap 2 0 reads_own U51 Tryz.t21 hg42) rfl ?_; clear hc; rintro _ w46 ⟨a44, q45, rfl, hc⟩; rw [← e43] at hc ⊢; replace hc := Ctx.n2 hc; refine au 1 rfl <| rn (bn (qn (Wreg ?_))); refine au 3 rfl <| rn (qn ?_); replace hc := hc.m [1]; exact ⟨m2, Nat.lt_succ_self _, ⟨z41, (IntKind.i64.wrap (j9 + 1)), a44, z41.length, q45, rfl, hp, hc⟩, (kl rfl (km rfl (kl rfl k0)))⟩
   · replace hp := h; clear h; refine Wskip (qn ?_); refine Wseqm (rg [5, 1, 16, 12]) [5] (fun vs w' => ∃ j47 : Int, vs = [.int .i64 j47] ∧ ref02_Shares.J5 j2 (ref02_Shares.L1 N x0 x1 m1) j47 = some r ∧ Ctx w' (P1 :: Fr)) ?_ ?_
     · refine Wblk (Wseq (Wreg ?_)); refine au 2 rfl ?_; replace hp := bind_some hp; obtain ⟨y48, hy48, hp⟩ := hp; obtain ⟨b51, o52, rfl, hi49, hi50⟩ := hc.ra 0 hrd1 hy48; refine sz (ixx rfl rfl U51 Z21 hi49 hi50 rfl) ?_; have hcell55 := hc.rv 0 hrd1 hy48; refine sz (ld rfl G21 (hcell55 0 _ rfl)) <| au 1 rfl <| rn (qn ?_); refine Wif hp (fun _ h => ?_) fun _ h => ?_
       · replace hp := h; clear h; refine Wskip (bn (qn ?_)); exact ⟨⟨j1, rfl, hp, hc⟩, (kl rfl kb)⟩
       · replace hp := h; clear h; refine Wreg <| au 3 rfl ?_; replace hp := bind_some hp; obtain ⟨y58, hy58, hp⟩ := hp; obtain ⟨b61, o62, -, hi59, hi60⟩ := hc.ra 0 hrd1 hy58; refine sz (ixx rfl rfl U51 Z21 hi59 hi60 rfl) ?_; have hcell65 := hc.rv 0 hrd1 hy58; refine sz (ld rfl G21 (hcell65 0 _ rfl)) <| sz (cvi rfl U21 U2) <| au 1 rfl ?_; replace hp := bind_some hp; obtain ⟨e67, he67, hp⟩ := hp; injection he67 with he67; refine sz (v := .int .i64 e67) (av (v := .int .i64 e67) (by rw [← he67]; rfl)) <| rn (bn (qn ?_)); exact ⟨⟨e67, rfl, hp, hc⟩, (kl rfl kb)⟩
     · clear hp hc; intro vs u w68 hJ; obtain ⟨j47, rfl, hp, hc⟩ := hJ; unfold ref02_Shares.J5 at hp; refine Wreg <| au 3 rfl <| rn (qn ?_); exact ⟨m1, Nat.lt_succ_self _, ⟨j47, (IntKind.i64.wrap (j2 + 1)), rfl, hp, hc⟩, (kl rfl (km rfl (kl rfl k0)))⟩

def ref05_Softmax.J3 (j25 : Int) (k2 : Int → Int → Option ((List Int))) (j49 : Int) : Option ((List Int)) :=
  k2 j49 (IntKind.i64.wrap (j25 + 1))

def ref05_Softmax.L2 (N : Nat) (x0 : Int) (x1 : Int) (x2 : (List Int)) (j1 : (List Int)) (j5 : Int) (k1 : (List Int) → Int → Option ((List Int))) : Nat → Int → Int → Option ((List Int))
  | 0, _, _ => none
  | m2 + 1, j24, j25 =>
    if j25 < ((x2.length : Nat) : Int) then
      (idx x2 j25).bind fun y50 =>
      if y50 > j24 then
        (idx x2 j25).bind fun y60 =>
        ref05_Softmax.J3 j25 (ref05_Softmax.L2 N x0 x1 x2 j1 j5 k1 m2) y60
      else
        ref05_Softmax.J3 j25 (ref05_Softmax.L2 N x0 x1 x2 j1 j5 k1 m2) j24
    else
      (idx x2 j5).bind fun y28 =>
      (ref01_Shift N (IntKind.i64.wrap ((IntKind.i64.wrap ((IntKind.i64.wrap y28) - (IntKind.i64.wrap j24))) * (IntKind.i64.wrap x0))) x1).bind fun r37 =>
      (ref02_Exp N r37).bind fun r39 =>
      (app j1 ([r39])).bind fun z43 =>
      k1 z43 (IntKind.i64.wrap (j5 + 1))

def ref05_Softmax.L1 (N : Nat) (x0 : Int) (x1 : Int) (x2 : (List Int)) : Nat → (List Int) → Int → Option ((List Int))
  | 0, _, _ => none
  | m1 + 1, j1, j5 =>
    if j5 < ((x2.length : Nat) : Int) then
      (idx x2 j5).bind fun y15 =>
      ref05_Softmax.L2 N x0 x1 x2 j1 j5 (ref05_Softmax.L1 N x0 x1 x2 m1) N y15 0
    else
      (ref02_Shares N 65536 j1).bind fun r9 =>
      some r9

def ref05_Softmax (N : Nat) (x0 : Int) (x1 : Int) (x2 : (List Int)) : Option ((List Int)) :=
  ref05_Softmax.L1 N x0 x1 x2 N ([]) 0

theorem ref05_Softmax_any {N nx2 qx2 : Nat} {x0 x1 : Int} {x2 r : (List Int)} {ax2 : Option Addr} {P2 : HP} {Fr : List HP} {w : World} {K : Value → World → Prop} (hrd2 : Reads P2 (pInt .i32) (.slice ax2 nx2 qx2) x2) (hc : Ctx w (P2 :: Fr)) (hp : ref05_Softmax N x0 x1 x2 = some r)
    (k : ∀ a70 n71 q72 w', Ctx w' (Own (pInt .i32) 21 (.slice a70 n71 q72) r :: P2 :: Fr) → K (.slice a70 n71 q72) w') : Calls Tryz.prog 47 #[.int .i32 x0, .int .i64 x1, .slice ax2 nx2 qx2] w (Ret K) := by
 unfold ref05_Softmax at hp; refine Center3 F47 M47 rfl rfl ?_; obtain ⟨hn2, _⟩ := Ctx.rdLen hc (k := 0) rfl rfl hrd2; subst hn2; refine Wseq (Wreg ?_); refine au 1 rfl <| rn (qn (Wseq (Wreg ?_))); refine au 1 rfl <| rn (qn (Wseq (Wseq (Wreg ?_)))); refine au 1 rfl <| rn (qn (Wblk ?_)); replace hc := hc.nilOwn (pInt .i32) 21; replace hc := hc.m [2]; refine Wloop (rg [7, 47]) [7, 8] (fun m vs w' => ∃ j1 : (List Int), ∃ j5 : Int, ∃ a2 n3 q4, vs = [.slice a2 n3 q4, .int .i64 j5] ∧ ref05_Softmax.L1 N x0 x1 x2 m j1 j5 = some r ∧ Ctx w' (P2 :: Own (pInt .i32) 21 (.slice a2 n3 q4) j1 :: Fr)) N ?_ ?_
 · exact ⟨[], 0, none, 0, 0, rfl, hp, hc⟩
 · clear hp hc; intro m vs u w6 hJ; obtain ⟨j1, j5, a2, n3, q4, rfl, hp, hc⟩ := hJ; obtain rfl := hc.rz 1 reads_own; rcases m with _ | m1
   · cases (show none = some r from hp)
   rw [ref05_Softmax.L1] at hp; refine Wseq (Wseq (Wreg ?_)); refine au 2 rfl <| sz (ln rfl U51) <| au 1 rfl <| rn (qn ?_); refine Wif hp (fun _ hp => ?_) fun _ hp => ?_
   · refine Wexit (qx (qx (be (qn (Wseq (Wreg ?_)))))); refine au 1 rfl ?_; obtain ⟨r9, hr9, hp⟩ := bind_some hp; replace hc := hc.m [2]; refine kz C86 ?_; refine ref02_Shares_any reads_own hc hr9 ?_; clear hc; intro a10 n11 q12 w13 hc; obtain rfl := hc.rz 0 reads_own; refine au 1 rfl <| rn (qn (Wret ?_)); replace hc := hc.m [3]; obtain rfl := sj hp; exact fz R47 M47 (k _ _ _ _ hc)
   · refine Wskip (qn (Wseq (Wblk (Wseq (Wreg ?_))))); refine au 2 rfl ?_; obtain ⟨y15, hy15, hp⟩ := bind_some hp; obtain ⟨b18, o19, rfl, hi16, hi17⟩ := hc.ra 0 hrd2 hy15; refine sz (ixx rfl rfl U51 Z21 hi16 hi17 rfl) ?_; have hcell22 := hc.rv 0 hrd2 hy15; refine sz (ld rfl G21 (hcell22 0 _ rfl)) <| au 1 rfl <| rn (qn (Wseq (Wseq (Wreg ?_)))); refine au 1 rfl <| rn (qn (Wblk ?_)); refine Wloop (rg [9, 2, 21, 16]) [9, 10] (fun m vs w' => ∃ j24 : Int, ∃ j25 : Int, vs = [.int .i32 j24, .int .i64 j25] ∧ ref05_Softmax.L2 N x0 x1 x2 j1 j5 (ref05_Softmax.L1 N x0 x1 x2 m1) m j24 j25 = some r ∧ Ctx w' (P2 :: oR .i32 21 a2 q4 j1 :: Fr)) N ?_ ?_
     · exact ⟨y15, 0, rfl, hp, hc⟩
     · clear hp hc; intro m vs u w26 hJ; obtain ⟨j24, j25, rfl, hp, hc⟩ := hJ; rcases m with _ | m2
       · cases (show none = some r from hp)
       rw [ref05_Softmax.L2] at hp; refine Wseq (Wseq (Wreg ?_)); refine au 2 rfl <| sz (ln rfl U51) <| au 1 rfl <| rn (qn ?_); refine Wif hp (fun _ hp => ?_) fun _ hp => ?_
       · refine Wexit (qx (qx (be (qn (Wreg ?_))))); refine au 3 rfl ?_; obtain ⟨y28, hy28, hp⟩ := bind_some hp; obtain ⟨b31, o32, -, hi29, hi30⟩ := hc.ra 0 hrd2 hy28; refine sz (ixx rfl rfl U51 Z21 hi29 hi30 rfl) ?_; have hcell35 := hc.rv 0 hrd2 hy28; refine sz (ld rfl G21 (hcell35 0 _ rfl)) <| sz (cvi rfl U21 U2) <| au 1 rfl <| sz (cvi rfl U21 U2) <| au 2 rfl <| sz (cvi rfl U21 U2) <| au 2 rfl ?_; obtain ⟨r37, hr37, hp⟩ := bind_some hp; refine kz C53 ?_; refine ref01_Shift_any hc hr37 ?_; clear hc; intro w38 hc; obtain ⟨r39, hr39, hp⟩ := bind_some hp; refine kz C85 ?_; refine ref02_Exp_any hc hr39 ?_; clear hc; intro w40 hc; refine rsE (oneI hc U51 Z21 V21) rfl ?_; clear hc; rintro _ w42 ⟨a41, rfl, hc⟩; obtain ⟨z43, hz43, hp⟩ := bind_some hp; obtain ⟨hg44, e45⟩ := app_some hz43; refine rsE (hc.ap 2 0 reads_own U51 Tryz.t21 hg44) rfl ?_; clear hc; rintro _ w48 ⟨a46, q47, rfl, hc⟩; rw [← e45] at hc ⊢; replace hc := Ctx.n2 hc; refine au 1 rfl <| rn (bn (qn (Wreg ?_))); refine au 3 rfl <| rn (qn ?_); replace hc := hc.m [1]; exact ⟨m1, Nat.lt_succ_self _, ⟨z43, (IntKind.i64.wrap (j5 + 1)), a46, z43.length, q47, rfl, hp, hc⟩, (kl rfl (km rfl (kl rfl k0)))⟩
       · refine Wskip (qn ?_); refine Wseqm (rg [9, 1, 27, 10]) [9] (fun vs w' => ∃ j49 : Int, vs = [.int .i32 j49] ∧ ref05_Softmax.J3 j25 (ref05_Softmax.L2 N x0 x1 x2 j1 j5 (ref05_Softmax.L1 N x0 x1 x2 m1) m2) j49 = some r ∧ Ctx w' (P2 :: oR .i32 21 a2 q4 j1 :: Fr)) ?_ ?_
         · refine Wblk (Wseq (Wreg ?_)); refine au 2 rfl ?_; obtain ⟨y50, hy50, hp⟩ := bind_some hp; obtain ⟨b53, o54, -, hi51, hi52⟩ := hc.ra 0 hrd2 hy50; refine sz (ixx rfl rfl U51 Z21 hi51 hi52 rfl) ?_; have hcell57 := hc.rv 0 hrd2 hy50; refine sz (ld rfl G21 (hcell57 0 _ rfl)) <| au 2 rfl <| rn (qn ?_); refine Wif hp (fun _ hp => ?_) fun _ hp => ?_
           · refine Wskip (bn (qn ?_)); exact ⟨⟨j24, rfl, hp, hc⟩, (kl rfl kb)⟩
           · refine Wreg <| au 2 rfl ?_; obtain ⟨y60, hy60, hp⟩ := bind_some hp; obtain ⟨b63, o64, -, hi61, hi62⟩ := hc.ra 0 hrd2 hy60; refine sz (ixx rfl rfl U51 Z21 hi61 hi62 rfl) ?_; have hcell67 := hc.rv 0 hrd2 hy60; refine sz (ld rfl G21 (hcell67 0 _ rfl)) <| au 1 rfl <| rn (bn (qn ?_)); exact ⟨⟨y60, rfl, hp, hc⟩, (kl rfl kb)⟩
         · clear hp hc; intro vs u w69 hJ; obtain ⟨j49, rfl, hp, hc⟩ := hJ; unfold ref05_Softmax.J3 at hp; refine Wreg <| au 3 rfl <| rn (qn ?_); exact ⟨m2, Nat.lt_succ_self _, ⟨j49, (IntKind.i64.wrap (j25 + 1)), rfl, hp, hc⟩, (kl rfl (km rfl (kl rfl k0)))⟩

def ref05_Mix.L3 (N : Nat) (x0 : (List Int)) (x1 : (List (List Int))) (j6 : (List Int)) (j10 : Int) (k2 : (List Int) → Int → Option ((List Int) × Bool)) : Nat → Int → Int → Option ((List Int) × Bool)
  | 0, _, _ => none
  | m3 + 1, j26, j27 =>
    if j27 < ((x1.length : Nat) : Int) then
      (idx x0 j27).bind fun y43 =>
      (idx x1 j27).bind fun y52 =>
      (idx y52 j10).bind fun y64 =>
      (ref05_Mix.L3 N x0 x1 j6 j10 k2 m3) (IntKind.i64.wrap (j26 + (IntKind.i64.wrap ((IntKind.i64.wrap y43) * (IntKind.i64.wrap y64))))) (IntKind.i64.wrap (j27 + 1))
    else
      (ref01_Shift N j26 16).bind fun r30 =>
      (ref01_Near r30 (-128) 127).bind fun r32 =>
      (app j6 ([(IntKind.i8.wrap r32)])).bind fun z36 =>
      k2 z36 (IntKind.i64.wrap (j10 + 1))

def ref05_Mix.L2 (N : Nat) (x0 : (List Int)) (x1 : (List (List Int))) : Nat → (List Int) → Int → Option ((List Int) × Bool)
  | 0, _, _ => none
  | m2 + 1, j6, j10 =>
    (idx x1 (0 : Int)).bind fun y13 =>
    if j10 < ((y13.length : Nat) : Int) then
      ref05_Mix.L3 N x0 x1 j6 j10 (ref05_Mix.L2 N x0 x1 m2) N 0 0
    else
      some (j6, true)

def ref05_Mix.L1 (N : Nat) (x0 : (List Int)) (x1 : (List (List Int))) : Nat → Int → Option ((List Int) × Bool)
  | 0, _ => none
  | m1 + 1, j2 =>
    if j2 < ((x1.length : Nat) : Int) then
      (idx x1 j2).bind fun y74 =>
      (idx x1 (0 : Int)).bind fun y86 =>
      if ((y74.length : Nat) : Int) ≠ ((y86.length : Nat) : Int) then
        some ([], false)
      else
        (ref05_Mix.L1 N x0 x1 m1) (IntKind.i64.wrap (j2 + 1))
    else
      if ((x1.length : Nat) : Int) = 0 then
        some ([], true)
      else
        ref05_Mix.L2 N x0 x1 N ([]) 0

def ref05_Mix (N : Nat) (x0 : (List Int)) (x1 : (List (List Int))) : Option ((List Int) × Bool) :=
  if ((x0.length : Nat) : Int) ≠ ((x1.length : Nat) : Int) then
    some ([], false)
  else
    ref05_Mix.L1 N x0 x1 N 0

theorem ref05_Mix_any {N nx0 qx0 nx1 qx1 : Nat} {x0 : (List Int)} {ax0 ax1 : Option Addr} {P0 P1 : HP} {x1 : (List (List Int))} {Fr : List HP} {w : World} {r : (List Int) × Bool} {K : Value → World → Prop} (hrd0 : Reads P0 (pInt .i32) (.slice ax0 nx0 qx0) x0) (hrd1 : Reads P1 (pRo (pInt .i8)) (.slice ax1 nx1 qx1) x1) (hc : Ctx w (P0 :: P1 :: Fr)) (hp : ref05_Mix N x0 x1 = some r)
    (k : ∀ a99 n100 q101 w', Ctx w' (Own (pInt .i8) 88 (.slice a99 n100 q101) r.1 :: P0 :: P1 :: Fr) → K (.tuple #[.slice a99 n100 q101, .bool r.2]) w') : Calls Tryz.prog 46 #[.slice ax0 nx0 qx0, .slice ax1 nx1 qx1] w (Ret K) := by
 unfold ref05_Mix at hp; refine Center2 F46 M46 rfl rfl ?_; obtain ⟨hn0, _⟩ := Ctx.rdLen hc (k := 0) rfl rfl hrd0; subst hn0; obtain ⟨hn1, _⟩ := Ctx.rdLen hc (k := 1) rfl rfl hrd1; subst hn1; refine Wseq (Wreg ?_); refine au 2 rfl <| rn (qn (Wseq (Wseq (Wreg ?_)))); refine au 1 rfl <| sz (ln rfl U51) <| au 1 rfl <| sz (ln rfl U110) <| au 1 rfl <| rn (qn ?_); refine Wif hp (fun _ hp => ?_) fun _ hp => ?_
 · refine Wskip (qn (Wseq (Wreg ?_))); refine au 1 rfl <| rn (qn (Wseq (Wseq (Wreg ?_)))); refine au 1 rfl <| rn (qn (Wblk ?_)); refine Wloop (rg [4, 2, 7, 1, 16, 16]) [7] (fun m vs w' => ∃ j2 : Int, vs = [.int .i64 j2] ∧ ref05_Mix.L1 N x0 x1 m j2 = some r ∧ Ctx w' (P0 :: P1 :: Fr)) N ?_ ?_
   · exact ⟨0, rfl, hp, hc⟩
   · clear hp hc; intro m vs u w3 hJ; obtain ⟨j2, rfl, hp, hc⟩ := hJ; rcases m with _ | m1
     · cases (show none = some r from hp)
     rw [ref05_Mix.L1] at hp; refine Wseq (Wseq (Wreg ?_)); refine au 2 rfl <| sz (ln rfl U110) <| au 1 rfl <| rn (qn ?_); refine Wif hp (fun _ hp => ?_) fun _ hp => ?_
     · refine Wexit (qx (qx (be (qn (Wseq (Wseq (Wreg ?_))))))); refine au 1 rfl <| sz (ln rfl U110) <| au 1 rfl <| rn (qn ?_); refine Wif hp (fun _ hp => ?_) fun _ hp => ?_
       · refine Wskip (qn (Wseq (Wseq (Wreg ?_)))); refine au 1 rfl <| rn (qn (Wblk ?_)); replace hc := hc.nilOwn (pInt .i8) 88; replace hc := hc.m [4, 4]; refine Wloop (rg [6, 1, 8, 3, 35, 37]) [6, 8] (fun m vs w' => ∃ j6 : (List Int), ∃ j10 : Int, ∃ a7 n8 q9, vs = [.slice a7 n8 q9, .int .i64 j10] ∧ ref05_Mix.L2 N x0 x1 m j6 j10 = some r ∧ Ctx w' (P0 :: P1 :: Own (pInt .i8) 88 (.slice a7 n8 q9) j6 :: Fr)) N ?_ ?_
         · exact ⟨[], 0, none, 0, 0, rfl, hp, hc⟩
         · clear hp hc; intro m vs u w11 hJ; obtain ⟨j6, j10, a7, n8, q9, rfl, hp, hc⟩ := hJ; obtain rfl := hc.rz 2 reads_own; rcases m with _ | m2
           · cases (show none = some r from hp)
           rw [ref05_Mix.L2] at hp; refine Wseq (Wseq (Wreg ?_)); refine au 2 rfl ?_; obtain ⟨y13, hy13, hp⟩ := bind_some hp; obtain ⟨b16, o17, rfl, hi14, hi15⟩ := hc.ra 1 hrd1 hy13; refine sz (ixx rfl rfl U110 Z30 hi14 hi15 rfl) ?_; replace hc := Ctx.rdCell hc (k := 1) rfl rfl hrd1 hy13; obtain ⟨cs19, hc, hcell20⟩ := hc; replace hc := Ctx.holdRo hc; obtain ⟨v24, u21, hc⟩ := hc; subst u21; obtain ⟨a22, q23, u21⟩ := hc.rd (k := 0) rfl rfl reads_ro; subst u21; refine sz (ld rfl G30 (hcell20 0 _ rfl)) <| sz (ln rfl U30) <| au 1 rfl <| rn (qn ?_); refine Wif hp (fun _ hp => ?_) fun _ hp => ?_
           · refine Wexit (qx (qx (be (qn (Wseq (Wreg ?_)))))); refine au 3 rfl <| rn (qn (Wret ?_)); replace hc := hc.m [1, 2, 2, 4]; obtain rfl := sj hp; exact fz2 R46 M46 (k _ _ _ _ hc)
           · refine Wskip (qn (Wseq (Wblk (Wseq (Wreg ?_))))); refine au 1 rfl <| rn (qn (Wseq (Wseq (Wreg ?_)))); refine au 1 rfl <| rn (qn (Wblk ?_)); replace hc := hc.m [1]; refine Wloop (rg [9, 2, 43, 22]) [9, 10] (fun m vs w' => ∃ j26 : Int, ∃ j27 : Int, vs = [.int .i64 j26, .int .i64 j27] ∧ ref05_Mix.L3 N x0 x1 j6 j10 (ref05_Mix.L2 N x0 x1 m2) m j26 j27 = some r ∧ Ctx w' (P0 :: P1 :: oR .i8 88 a7 q9 j6 :: Fr)) N ?_ ?_
             · exact ⟨0, 0, rfl, hp, hc⟩
             · clear hp hc; intro m vs u w28 hJ; obtain ⟨j26, j27, rfl, hp, hc⟩ := hJ; rcases m with _ | m3
               · cases (show none = some r from hp)
               rw [ref05_Mix.L3] at hp; refine Wseq (Wseq (Wreg ?_)); refine au 2 rfl <| sz (ln rfl U110) <| au 1 rfl <| rn (qn ?_); refine Wif hp (fun _ hp => ?_) fun _ hp => ?_
               · refine Wexit (qx (qx (be (qn (Wreg ?_))))); refine au 2 rfl ?_; obtain ⟨r30, hr30, hp⟩ := bind_some hp; refine kz C53 ?_; refine ref01_Shift_any hc hr30 ?_; clear hc; intro w31 hc; obtain ⟨r32, hr32, hp⟩ := bind_some hp; refine kz C51 ?_; refine ref01_Near_any hc hr32 ?_; clear hc; intro w33 hc; refine sz (cvi rfl U2 U88) ?_; refine rsE (oneI hc U30 Z88 V88) rfl ?_; clear hc; rintro _ w35 ⟨a34, rfl, hc⟩; obtain ⟨z36, hz36, hp⟩ := bind_some hp; obtain ⟨hg37, e38⟩ := app_some hz36; refine rsE (hc.ap 3 0 reads_own U30 Tryz.t88 hg37) rfl ?_; clear hc; rintro _ w41 ⟨a39, q40, rfl, hc⟩; rw [← e38] at hc ⊢; replace hc := Ctx.n3 hc; refine au 1 rfl <| rn (bn (qn (Wreg ?_))); refine au 3 rfl <| rn (qn ?_); replace hc := hc.m [1]; exact ⟨m2, Nat.lt_succ_self _, ⟨z36, (IntKind.i64.wrap (j10 + 1)), a39, z36.length, q40, rfl, hp, hc⟩, (kl rfl (km rfl (kl rfl k0)))⟩
               · refine Wskip (qn (Wseq (Wblk ?_))); replace hc := hc.drew; refine Wdrw (fun _ w' => w' = World.drew w28) [0, 0, 0, 6, 14, 30, 0, 0, 192, 448, 0, 1984, 4032, 8128, 16382, 32767, 65535] 0 0 rfl (by kernel_rfl) (fun _ _ => rfl) ?_; generalize hw : World.drew w28 = w42 at *; clear hw; refine ad_ 3 rfl ?_; obtain ⟨y43, hy43, hp⟩ := bind_some hp; obtain ⟨b46, o47, rfl, hi44, hi45⟩ := hc.ra 0 hrd0 hy43; refine dE (ixx rfl rfl U51 Z21 hi44 hi45 rfl) rfl rfl ?_; have hcell50 := hc.rv 0 hrd0 hy43; refine dE (ld rfl G21 (hcell50 0 _ rfl)) rfl rfl <| dE (cvi rfl U21 U2) rfl rfl <| ad_ 2 rfl ?_; obtain ⟨y52, hy52, hp⟩ := bind_some hp; obtain ⟨b55, o56, -, hi53, hi54⟩ := hc.ra 1 hrd1 hy52; refine dE (ixx rfl rfl U110 Z30 hi53 hi54 rfl) rfl rfl ?_; replace hc := Ctx.rdCell hc (k := 1) rfl rfl hrd1 hy52; obtain ⟨cs58, hc, hcell59⟩ := hc; replace hc := Ctx.holdRo hc; obtain ⟨v63, u60, hc⟩ := hc; subst u60; obtain ⟨a61, q62, u60⟩ := hc.rd (k := 0) rfl rfl reads_ro; subst u60; refine dE (ld rfl G30 (hcell59 0 _ rfl)) rfl rfl <| ad_ 1 rfl ?_; obtain ⟨y64, hy64, hp⟩ := bind_some hp; obtain ⟨b67, o68, rfl, hi65, hi66⟩ := hc.ra 0 reads_ro hy64; refine dE (ixx rfl rfl U30 Z88 hi65 hi66 rfl) rfl rfl ?_; have hcell71 := hc.rv 0 reads_ro hy64; refine dE (ld rfl G88 (hcell71 0 _ rfl)) rfl rfl <| dE (cvi rfl U88 U2) rfl rfl <| ad_ 3 rfl <| dn (bn (qn (Wreg ?_))); refine au 3 rfl <| rn (qn ?_); replace hc := hc.m [1]; exact ⟨m3, Nat.lt_succ_self _, ⟨(IntKind.i64.wrap (j26 + (IntKind.i64.wrap ((IntKind.i64.wrap y43) * (IntKind.i64.wrap y64))))), (IntKind.i64.wrap (j27 + 1)), rfl, hp, hc⟩, (kl rfl k0)⟩
       · refine Wseq (Wreg ?_); refine au 2 rfl <| rn (qn (Wret (qr ?_))); replace hc := hc.nilOwn (pInt .i8) 88; obtain rfl := sj hp; exact fz2 R46 M46 (k _ _ _ _ hc)
     · refine Wskip (qn (Wseq (Wblk (Wseq ?_)))); replace hc := hc.drew; refine Wdrw (fun _ w' => w' = World.drew w3) [0, 0, 3, 7, 15, 0, 32, 96, 224, 511] 0 0 rfl (by kernel_rfl) (fun _ _ => rfl) ?_; generalize hw : World.drew w3 = w73 at *; clear hw; refine ad_ 2 rfl ?_; obtain ⟨y74, hy74, hp⟩ := bind_some hp; obtain ⟨b77, o78, rfl, hi75, hi76⟩ := hc.ra 1 hrd1 hy74; refine dE (ixx rfl rfl U110 Z30 hi75 hi76 rfl) rfl rfl ?_; replace hc := Ctx.rdCell hc (k := 1) rfl rfl hrd1 hy74; obtain ⟨cs80, hc, hcell81⟩ := hc; replace hc := Ctx.holdRo hc; obtain ⟨v85, u82, hc⟩ := hc; subst u82; obtain ⟨a83, q84, u82⟩ := hc.rd (k := 0) rfl rfl reads_ro; subst u82; refine dE (ld rfl G30 (hcell81 0 _ rfl)) rfl rfl <| dE (ln rfl U30) rfl rfl <| ad_ 1 rfl ?_; obtain ⟨y86, hy86, hp⟩ := bind_some hp; obtain ⟨b89, o90, -, hi87, hi88⟩ := hc.ra 2 hrd1 hy86; refine dE (ixx rfl rfl U110 Z30 hi87 hi88 rfl) rfl rfl ?_; replace hc := Ctx.rdCell hc (k := 2) rfl rfl hrd1 hy86; obtain ⟨cs92, hc, hcell93⟩ := hc; replace hc := Ctx.holdRo hc; obtain ⟨v97, u94, hc⟩ := hc; subst u94; obtain ⟨a95, q96, u94⟩ := hc.rd (k := 0) rfl rfl reads_ro; subst u94; refine dE (ld rfl G30 (hcell93 0 _ rfl)) rfl rfl <| dE (ln rfl U30) rfl rfl <| ad_ 1 rfl <| dn (qn ?_); refine Wif hp (fun _ hp => ?_) fun _ hp => ?_
       · refine Wskip (bn (qn (Wreg ?_))); refine au 3 rfl <| rn (qn ?_); replace hc := hc.m [3, 1]; exact ⟨m1, Nat.lt_succ_self _, ⟨(IntKind.i64.wrap (j2 + 1)), rfl, hp, hc⟩, (kl rfl k0)⟩
       · refine Wseq (Wreg ?_); refine au 2 rfl <| rn (qn (Wret (br (qr (qr (br (qr ?_))))))); replace hc := hc.nilOwn (pInt .i8) 88; replace hc := hc.m [5, 3]; obtain rfl := sj hp; exact fz2 R46 M46 (k _ _ _ _ hc)
 · refine Wseq (Wreg ?_); refine au 2 rfl <| rn (qn (Wret (qr ?_))); replace hc := hc.nilOwn (pInt .i8) 88; obtain rfl := sj hp; exact fz2 R46 M46 (k _ _ _ _ hc)

def ref05_Join.L1 (N : Nat) (x0 : (List Int)) (x1 : (List Int)) (x2 : Int) (x3 : Int) : Nat → (List Int) → Int → Option ((List Int))
  | 0, _, _ => none
  | m1 + 1, j1, j5 =>
    if j5 < ((x0.length : Nat) : Int) then
      (idx x0 j5).bind fun y10 =>
      (idx x1 j5).bind fun y19 =>
      (ref01_Scale N y19 x2 x3 (-2147483648) 2147483647).bind fun r28 =>
      (ref01_Wrap N ([(IntKind.i64.wrap y10), r28])).bind fun r32 =>
      (app j1 ([r32])).bind fun z36 =>
      (ref05_Join.L1 N x0 x1 x2 x3 m1) z36 (IntKind.i64.wrap (j5 + 1))
    else
      some j1

def ref05_Join (N : Nat) (x0 : (List Int)) (x1 : (List Int)) (x2 : Int) (x3 : Int) : Option ((List Int)) :=
  ref05_Join.L1 N x0 x1 x2 x3 N ([]) 0

theorem ref05_Join_any {N nx0 qx0 nx1 qx1 : Nat} {x0 x1 r : (List Int)} {ax0 ax1 : Option Addr} {P0 P1 : HP} {x2 x3 : Int} {Fr : List HP} {w : World} {K : Value → World → Prop} (hrd0 : Reads P0 (pInt .i32) (.slice ax0 nx0 qx0) x0) (hrd1 : Reads P1 (pInt .i32) (.slice ax1 nx1 qx1) x1) (hc : Ctx w (P0 :: P1 :: Fr)) (hp : ref05_Join N x0 x1 x2 x3 = some r)
    (k : ∀ a42 n43 q44 w', Ctx w' (Own (pInt .i32) 21 (.slice a42 n43 q44) r :: P0 :: P1 :: Fr) → K (.slice a42 n43 q44) w') : Calls Tryz.prog 57 #[.slice ax0 nx0 qx0, .slice ax1 nx1 qx1, .int .i32 x2, .int .i64 x3] w (Ret K) := by
 unfold ref05_Join at hp; refine Center4 F57 M57 rfl rfl ?_; obtain ⟨hn0, _⟩ := Ctx.rdLen hc (k := 0) rfl rfl hrd0; subst hn0; obtain ⟨hn1, _⟩ := Ctx.rdLen hc (k := 1) rfl rfl hrd1; subst hn1; refine Wseq (Wreg ?_); refine au 1 rfl <| rn (qn (Wseq (Wreg ?_))); refine au 1 rfl <| rn (qn (Wseq (Wseq (Wreg ?_)))); refine au 1 rfl <| rn (qn (Wblk ?_)); replace hc := hc.nilOwn (pInt .i32) 21; replace hc := hc.m [4, 4]; refine Wloop (rg [9, 25]) [9, 10] (fun m vs w' => ∃ j1 : (List Int), ∃ j5 : Int, ∃ a2 n3 q4, vs = [.slice a2 n3 q4, .int .i64 j5] ∧ ref05_Join.L1 N x0 x1 x2 x3 m j1 j5 = some r ∧ Ctx w' (P0 :: P1 :: Own (pInt .i32) 21 (.slice a2 n3 q4) j1 :: Fr)) N ?_ ?_
 · exact ⟨[], 0, none, 0, 0, rfl, hp, hc⟩
 · clear hp hc; intro m vs u w6 hJ; obtain ⟨j1, j5, a2, n3, q4, rfl, hp, hc⟩ := hJ; obtain rfl := hc.rz 2 reads_own; rcases m with _ | m1
   · cases (show none = some r from hp)
   rw [ref05_Join.L1] at hp; refine Wseq (Wseq (Wreg ?_)); refine au 2 rfl <| sz (ln rfl U51) <| au 1 rfl <| rn (qn ?_); refine Wif hp (fun _ hp => ?_) fun _ hp => ?_
   · refine Wexit (qx (qx (be (qn (Wseq (Wreg ?_)))))); refine au 2 rfl <| rn (qn (Wret ?_)); replace hc := hc.m [2, 2, 4]; obtain rfl := sj hp; exact fz R57 M57 (k _ _ _ _ hc)
   · refine Wskip (qn (Wseq (Wblk ?_))); replace hc := hc.drew; refine Wdrw (fun j w' => (j = 4 → PinRow (pInt .i32) ax0 x0 w') ∧ True) [0, 0, 0, 6, 14, 30, 0, 0, 192, 448, 0, 0, 4032, 8190, 16382, 32766, 65535, 131071] 0 512 rfl (by kernel_rfl) (fun j hj => ⟨fun _ => PinRow.of hc (k := 0) rfl rfl hrd0 (fun _ _ _ _ _ _ _ h1 h2 => h1.trans h2.symm), trivial⟩) ?_; generalize hw : World.drew w6 = w9 at *; clear hw; refine ad_ 3 rfl ?_; obtain ⟨y10, hy10, hp⟩ := bind_some hp; obtain ⟨b13, o14, rfl, hi11, hi12⟩ := hc.ra 0 hrd0 hy10; refine ds rfl (fun w' hF => ixx rfl rfl U51 Z21 hi11 hi12 rfl) rfl ?_; have hcell17 := hc.rv 0 hrd0 hy10; refine ds rfl (fun w' hF => ld rfl G21 ((hF.1 rfl) _ _ _ _ hy10 rfl w' (fun _ => True) _ rfl 0 _ rfl)) rfl <| ds rfl (fun w' hF => cvi rfl U21 U2) rfl <| ad_ 2 rfl ?_; obtain ⟨y19, hy19, hp⟩ := bind_some hp; obtain ⟨b22, o23, rfl, hi20, hi21⟩ := hc.ra 1 hrd1 hy19; refine ds rfl (fun w' hF => ixx rfl rfl U51 Z21 hi20 hi21 rfl) rfl ?_; have hcell26 := hc.rv 1 hrd1 hy19; refine dx rfl (ld rfl G21 (hcell26 0 _ rfl)) rfl rfl <| ad_ 2 rfl ?_; obtain ⟨r28, hr28, hp⟩ := bind_some hp; refine dc (cl C84 rfl rfl) rfl rfl ?_; refine ref01_Scale_any hc hr28 ?_; clear hc; intro w29 hc; refine ⟨fun j hj hb => ⟨fun _ => PinRow.of hc (k := 0) rfl rfl hrd0 (fun _ _ _ _ _ _ _ h1 h2 => h1.trans h2.symm), trivial⟩, ?_⟩; refine deE (Ctx.builtOp (css := [[.int .i64 (IntKind.i64.wrap y10)], [.int .i64 r28]]) (xs := ([(IntKind.i64.wrap y10), r28] : List Int)) (E := (pInt .i64)) (Ctx.holdsC (f := fun x : Int => [.int .i64 x]) (fun _ _ _ => rfl) hc ([(IntKind.i64.wrap y10), r28] : List Int)) U125 Z2 V2 rfl rfl rfl rfl rfl rfl rfl rfl) rfl rfl ?_; clear hc; rintro _ w31 ⟨a30, rfl, hc⟩; refine ⟨fun j hj hb => ⟨fun e => nja hj e, trivial⟩, ?_⟩; obtain ⟨r32, hr32, hp⟩ := bind_some hp; refine dc (cl C50 rfl rfl) rfl rfl ?_; refine ref01_Wrap_any reads_own hc hr32 ?_; clear hc; intro w33 hc; refine ⟨fun j hj hb => ⟨fun e => nja hj e, trivial⟩, ?_⟩; refine deE (oneI hc U51 Z21 V21) rfl rfl ?_; clear hc; rintro _ w35 ⟨a34, rfl, hc⟩; refine ⟨fun j hj hb => ⟨fun e => nja hj e, trivial⟩, ?_⟩; obtain ⟨z36, hz36, hp⟩ := bind_some hp; obtain ⟨hg37, e38⟩ := app_some hz36; refine deE (hc.ap 4 0 reads_own U51 Tryz.t21 hg37) rfl rfl ?_; clear hc; rintro _ w41 ⟨a39, q40, rfl, hc⟩; rw [← e38] at hc ⊢; replace hc := Ctx.n4 hc; refine ⟨fun j hj hb => ⟨fun e => nja hj e, trivial⟩, ?_⟩; refine ad_ 1 rfl <| dn (bn (qn (Wreg ?_))); refine au 3 rfl <| rn (qn ?_); replace hc := hc.m [3, 1]; exact ⟨m1, Nat.lt_succ_self _, ⟨z36, (IntKind.i64.wrap (j5 + 1)), a39, z36.length, q40, rfl, hp, hc⟩, (kl rfl k0)⟩

end Go.Proofs.YtbfiagimgokccaaGreat
end
section
namespace Go.Proofs.YtbfiagimgokccaaGreat
open Go Go.RowKit Go.Hp
set_option linter.unusedVariables false
set_option linter.unusedSimpArgs false
set_option maxRecDepth 100000
set_option maxHeartbeats 8000000

theorem bd_132_ {ρ : Operand → Value} {w : World} {dst : Option Nat} {ty : TypeId} {pos : String} {after : Array Edge} {g : Option (Nat × Bool)}    :
    (execOp ρ ⟨dst, .build 132 #[], ty, pos, after, g⟩).run Tryz.prog w = .ok (.value (.agg #[(.slice none 0 0), (.slice none 0 0)])) w := by
  simp [execOp, Instr.build, Instr.fill, Tryz.zeroValue132, Tryz.runUnderlying132, Tryz.sizeOf110, Value.cells]

def ref08_Run_One.J5 (j254 : Int) (k4 : (List Int) → Int → Option ((List Int) × S_ref08_Run)) (j269 : (List Int)) : Option ((List Int) × S_ref08_Run) :=
  k4 j269 (IntKind.i64.wrap (j254 + 1))

def ref08_Run_One.L4 (N : Nat) (j49 : Int) (y86 : S_api_Block) (j216 : S_ref08_Run) (r231 : ((List Int))) (r244 : ((List Int))) (k2 : S_ref08_Run → (List Int) → Int → Option ((List Int) × S_ref08_Run)) : Nat → (List Int) → Int → Option ((List Int) × S_ref08_Run)
  | 0, _, _ => none
  | m4 + 1, j250, j254 =>
    if j254 < ((r244.length : Nat) : Int) then
      (idx j250 j254).bind fun y273 =>
      if y273 < 0 then
        (idx j250 j254).bind fun y283 =>
        ref08_Run_One.J5 j254 (ref08_Run_One.L4 N j49 y86 j216 r231 r244 k2 m4) (j250.set (j254).toNat 0)
      else
        ref08_Run_One.J5 j254 (ref08_Run_One.L4 N j49 y86 j216 r231 r244 k2 m4) j250
    else
      (ref04_Apply N (⟨y86.Down.Rows, y86.Down.Cols, y86.Down.V⟩ : S_api_Mat) j250).bind fun r257 =>
      (ref05_Join N r231 r257.1 1 4).bind fun r263 =>
      k2 j216 r263 (IntKind.i64.wrap (j49 + 1))

def ref08_Run_One.L6 (N : Nat) (x0 : S_ref08_Run) (e16 : Int) (j49 : Int) (r127 : ((List Int))) (j216 : S_ref08_Run) (j217 : (List Int)) (j221 : Int) (k3 : S_ref08_Run → (List Int) → Int → Option ((List Int) × S_ref08_Run)) : Nat → (List Int) → (List (List Int)) → Int → Option ((List Int) × S_ref08_Run)
  | 0, _, _, _ => none
  | m6 + 1, j291, j295, j299 =>
    if j299 ≤ ((x0.L.length : Nat) : Int) then
      chk (0 ≤ (IntKind.i64.wrap (j221 * e16)) ∧ (IntKind.i64.wrap (j221 * e16)) ≤ (IntKind.i64.wrap ((IntKind.i64.wrap (j221 + 1)) * e16)) ∧ (IntKind.i64.wrap ((IntKind.i64.wrap (j221 + 1)) * e16)) ≤ ((r127.length : Nat) : Int)) <|
      (idx j216.L j299).bind fun y339 =>
      (idx y339.K j49).bind fun y358 =>
      chk (0 ≤ (IntKind.i64.wrap (j221 * e16)) ∧ (IntKind.i64.wrap (j221 * e16)) ≤ (IntKind.i64.wrap ((IntKind.i64.wrap (j221 + 1)) * e16)) ∧ (IntKind.i64.wrap ((IntKind.i64.wrap (j221 + 1)) * e16)) ≤ ((y358.length : Nat) : Int)) <|
      (ref01_Dot N ((r127.take ((IntKind.i64.wrap ((IntKind.i64.wrap (j221 + 1)) * e16))).toNat).drop ((IntKind.i64.wrap (j221 * e16))).toNat) ((y358.take ((IntKind.i64.wrap ((IntKind.i64.wrap (j221 + 1)) * e16))).toNat).drop ((IntKind.i64.wrap (j221 * e16))).toNat)).bind fun r376 =>
      (app j291 ([r376])).bind fun z380 =>
      (idx y339.V j49).bind fun y391 =>
      chk (0 ≤ (IntKind.i64.wrap (j221 * e16)) ∧ (IntKind.i64.wrap (j221 * e16)) ≤ (IntKind.i64.wrap ((IntKind.i64.wrap (j221 + 1)) * e16)) ∧ (IntKind.i64.wrap ((IntKind.i64.wrap (j221 + 1)) * e16)) ≤ ((y391.length : Nat) : Int)) <|
      (app j295 ([((y391.take ((IntKind.i64.wrap ((IntKind.i64.wrap (j221 + 1)) * e16))).toNat).drop ((IntKind.i64.wrap (j221 * e16))).toNat)])).bind fun z411 =>
      (ref08_Run_One.L6 N x0 e16 j49 r127 j216 j217 j221 k3 m6) z380 z411 (IntKind.i64.wrap (j299 + 1))
    else
      (ref05_Softmax N 64 0 j291).bind fun r304 =>
      (ref05_Mix N r304 j295).bind fun r310 =>
      (app j217 r310.1).bind fun z316 =>
      k3 j216 z316 (IntKind.i64.wrap (j221 + 1))

def ref08_Run_One.L3 (N : Nat) (x0 : S_ref08_Run) (e16 : Int) (j45 : (List Int)) (j49 : Int) (y86 : S_api_Block) (r127 : ((List Int))) (k2 : S_ref08_Run → (List Int) → Int → Option ((List Int) × S_ref08_Run)) : Nat → S_ref08_Run → (List Int) → Int → Option ((List Int) × S_ref08_Run)
  | 0, _, _, _ => none
  | m3 + 1, j216, j217, j221 =>
    if j221 < x0.W.Shape.Heads then
      ref08_Run_One.L6 N x0 e16 j49 r127 j216 j217 j221 (ref08_Run_One.L3 N x0 e16 j45 j49 y86 r127 k2 m3) N ([]) ([]) 0
    else
      (ref04_Apply N (⟨y86.O.Rows, y86.O.Cols, y86.O.V⟩ : S_api_Mat) j217).bind fun r225 =>
      (ref05_Join N j45 r225.1 1 4).bind fun r231 =>
      (ref05_Norm N y86.Second r231).bind fun r238 =>
      (ref08_quants N (⟨y86.Up.Rows, y86.Up.Cols, y86.Up.V⟩ : S_api_Mat) r238).bind fun r244 =>
      ref08_Run_One.L4 N j49 y86 j216 r231 r244 k2 N r244 0

def ref08_Run_One.L2 (N : Nat) (x0 : S_ref08_Run) (e16 : Int) : Nat → S_ref08_Run → (List Int) → Int → Option ((List Int) × S_ref08_Run)
  | 0, _, _, _ => none
  | m2 + 1, j44, j45, j49 =>
    if j49 < x0.W.Shape.Layers then
      (idx j44.W.Blocks j49).bind fun y86 =>
      (ref05_Norm N y86.First j45).bind fun r115 =>
      (ref08_quants N (⟨y86.Q.Rows, y86.Q.Cols, y86.Q.V⟩ : S_api_Mat) r115).bind fun r121 =>
      (ref08_turned N ((x0.L.length : Nat) : Int) e16 r121).bind fun r127 =>
      (idx j44.L ((x0.L.length : Nat) : Int)).bind fun y133 =>
      (ref08_quants N (⟨y86.K.Rows, y86.K.Cols, y86.K.V⟩ : S_api_Mat) r115).bind fun r158 =>
      (ref08_turned N ((x0.L.length : Nat) : Int) e16 r158).bind fun r164 =>
      (app y133.K ([r164])).bind fun z172 =>
      (ref08_quants N (⟨y86.V.Rows, y86.V.Cols, y86.V.V⟩ : S_api_Mat) r115).bind fun r193 =>
      (app y133.V ([r193])).bind fun z201 =>
      ref08_Run_One.L3 N x0 e16 j45 j49 y86 r127 (ref08_Run_One.L2 N x0 e16 m2) N (⟨j44.W, (j44.L.set (((x0.L.length : Nat) : Int)).toNat (⟨z172, z201⟩ : S_ref08_Kept))⟩ : S_ref08_Run) ([]) 0
    else
      (ref05_Norm N j44.W.Last j45).bind fun r64 =>
      (ref04_Apply N (⟨j44.W.Head.Rows, j44.W.Head.Cols, j44.W.Head.V⟩ : S_api_Mat) r64).bind fun r70 =>
      some (r70.1, j44)

def ref08_Run_One.L1 (N : Nat) (x0 : S_ref08_Run) (x1 : Int) (e16 : Int) : Nat → (List Int) → Int → Option ((List Int) × S_ref08_Run)
  | 0, _, _ => none
  | m1 + 1, j17, j21 =>
    if j21 < x0.W.Shape.Width then
      (idx x0.W.Embed.V (IntKind.i64.wrap ((IntKind.i64.wrap (x1 * x0.W.Shape.Width)) + j21))).bind fun y428 =>
      (app j17 ([(IntKind.i32.wrap (16 * (IntKind.i32.wrap y428)))])).bind fun z439 =>
      (ref08_Run_One.L1 N x0 x1 e16 m1) z439 (IntKind.i64.wrap (j21 + 1))
    else
      (app x0.L ([(⟨[], []⟩ : S_ref08_Kept)])).bind fun z37 =>
      ref08_Run_One.L2 N x0 e16 N (⟨x0.W, z37⟩ : S_ref08_Run) j17 0

def ref08_Run_One (N : Nat) (x0 : S_ref08_Run) (x1 : Int) : Option ((List Int) × S_ref08_Run) :=
  chk (x0.W.Shape.Heads ≠ 0) <|
  (some (IntKind.i64.wrap (Int.tdiv x0.W.Shape.Width x0.W.Shape.Heads))).bind fun e16 =>
  ref08_Run_One.L1 N x0 x1 e16 N ([]) 0

theorem ref08_Run_One_any {N b0 : Nat} {x0 : S_ref08_Run} {x1 : Int} {Fr : List HP} {w : World} {r : (List Int) × S_ref08_Run} {K : Value → World → Prop}  (hc : Ctx w (S_ref08_Run.hp b0 x0 :: Fr)) (hp : ref08_Run_One N x0 x1 = some r)
    (k : ∀ a445 n446 q447 w', Ctx w' (Own (pInt .i32) 21 (.slice a445 n446 q447) r.1 :: S_ref08_Run.hp b0 r.2 :: Fr) → K (.slice a445 n446 q447) w') : Calls Tryz.prog 21 #[pt b0 0, .int .i64 x1] w (Ret K) := by
 unfold ref08_Run_One at hp; refine Center2 F21 M21 rfl rfl ?_; refine Wseq (Wreg ?_); refine au 1 rfl <| rn (qn (Wseq (Wreg ?_))); refine au 2 rfl <| sz (v := pt b0 0) (fax 0 rfl U77 rfl Z35 rfl rfl rfl) <| sz (v := pt b0 0) (fax 0 rfl U35 rfl Z29 rfl rfl rfl) ?_; replace hc := S_ref08_Run.uf hc; obtain ⟨a1, q2, a3, q4, a5, q6, a7, q8, a9, q10, hc⟩ := hc; refine lg G29 Z29 hc 0 ?_; refine rsE (Ctx.allocOp (cs := [.int .i64 0, .int .i64 0, .int .i64 0, .int .i64 0, .int .i64 0, .int .i64 0]) hc V29 rfl) rfl ?_; clear hc; rintro _ w13 ⟨b11, rfl, hc⟩; refine pa hc 0 Z29 ?_; clear hc; rintro w14 hc; refine rn (qn (Wseq (Wreg ?_))); refine fq 1 U29 Z3 G3 hc 0 ?_; refine fq 2 U29 Z3 G3 hc 0 ?_; obtain ⟨hg15, hp⟩ := chk_some hp; refine sz (quw rfl rfl hg15) ?_; obtain ⟨e16, he16, hp⟩ := bind_some hp; injection he16 with he16; refine sz (v := .int .i64 e16) (av (v := .int .i64 e16) (by rw [← he16]; rfl)) <| rn (qn (Wseq (Wreg ?_))); refine au 2 rfl ?_; refine fq 14 U77 Z75 G75 hc 1 ?_; refine sz (ln rfl U75) <| au 1 rfl <| rn (qn (Wseq (Wreg ?_))); refine au 1 rfl <| rn (qn (Wseq (Wseq (Wreg ?_)))); refine au 1 rfl <| rn (qn (Wblk ?_)); replace hc := hc.m [12, 12, 12, 12, 12, 12]; replace hc := S_ref08_Run.fd (x := x0) hc; replace hc := hc.nilOwn (pInt .i32) 21; replace hc := hc.m [2, 4]; refine Wloop (rg [8, 2, 44, 25]) [8, 9] (fun m vs w' => ∃ j17 : (List Int), ∃ j21 : Int, ∃ a18 n19 q20, vs = [.slice a18 n19 q20, .int .i64 j21] ∧ ref08_Run_One.L1 N x0 x1 e16 m j17 j21 = some r ∧ Ctx w' (B b11 (S_api_Shape.cz x0.W.Shape) 29 :: S_ref08_Run.hp b0 x0 :: Own (pInt .i32) 21 (.slice a18 n19 q20) j17 :: Fr)) N ?_ ?_
 · exact ⟨[], 0, none, 0, 0, rfl, hp, hc⟩
 · clear hp hc; intro m vs u w22 hJ; obtain ⟨j17, j21, a18, n19, q20, rfl, hp, hc⟩ := hJ; obtain rfl := hc.rz 2 reads_own; rcases m with _ | m1
   · cases (show none = some r from hp)
   rw [ref08_Run_One.L1] at hp; refine Wseq (Wseq (Wreg ?_)); refine au 1 rfl ?_; refine fq 1 U29 Z3 G3 hc 0 ?_; refine au 1 rfl <| rn (qn ?_); refine Wif hp (fun _ hp => ?_) fun _ hp => ?_
   · refine Wexit (qx (qx (be (qn (Wseq (Wreg ?_)))))); refine au 3 rfl <| sz (v := pt b0 14) (fax 14 rfl U77 rfl Z75 rfl rfl rfl) ?_; replace hc := hc.m [2]; replace hc := S_ref08_Run.uf hc; obtain ⟨a25, q26, a27, q28, a29, q30, a31, q32, a33, q34, hc⟩ := hc; refine sz (ld rfl G75 (Ctx.cell hc (k := 0) rfl rfl rfl)) <| sz (v := .agg #[.slice none 0 0, .slice none 0 0]) (bd_132_ ) ?_; replace hc := hc.nilOwn (pRo (pInt .i8)) 30; replace hc := hc.nilOwn (pRo (pInt .i8)) 30; replace hc := hc.m [2]; replace hc : Ctx w22 (S_ref08_Kept.vp.r [.slice none 0 0, .slice none 0 0] (⟨[], []⟩ : S_ref08_Kept) :: B b0 (S_ref08_Run.cz x0 a25 q26 a27 q28 a29 q30 a31 q32 a33 q34) 77 :: hR .i8 a25 q26 x0.W.Embed.V :: hS S_api_Block.pr a27 q28 x0.W.Blocks :: hR .i8 a29 q30 x0.W.Last :: hR .i8 a31 q32 x0.W.Head.V :: OwnV S_ref08_Kept.vp 132 (.slice a33 x0.L.length q34) x0.L :: B b11 (S_api_Shape.cz x0.W.Shape) 29 :: oR .i32 21 a18 q20 j17 :: Fr) := Ctx.exB _ _ (Ctx.exB _ _ (Ctx.sepB (Ctx.sepB (Ctx.puB ⟨rfl, rfl⟩ hc)))); replace hc := Ctx.anyB (m := 2) [.slice none 0 0, .slice none 0 0] rfl rfl hc; refine rsE (Ctx.builtOp (css := [[.slice none 0 0, .slice none 0 0]]) (xs := ([[.slice none 0 0, .slice none 0 0]] : List (List Value))) (E := pAny 2) hc U75 Z132 V132 rfl rfl rfl rfl rfl rfl rfl rfl) rfl ?_; clear hc; rintro _ w36 ⟨a35, rfl, hc⟩; replace hc : Ctx w36 (OwnV S_ref08_Kept.vp 132 (.slice a35 1 1) ([(⟨[], []⟩ : S_ref08_Kept)]) :: B b0 (S_ref08_Run.cz x0 a25 q26 a27 q28 a29 q30 a31 q32 a33 q34) 77 :: hR .i8 a25 q26 x0.W.Embed.V :: hS S_api_Block.pr a27 q28 x0.W.Blocks :: hR .i8 a29 q30 x0.W.Last :: hR .i8 a31 q32 x0.W.Head.V :: OwnV S_ref08_Kept.vp 132 (.slice a33 x0.L.length q34) x0.L :: B b11 (S_api_Shape.cz x0.W.Shape) 29 :: oR .i32 21 a18 q20 j17 :: Fr) := Ctx.ownV1 hc; obtain ⟨z37, hz37, hp⟩ := bind_some hp; obtain ⟨hg38, e39⟩ := app_some hz37; replace hc := hc.m [12]; refine rsE (Ctx.appendV hc U75 (i := Tryz.t132) rfl rfl rfl rfl rfl rfl rfl rfl hg38) rfl ?_; clear hc; rintro _ w42 ⟨a40, q41, rfl, hc⟩; rw [← e39] at hc ⊢; refine au 1 rfl <| sz (v := pt b0 14) (fax 14 rfl U77 rfl Z75 rfl rfl rfl) <| po hc 1 Z75 ?_; clear hc; rintro w43 hc; refine rn (qn (Wseq (Wseq (Wreg ?_)))); refine au 1 rfl <| rn (qn (Wblk ?_)); replace hc := hc.m [10, 10, 10, 10, 10]; replace hc := S_ref08_Run.fd (x := (⟨x0.W, z37⟩ : S_ref08_Run)) hc; refine Wloop (rg [8, 1, 10, 17, 79, 186]) [8, 10] (fun m vs w' => ∃ j44 : S_ref08_Run, ∃ j45 : (List Int), ∃ j49 : Int, ∃ a46 n47 q48, vs = [.slice a46 n47 q48, .int .i64 j49] ∧ ref08_Run_One.L2 N x0 e16 m j44 j45 j49 = some r ∧ Ctx w' (S_ref08_Run.hp b0 j44 :: B b11 (S_api_Shape.cz x0.W.Shape) 29 :: Own (pInt .i32) 21 (.slice a46 n47 q48) j45 :: Fr)) N ?_ ?_
     · exact ⟨(⟨x0.W, z37⟩ : S_ref08_Run), j17, 0, a18, j17.length, q20, rfl, hp, hc⟩
     · clear hp hc; intro m vs u w50 hJ; obtain ⟨j44, j45, j49, a46, n47, q48, rfl, hp, hc⟩ := hJ; obtain rfl := hc.rz 2 reads_own; rcases m with _ | m2
       · cases (show none = some r from hp)
       rw [ref08_Run_One.L2] at hp; refine Wseq (Wseq (Wreg ?_)); refine au 1 rfl ?_; refine fq 0 U29 Z3 G3 hc 1 ?_; refine au 1 rfl <| rn (qn ?_); refine Wif hp (fun _ hp => ?_) fun _ hp => ?_
       · refine Wexit (qx (qx (be (qn (Wseq ?_))))); replace hc := S_ref08_Run.uf hc; obtain ⟨a53, q54, a55, q56, a57, q58, a59, q60, a61, q62, hc⟩ := hc; replace hc := hc.drew; refine Wdrw (fun j w' => (j = 4 → ∀ j v, ((S_api_Mat.cz j44.W.Head a59 q60) : List Value)[j]? = some v → w'.cell? ((⟨b0, 11, none⟩ : Addr).add j) = some v) ∧ True) [0, 1, 3, 7, 15, 0, 32, 96, 224, 480, 0, 2016, 4095, 8191, 16383, 16383, 32767, 131071] 0 512 rfl (by kernel_rfl) (fun j hj => ⟨fun _ => Ctx.cells hc (k := 0) rfl rfl 11 (vs := (S_api_Mat.cz j44.W.Head a59 q60)) rfl, trivial⟩) ?_; generalize hw : World.drew w50 = w63 at *; clear hw; refine ad_ 2 rfl <| ds (v := pt b0 0) rfl (fun w' hF => fax 0 rfl U77 rfl Z35 rfl rfl rfl) rfl <| ds (v := pt b0 11) rfl (fun w' hF => fax 11 rfl U35 rfl Z32 rfl rfl rfl) rfl <| ds (v := .agg (S_api_Mat.cz j44.W.Head a59 q60).toArray) rfl (fun w' hF => ldg rfl G32 Z32 rfl (hF.1 rfl)) rfl <| ad_ 2 rfl <| ds (v := pt b0 0) rfl (fun w' hF => fax 0 rfl U77 rfl Z35 rfl rfl rfl) rfl <| ds (v := pt b0 10) rfl (fun w' hF => fax 10 rfl U35 rfl Z30 rfl rfl rfl) rfl <| dx rfl (ld rfl G30 (Ctx.cell hc (k := 0) rfl rfl rfl)) rfl rfl <| ad_ 1 rfl ?_; replace hc := hc.dz 3; obtain ⟨r64, hr64, hp⟩ := bind_some hp; replace hc := hc.m [16, 2]; refine dc (cl C19 rfl rfl) rfl rfl ?_; refine ref05_Norm_any reads_ro reads_own hc hr64 ?_; clear hc; intro a65 n66 q67 w68 hc; obtain rfl := hc.rz 0 reads_own; refine ⟨fun j hj hb => ⟨fun _ => Ctx.cells hc (k := 3) rfl rfl 11 (vs := (S_api_Mat.cz j44.W.Head a59 q60)) rfl, trivial⟩, ?_⟩; replace hc := hc.dz 7; obtain ⟨r70, hr70, hp⟩ := bind_some hp; replace hc := hc.m [2, 2]; refine dc (cl C18 rfl rfl) rfl rfl ?_; refine ref04_Apply_any (x0 := j44.W.Head) reads_own hc hr70 ?_; clear hc; intro a71 n72 q73 w74 hc; obtain rfl := hc.rz 0 reads_own; refine ⟨fun j hj hb => ⟨fun e => nja hj e, trivial⟩, ?_⟩; refine ad_ 5 rfl <| dn (qn (Wseq (Wreg ?_))); refine au 2 rfl <| rn (qn (Wret ?_)); replace hc := hc.m [18, 18, 18, 18, 18, 18]; replace hc := S_ref08_Run.fd (x := j44) hc; replace hc := hc.m [11, 9, 7, 5, 2]; obtain rfl := sj hp; exact fz R21 M21 (k _ _ _ _ hc)
       · refine Wskip (qn (Wseq (Wblk (Wseq (Wreg ?_))))); refine au 2 rfl <| sz (v := pt b0 0) (fax 0 rfl U77 rfl Z35 rfl rfl rfl) <| sz (v := pt b0 9) (fax 9 rfl U35 rfl Z33 rfl rfl rfl) ?_; replace hc := S_ref08_Run.uf hc; obtain ⟨a76, q77, a78, q79, a80, q81, a82, q83, a84, q85, hc⟩ := hc; refine sz (ld rfl G33 (Ctx.cell hc (k := 0) rfl rfl rfl)) <| au 1 rfl ?_; obtain ⟨y86, hy86, hp⟩ := bind_some hp; obtain ⟨b89, o90, rfl, hi87, hi88⟩ := hc.ra 2 reads_ro hy86; refine sz (ixx rfl rfl U33 Z97 hi87 hi88 rfl) ?_; replace hc := Ctx.rdCell hc (k := 2) rfl rfl reads_ro hy86; obtain ⟨cs92, hc, hcell93⟩ := hc; replace hc := S_api_Block.op hc; obtain ⟨a95, q96, a97, q98, a99, q100, a101, q102, a103, q104, a105, q106, a107, q108, a109, q110, u94, hc⟩ := hc; subst u94; refine sz (v := .agg (S_api_Block.cz y86 a95 q96 a97 q98 a99 q100 a101 q102 a103 q104 a105 q106 a107 q108 a109 q110).toArray) (ldg rfl G97 Z97 rfl (elCells hcell93 0 (vs := (S_api_Block.cz y86 a95 q96 a97 q98 a99 q100 a101 q102 a103 q104 a105 q106 a107 q108 a109 q110)) rfl)) ?_; refine rsE (Ctx.allocOp (cs := [.slice none 0 0, .slice none 0 0, .int .i64 0, .int .i64 0, .slice none 0 0, .int .i64 0, .int .i64 0, .slice none 0 0, .int .i64 0, .int .i64 0, .slice none 0 0, .int .i64 0, .int .i64 0, .slice none 0 0, .int .i64 0, .int .i64 0, .slice none 0 0, .int .i64 0, .int .i64 0, .slice none 0 0]) hc V97 rfl) rfl ?_; clear hc; rintro _ w113 ⟨b111, rfl, hc⟩; refine pa hc 0 Z97 ?_; clear hc; rintro w114 hc; refine rn (qn (Wseq (Wreg ?_))); refine fq 0 U97 Z30 G30 hc 0 ?_; refine au 1 rfl ?_; replace hc := hc.dz 1; obtain ⟨r115, hr115, hp⟩ := bind_some hp; replace hc := hc.m [34, 2]; refine kz C19 ?_; refine ref05_Norm_any reads_ro reads_own hc hr115 ?_; clear hc; intro a116 n117 q118 w119 hc; obtain rfl := hc.rz 0 reads_own; refine au 1 rfl <| rn (qn (Wseq (Wreg ?_))); refine au 2 rfl <| sz (v := pt b111 2) (fax 2 rfl U97 rfl Z32 rfl rfl rfl) <| lg G32 Z32 hc 3 ?_; refine au 1 rfl ?_; replace hc := hc.dz 6; obtain ⟨r121, hr121, hp⟩ := bind_some hp; replace hc := hc.m [2, 2]; refine kz C56 ?_; refine ref08_quants_any (x0 := y86.Q) reads_own hc hr121 ?_; clear hc; intro a122 n123 q124 w125 hc; obtain rfl := hc.rz 0 reads_own; obtain ⟨r127, hr127, hp⟩ := bind_some hp; refine kz C55 ?_; refine ref08_turned_any reads_own hc hr127 ?_; clear hc; intro a128 n129 q130 w131 hc; obtain rfl := hc.rz 0 reads_own; refine au 1 rfl <| rn (qn (Wseq ?_)); obtain ⟨y133, hy133, hp⟩ := bind_some hp; replace hc := hc.m [38]; replace hc := Ctx.ownVF hc; obtain ⟨hs134, hl137, hc⟩ := hc; replace hc := Ctx.bigF hc.swap hy133; obtain ⟨a136, ha135, hc⟩ := hc; replace hc := Ctx.exF hc; obtain ⟨v139, hc⟩ := hc; replace hc := Ctx.exF hc; obtain ⟨v140, hc⟩ := hc; replace hc := Ctx.sepF hc; replace hc := Ctx.sepF hc; replace hc := Ctx.puF hc; obtain ⟨⟨u138, _⟩, hc⟩ := hc; subst u138; obtain ⟨a141, q142, u143⟩ := hc.rd (k := 0) rfl rfl reads_own; subst u143; obtain ⟨a144, q145, u146⟩ := hc.rd (k := 1) rfl rfl reads_own; subst u146; obtain ⟨b147, o148, rfl, hi150, hi151⟩ := hc.ra 3 reads_own ha135; replace hc := hc.drew; refine Wdrw (fun j w' => (j = 3 → w'.cell? ⟨b0, 14, none⟩ = some (.slice (some ⟨b147, o148, none⟩) j44.L.length q85)) ∧ (j = 8 → w'.cell? ⟨b0, 14, none⟩ = some (.slice (some ⟨b147, o148, none⟩) j44.L.length q85)) ∧ (j = 12 → w'.cell? ⟨b147, o148 + (((x0.L.length : Nat) : Int)).toNat * 2 + 0, none⟩ = some (.slice a141 y133.K.length q142)) ∧ True) [0, 1, 3, 7, 0, 0, 32, 96, 224, 0, 992, 2016, 4064, 0, 0, 0, 32768, 0, 229376, 516096, 1040384, 2097120, 4194303, 8388607, 16777215] 0 65536 rfl (by kernel_rfl) (fun j hj => ⟨fun _ => hc.cell (k := 18) rfl rfl rfl, fun _ => hc.cell (k := 18) rfl rfl rfl, fun _ => Ctx.rdAny hc (k := 3) rfl rfl ha135 0 _ rfl, trivial⟩) ?_; generalize hw : World.drew w131 = w152 at *; clear hw; refine ad_ 2 rfl <| ds (v := pt b0 14) rfl (fun w' hF => fax 14 rfl U77 rfl Z75 rfl rfl rfl) rfl <| ds rfl (fun w' hF => ld rfl G75 ((hF.1 rfl))) rfl <| ad_ 3 rfl <| ds (v := pt b0 14) rfl (fun w' hF => fax 14 rfl U77 rfl Z75 rfl rfl rfl) rfl <| ds rfl (fun w' hF => ld rfl G75 ((hF.2.1 rfl))) rfl <| ad_ 1 rfl ?_; have hln := Ctx.rdLen hc (k := 3) rfl rfl reads_own; obtain ⟨b155, o156, u157, hi153, hi154⟩ := Ctx.rdAt hc (k := 3) rfl rfl reads_own ha135; clear hln; clear u157; refine ds rfl (fun w' hF => ixx rfl rfl U75 Z132 hi153 hi154 rfl) rfl <| ds (v := .pointer (some ⟨b147, o148 + (((x0.L.length : Nat) : Int)).toNat * 2 + 0, none⟩)) rfl (fun w' hF => fax 0 rfl U132 rfl Z110 rfl rfl rfl) rfl <| ds rfl (fun w' hF => ld rfl G110 ((hF.2.2.1 rfl))) rfl <| ad_ 2 rfl <| ds (v := pt b111 5) rfl (fun w' hF => fax 5 rfl U97 rfl Z32 rfl rfl rfl) rfl <| dx (v := .agg (S_api_Mat.cz y86.K a101 q102).toArray) rfl (ldg rfl G32 Z32 rfl (Ctx.cells hc (k := 9) rfl rfl 5 (vs := (S_api_Mat.cz y86.K a101 q102)) rfl)) rfl rfl <| ad_ 1 rfl ?_; replace hc := hc.dz 13; obtain ⟨r158, hr158, hp⟩ := bind_some hp; replace hc := hc.m [14, 2]; refine dc (cl C56 rfl rfl) rfl rfl ?_; refine ref08_quants_any (x0 := y86.K) reads_own hc hr158 ?_; clear hc; intro a159 n160 q161 w162 hc; obtain rfl := hc.rz 0 reads_own; refine ⟨fun j hj hb => ⟨fun _ => hc.cell (k := 19) rfl rfl rfl, fun _ => hc.cell (k := 19) rfl rfl rfl, fun _ => Ctx.rdAny hc (k := 5) rfl rfl ha135 0 _ rfl, trivial⟩, ?_⟩; obtain ⟨r164, hr164, hp⟩ := bind_some hp; refine dc (cl C55 rfl rfl) rfl rfl ?_; refine ref08_turned_any reads_own hc hr164 ?_; clear hc; intro a165 n166 q167 w168 hc; obtain rfl := hc.rz 0 reads_own; refine ⟨fun j hj hb => ⟨fun _ => hc.cell (k := 20) rfl rfl rfl, fun _ => hc.cell (k := 20) rfl rfl rfl, fun _ => Ctx.rdAny hc (k := 6) rfl rfl ha135 0 _ rfl, trivial⟩, ?_⟩; replace hc := hc.freeze (k := 0) rfl rfl rfl; replace hc := Ctx.n0 hc; replace hc := hc.dz 0; refine deE (Ctx.builtOp (css := [[.slice a165 r164.length q167]]) (xs := ([r164] : List (List Int))) (E := (pRo (pInt .i8))) hc U110 Z30 V30 rfl rfl rfl rfl rfl rfl rfl rfl) rfl rfl ?_; clear hc; rintro _ w171 ⟨a170, rfl, hc⟩; refine ⟨fun j hj hb => ⟨fun _ => hc.cell (k := 21) rfl rfl rfl, fun _ => hc.cell (k := 21) rfl rfl rfl, fun _ => Ctx.rdAny hc (k := 7) rfl rfl ha135 0 _ rfl, trivial⟩, ?_⟩; obtain ⟨z172, hz172, hp⟩ := bind_some hp; obtain ⟨hg173, e174⟩ := app_some hz172; refine deE (hc.ap 4 0 reads_own U110 Tryz.t30 hg173) rfl rfl ?_; clear hc; rintro _ w177 ⟨a175, q176, rfl, hc⟩; rw [← e174] at hc ⊢; replace hc := Ctx.n4 hc; refine ⟨fun j hj hb => ⟨fun _ => hc.cell (k := 21) rfl rfl rfl, fun e => nja hj e, fun e => nja hj e, trivial⟩, ?_⟩; have hln := Ctx.rdLen hc (k := 7) rfl rfl reads_own; obtain ⟨b180, o181, u182, hi178, hi179⟩ := Ctx.rdAt hc (k := 7) rfl rfl reads_own ha135; clear hln; clear u182; refine ds rfl (fun w' hF => ixx rfl rfl U75 Z132 hi178 hi179 rfl) rfl <| ds (v := .pointer (some ⟨b147, o148 + (((x0.L.length : Nat) : Int)).toNat * 2 + 0, none⟩)) rfl (fun w' hF => fax 0 rfl U132 rfl Z110 rfl rfl rfl) rfl ?_; refine duE (Ctx.ownPutOp hc (k := 7) rfl rfl (z := [.slice a141 y133.K.length q142, .slice a144 y133.V.length q145]) (z' := [.slice a175 z172.length q176, .slice a144 y133.V.length q145]) ha135 0 rfl (u := .slice a175 z172.length q176) rfl rfl rfl Z110 (pAny_put rfl rfl) rfl) rfl rfl ?_; clear hc; rintro w183 hc; replace hc := Ctx.n7 hc; refine ⟨fun j hj hb => ⟨fun e => nja hj e, fun e => nja hj e, fun e => nja hj e, trivial⟩, ?_⟩; rw [← bigH_set (V := S_ref08_Kept.vp.r) (hs := hs134) (bs := j44.L) (i := ((x0.L.length : Nat) : Int)) [.slice a175 z172.length q176, .slice a144 y133.V.length q145]] at hc; have ha185 := idx_set ha135 ([.slice a175 z172.length q176, .slice a144 y133.V.length q145] : List Value); generalize hq186 : hs134.set (((x0.L.length : Nat) : Int)).toNat [.slice a175 z172.length q176, .slice a144 y133.V.length q145] = hs184 at hc ha185; refine dn (qn (Wseq ?_)); replace hc := hc.drew; refine Wdrw (fun j w' => (j = 3 → w'.cell? ⟨b0, 14, none⟩ = some (.slice (some ⟨b147, o148, none⟩) j44.L.length q85)) ∧ (j = 8 → w'.cell? ⟨b0, 14, none⟩ = some (.slice (some ⟨b147, o148, none⟩) j44.L.length q85)) ∧ (j = 12 → w'.cell? ⟨b147, o148 + (((x0.L.length : Nat) : Int)).toNat * 2 + 1, none⟩ = some (.slice a144 y133.V.length q145)) ∧ True) [0, 1, 3, 7, 0, 0, 32, 96, 224, 0, 992, 2016, 4064, 0, 8192, 0, 57344, 122880, 262112, 524287, 1048575, 2097151] 0 16384 rfl (by kernel_rfl) (fun j hj => ⟨fun _ => hc.cell (k := 21) rfl rfl rfl, fun _ => hc.cell (k := 21) rfl rfl rfl, fun _ => Ctx.rdAny hc (k := 7) rfl rfl ha185 1 _ rfl, trivial⟩) ?_; generalize hw : World.drew w183 = w187 at *; clear hw; refine ad_ 2 rfl <| ds (v := pt b0 14) rfl (fun w' hF => fax 14 rfl U77 rfl Z75 rfl rfl rfl) rfl <| ds rfl (fun w' hF => ld rfl G75 ((hF.1 rfl))) rfl <| ad_ 3 rfl <| ds (v := pt b0 14) rfl (fun w' hF => fax 14 rfl U77 rfl Z75 rfl rfl rfl) rfl <| ds rfl (fun w' hF => ld rfl G75 ((hF.2.1 rfl))) rfl <| ad_ 1 rfl ?_; have hln := Ctx.rdLen hc (k := 7) rfl rfl reads_own; obtain ⟨b190, o191, u192, hi188, hi189⟩ := Ctx.rdAt hc (k := 7) rfl rfl reads_own ha185; clear hln; clear u192; refine ds rfl (fun w' hF => ixx rfl rfl U75 Z132 hi188 hi189 rfl) rfl <| ds (v := .pointer (some ⟨b147, o148 + (((x0.L.length : Nat) : Int)).toNat * 2 + 1, none⟩)) rfl (fun w' hF => fax 1 rfl U132 rfl Z110 rfl rfl rfl) rfl <| ds rfl (fun w' hF => ld rfl G110 ((hF.2.2.1 rfl))) rfl <| ds (v := pt b111 8) rfl (fun w' hF => fax 8 rfl U97 rfl Z32 rfl rfl rfl) rfl <| dx (v := .agg (S_api_Mat.cz y86.V a103 q104).toArray) rfl (ldg rfl G32 Z32 rfl (Ctx.cells hc (k := 12) rfl rfl 8 (vs := (S_api_Mat.cz y86.V a103 q104)) rfl)) rfl rfl <| ad_ 1 rfl ?_; replace hc := hc.dz 17; obtain ⟨r193, hr193, hp⟩ := bind_some hp; replace hc := hc.m [8, 2]; refine dc (cl C56 rfl rfl) rfl rfl ?_; refine ref08_quants_any (x0 := y86.V) reads_own hc hr193 ?_; clear hc; intro a194 n195 q196 w197 hc; obtain rfl := hc.rz 0 reads_own; refine ⟨fun j hj hb => ⟨fun _ => hc.cell (k := 22) rfl rfl rfl, fun _ => hc.cell (k := 22) rfl rfl rfl, fun _ => Ctx.rdAny hc (k := 8) rfl rfl ha185 1 _ rfl, trivial⟩, ?_⟩; replace hc := hc.freeze (k := 0) rfl rfl rfl; replace hc := Ctx.n0 hc; replace hc := hc.dz 0; refine deE (Ctx.builtOp (css := [[.slice a194 r193.length q196]]) (xs := ([r193] : List (List Int))) (E := (pRo (pInt .i8))) hc U110 Z30 V30 rfl rfl rfl rfl rfl rfl rfl rfl) rfl rfl ?_; clear hc; rintro _ w200 ⟨a199, rfl, hc⟩; refine ⟨fun j hj hb => ⟨fun _ => hc.cell (k := 23) rfl rfl rfl, fun _ => hc.cell (k := 23) rfl rfl rfl, fun _ => Ctx.rdAny hc (k := 9) rfl rfl ha185 1 _ rfl, trivial⟩, ?_⟩; obtain ⟨z201, hz201, hp⟩ := bind_some hp; obtain ⟨hg202, e203⟩ := app_some hz201; refine deE (hc.ap 7 0 reads_own U110 Tryz.t30 hg202) rfl rfl ?_; clear hc; rintro _ w206 ⟨a204, q205, rfl, hc⟩; rw [← e203] at hc ⊢; replace hc := Ctx.n7 hc; refine ⟨fun j hj hb => ⟨fun _ => hc.cell (k := 23) rfl rfl rfl, fun e => nja hj e, fun e => nja hj e, trivial⟩, ?_⟩; have hln := Ctx.rdLen hc (k := 9) rfl rfl reads_own; obtain ⟨b209, o210, u211, hi207, hi208⟩ := Ctx.rdAt hc (k := 9) rfl rfl reads_own ha185; clear hln; clear u211; refine ds rfl (fun w' hF => ixx rfl rfl U75 Z132 hi207 hi208 rfl) rfl <| ds (v := .pointer (some ⟨b147, o148 + (((x0.L.length : Nat) : Int)).toNat * 2 + 1, none⟩)) rfl (fun w' hF => fax 1 rfl U132 rfl Z110 rfl rfl rfl) rfl ?_; refine duE (Ctx.ownPutOp hc (k := 9) rfl rfl (z := [.slice a175 z172.length q176, .slice a144 y133.V.length q145]) (z' := [.slice a175 z172.length q176, .slice a204 z201.length q205]) ha185 1 rfl (u := .slice a204 z201.length q205) rfl rfl rfl Z110 (pAny_put rfl rfl) rfl) rfl rfl ?_; clear hc; rintro w212 hc; replace hc := Ctx.n9 hc; refine ⟨fun j hj hb => ⟨fun e => nja hj e, fun e => nja hj e, fun e => nja hj e, trivial⟩, ?_⟩; rw [← bigH_set (V := S_ref08_Kept.vp.r) (hs := hs184) (bs := j44.L) (i := ((x0.L.length : Nat) : Int)) [.slice a175 z172.length q176, .slice a204 z201.length q205]] at hc; have ha214 := idx_set ha185 ([.slice a175 z172.length q176, .slice a204 z201.length q205] : List Value); generalize hq215 : hs184.set (((x0.L.length : Nat) : Int)).toNat [.slice a175 z172.length q176, .slice a204 z201.length q205] = hs213 at hc ha214; refine dn (qn (Wseq (Wreg ?_))); refine au 1 rfl <| rn (qn (Wseq (Wseq (Wreg ?_)))); refine au 1 rfl <| rn (qn (Wblk ?_)); replace hc := hc.m [14, 14]; replace hc : Ctx w212 (S_ref08_Kept.vp.r [.slice a175 z172.length q176, .slice a204 z201.length q205] (⟨z172, z201⟩ : S_ref08_Kept) :: Own (pRo (pInt .i8)) 30 (.slice a199 1 1) ([r193]) :: hR .i8 a194 q196 r193 :: oR .i8 88 a116 q118 r115 :: Own (pRo (pInt .i8)) 30 (.slice a170 1 1) ([r164]) :: hR .i8 a165 q167 r164 :: oR .i8 88 a159 q161 r158 :: BigH S_ref08_Kept.vp.r hs213 j44.L ((x0.L.length : Nat) : Int) :: Own (pAny 2) 132 (.slice (some ⟨b147, o148, none⟩) j44.L.length q85) hs213 :: oR .i8 88 a128 q130 r127 :: oR .i8 88 a122 q124 r121 :: hR .i8 a95 q96 y86.First :: oR .i32 21 a46 q48 j45 :: B b111 (S_api_Block.cz y86 a95 q96 a97 q98 a99 q100 a101 q102 a103 q104 a105 q106 a107 q108 a109 q110) 97 :: hR .i8 a95 q96 y86.First :: hR .i8 a97 q98 y86.Second :: hR .i8 a99 q100 y86.Q.V :: hR .i8 a101 q102 y86.K.V :: hR .i8 a103 q104 y86.V.V :: hR .i8 a105 q106 y86.O.V :: hR .i8 a107 q108 y86.Up.V :: hR .i8 a109 q110 y86.Down.V :: B b0 [.int .i64 j44.W.Shape.Layers, .int .i64 j44.W.Shape.Width, .int .i64 j44.W.Shape.Heads, .int .i64 j44.W.Shape.Inner, .int .i64 j44.W.Shape.Vocab, .int .i64 j44.W.Shape.Places, .int .i64 j44.W.Embed.Rows, .int .i64 j44.W.Embed.Cols, .slice a76 j44.W.Embed.V.length q77, .slice (some ⟨b89, o90, none⟩) j44.W.Blocks.length q79, .slice a80 j44.W.Last.length q81, .int .i64 j44.W.Head.Rows, .int .i64 j44.W.Head.Cols, .slice a82 j44.W.Head.V.length q83, .slice (some ⟨b147, o148, none⟩) j44.L.length q85] 77 :: hR .i8 a76 q77 j44.W.Embed.V :: Hold (pRo S_api_Block.pr) [.slice (some ⟨b89, o90, none⟩) j44.W.Blocks.length q79] j44.W.Blocks :: hR .i8 a80 q81 j44.W.Last :: hR .i8 a82 q83 j44.W.Head.V :: B b11 (S_api_Shape.cz x0.W.Shape) 29 :: Fr) := Ctx.exB _ _ (Ctx.exB _ _ (Ctx.sepB (Ctx.sepB (Ctx.puB ⟨rfl, rfl⟩ hc)))); replace hc := hc.m [16, 16, 4]; replace hc := Ctx.bigB1 hc ha214 hy133; replace hc : Ctx w212 (OwnV S_ref08_Kept.vp 132 (.slice (some ⟨b147, o148, none⟩) j44.L.length q85) (j44.L.set (((x0.L.length : Nat) : Int)).toNat (⟨z172, z201⟩ : S_ref08_Kept)) :: Own (pRo (pInt .i8)) 30 (.slice a199 1 1) ([r193]) :: hR .i8 a194 q196 r193 :: oR .i8 88 a116 q118 r115 :: Own (pRo (pInt .i8)) 30 (.slice a170 1 1) ([r164]) :: hR .i8 a165 q167 r164 :: oR .i8 88 a159 q161 r158 :: oR .i8 88 a128 q130 r127 :: oR .i8 88 a122 q124 r121 :: hR .i8 a95 q96 y86.First :: oR .i32 21 a46 q48 j45 :: B b111 (S_api_Block.cz y86 a95 q96 a97 q98 a99 q100 a101 q102 a103 q104 a105 q106 a107 q108 a109 q110) 97 :: hR .i8 a95 q96 y86.First :: hR .i8 a97 q98 y86.Second :: hR .i8 a99 q100 y86.Q.V :: hR .i8 a101 q102 y86.K.V :: hR .i8 a103 q104 y86.V.V :: hR .i8 a105 q106 y86.O.V :: hR .i8 a107 q108 y86.Up.V :: hR .i8 a109 q110 y86.Down.V :: B b0 [.int .i64 j44.W.Shape.Layers, .int .i64 j44.W.Shape.Width, .int .i64 j44.W.Shape.Heads, .int .i64 j44.W.Shape.Inner, .int .i64 j44.W.Shape.Vocab, .int .i64 j44.W.Shape.Places, .int .i64 j44.W.Embed.Rows, .int .i64 j44.W.Embed.Cols, .slice a76 j44.W.Embed.V.length q77, .slice (some ⟨b89, o90, none⟩) j44.W.Blocks.length q79, .slice a80 j44.W.Last.length q81, .int .i64 j44.W.Head.Rows, .int .i64 j44.W.Head.Cols, .slice a82 j44.W.Head.V.length q83, .slice (some ⟨b147, o148, none⟩) j44.L.length q85] 77 :: hR .i8 a76 q77 j44.W.Embed.V :: Hold (pRo S_api_Block.pr) [.slice (some ⟨b89, o90, none⟩) j44.W.Blocks.length q79] j44.W.Blocks :: hR .i8 a80 q81 j44.W.Last :: hR .i8 a82 q83 j44.W.Head.V :: B b11 (S_api_Shape.cz x0.W.Shape) 29 :: Fr) := Ctx.ownVB hc.swap; replace hc := hc.m [48, 48, 48, 48, 48]; replace hc := S_ref08_Run.fd (x := (⟨j44.W, (j44.L.set (((x0.L.length : Nat) : Int)).toNat (⟨z172, z201⟩ : S_ref08_Kept))⟩ : S_ref08_Run)) hc; replace hc := hc.nilOwn (pInt .i8) 88; replace hc := hc.m [21, 19, 15, 13, 11, 9, 7, 5, 26, 4, 26, 26, 26, 26, 26, 26, 26, 26, 26, 26, 26]; refine Wloop (rg [14, 7, 149, 75]) [14, 15] (fun m vs w' => ∃ j216 : S_ref08_Run, ∃ j217 : (List Int), ∃ j221 : Int, ∃ a218 n219 q220, vs = [.slice a218 n219 q220, .int .i64 j221] ∧ ref08_Run_One.L3 N x0 e16 j45 j49 y86 r127 (ref08_Run_One.L2 N x0 e16 m2) m j216 j217 j221 = some r ∧ Ctx w' (oR .i8 88 a128 q130 r127 :: oR .i32 21 a46 q48 j45 :: B b111 (S_api_Block.cz y86 a95 q96 a97 q98 a99 q100 a101 q102 a103 q104 a105 q106 a107 q108 a109 q110) 97 :: hR .i8 a95 q96 y86.First :: hR .i8 a97 q98 y86.Second :: hR .i8 a99 q100 y86.Q.V :: hR .i8 a101 q102 y86.K.V :: hR .i8 a103 q104 y86.V.V :: hR .i8 a105 q106 y86.O.V :: hR .i8 a107 q108 y86.Up.V :: hR .i8 a109 q110 y86.Down.V :: S_ref08_Run.hp b0 j216 :: B b11 (S_api_Shape.cz x0.W.Shape) 29 :: Own (pInt .i8) 88 (.slice a218 n219 q220) j217 :: Fr)) N ?_ ?_
         · exact ⟨(⟨j44.W, (j44.L.set (((x0.L.length : Nat) : Int)).toNat (⟨z172, z201⟩ : S_ref08_Kept))⟩ : S_ref08_Run), [], 0, none, 0, 0, rfl, hp, hc⟩
         · clear hp hc; intro m vs u w222 hJ; obtain ⟨j216, j217, j221, a218, n219, q220, rfl, hp, hc⟩ := hJ; obtain rfl := hc.rz 13 reads_own; rcases m with _ | m3
           · cases (show none = some r from hp)
           rw [ref08_Run_One.L3] at hp; refine Wseq (Wseq (Wreg ?_)); refine au 1 rfl ?_; refine fq 2 U29 Z3 G3 hc 12 ?_; refine au 1 rfl <| rn (qn ?_); refine Wif hp (fun _ hp => ?_) fun _ hp => ?_
           · refine Wexit (qx (qx (be (qn (Wseq (Wreg ?_)))))); refine sz (v := pt b111 11) (fax 11 rfl U97 rfl Z32 rfl rfl rfl) <| lg G32 Z32 hc 2 ?_; refine au 1 rfl ?_; replace hc := hc.dz 8; obtain ⟨r225, hr225, hp⟩ := bind_some hp; replace hc := hc.m [28, 2]; refine kz C18 ?_; refine ref04_Apply_any (x0 := y86.O) reads_own hc hr225 ?_; clear hc; intro a226 n227 q228 w229 hc; obtain rfl := hc.rz 0 reads_own; refine au 5 rfl <| rn (qn (Wseq (Wreg ?_))); refine au 2 rfl ?_; obtain ⟨r231, hr231, hp⟩ := bind_some hp; replace hc := hc.m [6]; refine kz C57 ?_; refine ref05_Join_any reads_own reads_own hc hr231 ?_; clear hc; intro a232 n233 q234 w235 hc; obtain rfl := hc.rz 0 reads_own; refine au 1 rfl <| rn (qn (Wseq ?_)); replace hc := hc.drew; refine Wdrw (fun j w' => (j = 1 → ∀ j v, ((S_api_Mat.cz y86.Up a107 q108) : List Value)[j]? = some v → w'.cell? ((⟨b111, 14, none⟩ : Addr).add j) = some v) ∧ True) [0, 1, 0, 4, 0, 28, 63, 127] 0 8 rfl (by kernel_rfl) (fun j hj => ⟨fun _ => Ctx.cells hc (k := 5) rfl rfl 14 (vs := (S_api_Mat.cz y86.Up a107 q108)) rfl, trivial⟩) ?_; generalize hw : World.drew w235 = w237 at *; clear hw; refine ds (v := pt b111 14) rfl (fun w' hF => fax 14 rfl U97 rfl Z32 rfl rfl rfl) rfl <| ds (v := .agg (S_api_Mat.cz y86.Up a107 q108).toArray) rfl (fun w' hF => ldg rfl G32 Z32 rfl (hF.1 rfl)) rfl <| ds (v := pt b111 1) rfl (fun w' hF => fax 1 rfl U97 rfl Z30 rfl rfl rfl) rfl <| dx rfl (ld rfl G30 (Ctx.cell hc (k := 5) rfl rfl rfl)) rfl rfl <| ad_ 1 rfl ?_; replace hc := hc.dz 7; obtain ⟨r238, hr238, hp⟩ := bind_some hp; replace hc := hc.m [2, 2]; refine dc (cl C19 rfl rfl) rfl rfl ?_; refine ref05_Norm_any reads_ro reads_own hc hr238 ?_; clear hc; intro a239 n240 q241 w242 hc; obtain rfl := hc.rz 0 reads_own; refine ⟨fun j hj hb => ⟨fun _ => Ctx.cells hc (k := 7) rfl rfl 14 (vs := (S_api_Mat.cz y86.Up a107 q108)) rfl, trivial⟩, ?_⟩; replace hc := hc.dz 14; obtain ⟨r244, hr244, hp⟩ := bind_some hp; replace hc := hc.m [2, 2]; refine dc (cl C56 rfl rfl) rfl rfl ?_; refine ref08_quants_any (x0 := y86.Up) reads_own hc hr244 ?_; clear hc; intro a245 n246 q247 w248 hc; obtain rfl := hc.rz 0 reads_own; refine ⟨fun j hj hb => ⟨fun e => nja hj e, trivial⟩, ?_⟩; refine ad_ 1 rfl <| dn (qn (Wseq (Wseq (Wreg ?_)))); refine au 1 rfl <| rn (qn (Wblk ?_)); replace hc := hc.m [15, 13, 11, 9, 5, 3]; refine Wloop (rg [24, 1, 241, 14]) [24] (fun m vs w' => ∃ j250 : (List Int), ∃ j254 : Int, vs = [.int .i64 j254] ∧ ref08_Run_One.L4 N j49 y86 j216 r231 r244 (ref08_Run_One.L2 N x0 e16 m2) m j250 j254 = some r ∧ Ctx w' (Own (pInt .i8) 88 (.slice a245 r244.length q247) j250 :: oR .i32 21 a232 q234 r231 :: B b111 (S_api_Block.cz y86 a95 q96 a97 q98 a99 q100 a101 q102 a103 q104 a105 q106 a107 q108 a109 q110) 97 :: hR .i8 a95 q96 y86.First :: hR .i8 a97 q98 y86.Second :: hR .i8 a99 q100 y86.Q.V :: hR .i8 a101 q102 y86.K.V :: hR .i8 a103 q104 y86.V.V :: hR .i8 a105 q106 y86.O.V :: hR .i8 a107 q108 y86.Up.V :: hR .i8 a109 q110 y86.Down.V :: S_ref08_Run.hp b0 j216 :: B b11 (S_api_Shape.cz x0.W.Shape) 29 :: Fr)) N ?_ ?_
             · exact ⟨r244, 0, rfl, hp, hc⟩
             · clear hp hc; intro m vs u w255 hJ; obtain ⟨j250, j254, rfl, hp, hc⟩ := hJ; rcases m with _ | m4
               · cases (show none = some r from hp)
               rw [ref08_Run_One.L4] at hp; refine Wseq (Wseq (Wreg ?_)); refine au 2 rfl <| sz (ln rfl U30) <| au 1 rfl <| rn (qn ?_); refine Wif hp (fun _ hp => ?_) fun _ hp => ?_
               · refine Wexit (qx (qx (be (qn (Wseq (Wreg ?_)))))); refine sz (v := pt b111 17) (fax 17 rfl U97 rfl Z32 rfl rfl rfl) <| lg G32 Z32 hc 2 ?_; refine au 1 rfl ?_; replace hc := hc.dz 10; obtain ⟨r257, hr257, hp⟩ := bind_some hp; replace hc := hc.m [2, 2]; refine kz C18 ?_; refine ref04_Apply_any (x0 := y86.Down) reads_own hc hr257 ?_; clear hc; intro a258 n259 q260 w261 hc; obtain rfl := hc.rz 0 reads_own; refine au 5 rfl <| rn (qn (Wreg ?_)); refine au 2 rfl ?_; obtain ⟨r263, hr263, hp⟩ := bind_some hp; replace hc := hc.m [4]; refine kz C57 ?_; refine ref05_Join_any reads_own reads_own hc hr263 ?_; clear hc; intro a264 n265 q266 w267 hc; obtain rfl := hc.rz 0 reads_own; refine au 1 rfl <| rn (bn (qn (Wreg ?_))); refine au 3 rfl <| rn (qn ?_); replace hc := hc.m [25, 23, 21, 19, 17, 15, 13, 11, 9, 7, 5, 3, 4, 4]; exact ⟨m2, Nat.lt_succ_self _, ⟨j216, r263, (IntKind.i64.wrap (j49 + 1)), a264, r263.length, q266, rfl, hp, hc⟩, (kl rfl (km rfl (kl rfl (km rfl (kl rfl k0)))))⟩
               · refine Wskip (qn ?_); refine Wseqm (rg [247, 8]) [] (fun vs w' => ∃ j269 : (List Int), vs = [] ∧ ref08_Run_One.J5 j254 (ref08_Run_One.L4 N j49 y86 j216 r231 r244 (ref08_Run_One.L2 N x0 e16 m2) m4) j269 = some r ∧ Ctx w' (Own (pInt .i8) 88 (.slice a245 r244.length q247) j269 :: oR .i32 21 a232 q234 r231 :: B b111 (S_api_Block.cz y86 a95 q96 a97 q98 a99 q100 a101 q102 a103 q104 a105 q106 a107 q108 a109 q110) 97 :: hR .i8 a95 q96 y86.First :: hR .i8 a97 q98 y86.Second :: hR .i8 a99 q100 y86.Q.V :: hR .i8 a101 q102 y86.K.V :: hR .i8 a103 q104 y86.V.V :: hR .i8 a105 q106 y86.O.V :: hR .i8 a107 q108 y86.Up.V :: hR .i8 a109 q110 y86.Down.V :: S_ref08_Run.hp b0 j216 :: B b11 (S_api_Shape.cz x0.W.Shape) 29 :: Fr)) ?_ ?_
                 · refine Wblk (Wseq (Wreg ?_)); refine au 2 rfl ?_; obtain ⟨y273, hy273, hp⟩ := bind_some hp; obtain ⟨b276, o277, rfl, hi274, hi275⟩ := hc.ra 0 reads_own hy273; refine sz (ixx rfl rfl U30 Z88 hi274 hi275 rfl) ?_; have hcell280 := hc.rv 0 reads_own hy273; refine sz (ld rfl G88 (hcell280 0 _ rfl)) <| au 1 rfl <| rn (qn ?_); refine Wif hp (fun _ hp => ?_) fun _ hp => ?_
                   · refine Wskip (bn (qn ?_)); exact ⟨⟨j250, rfl, hp, hc⟩, (kl rfl kb)⟩
                   · refine Wreg <| au 2 rfl ?_; obtain ⟨y283, hy283, hp⟩ := bind_some hp; obtain ⟨b286, o287, -, hi284, hi285⟩ := hc.ra 0 reads_own hy283; refine sz (ixx rfl rfl U30 Z88 hi284 hi285 rfl) ?_; refine ruE (Ctx.ownPutOp hc (k := 0) rfl rfl (z := y283) (z' := 0) hy283 0 rfl (u := .int .i8 0) rfl rfl rfl Z88 (fun _ _ _ h => by cases h; rfl) rfl) rfl ?_; clear hc; rintro w289 hc; replace hc := Ctx.n0 hc; refine rn (bn (qn ?_)); exact ⟨⟨(j250.set (j254).toNat 0), rfl, hp, hc⟩, (kl rfl kb)⟩
                 · clear hp hc; intro vs u w290 hJ; obtain ⟨j269, rfl, hp, hc⟩ := hJ; unfold ref08_Run_One.J5 at hp; refine Wreg <| au 3 rfl <| rn (qn ?_); exact ⟨m4, Nat.lt_succ_self _, ⟨j269, (IntKind.i64.wrap (j254 + 1)), rfl, hp, hc⟩, (kl rfl (km rfl (kl rfl k0)))⟩
           · refine Wskip (qn (Wseq (Wblk (Wseq (Wreg ?_))))); refine au 1 rfl <| rn (qn (Wseq (Wreg ?_))); refine au 1 rfl <| rn (qn (Wseq (Wseq (Wreg ?_)))); refine au 1 rfl <| rn (qn (Wblk ?_)); replace hc := hc.nilOwn (pInt .i32) 21; replace hc := hc.nilOwn (pRo (pInt .i8)) 30; replace hc := hc.m [2, 30, 30, 30, 30, 30, 30, 30, 30, 30, 30, 30, 30, 30, 30]; refine Wloop (rg [16, 3, 155, 59]) [16, 17, 18] (fun m vs w' => ∃ j291 : (List Int), ∃ j295 : (List (List Int)), ∃ j299 : Int, ∃ a292 n293, ∃ q294 a296, ∃ n297 q298, vs = [.slice a292 n293 q294, .slice a296 n297 q298, .int .i64 j299] ∧ ref08_Run_One.L6 N x0 e16 j49 r127 j216 j217 j221 (ref08_Run_One.L3 N x0 e16 j45 j49 y86 r127 (ref08_Run_One.L2 N x0 e16 m2) m3) m j291 j295 j299 = some r ∧ Ctx w' (oR .i8 88 a128 q130 r127 :: oR .i32 21 a46 q48 j45 :: B b111 (S_api_Block.cz y86 a95 q96 a97 q98 a99 q100 a101 q102 a103 q104 a105 q106 a107 q108 a109 q110) 97 :: hR .i8 a95 q96 y86.First :: hR .i8 a97 q98 y86.Second :: hR .i8 a99 q100 y86.Q.V :: hR .i8 a101 q102 y86.K.V :: hR .i8 a103 q104 y86.V.V :: hR .i8 a105 q106 y86.O.V :: hR .i8 a107 q108 y86.Up.V :: hR .i8 a109 q110 y86.Down.V :: S_ref08_Run.hp b0 j216 :: B b11 (S_api_Shape.cz x0.W.Shape) 29 :: oR .i8 88 a218 q220 j217 :: Own (pInt .i32) 21 (.slice a292 n293 q294) j291 :: Own (pRo (pInt .i8)) 30 (.slice a296 n297 q298) j295 :: Fr)) N ?_ ?_
             · exact ⟨[], [], 0, none, 0, 0, none, 0, 0, rfl, hp, hc⟩
             · clear hp hc; intro m vs u w300 hJ; obtain ⟨j291, j295, j299, a292, n293, q294, a296, n297, q298, rfl, hp, hc⟩ := hJ; obtain rfl := hc.rz 14 reads_own; obtain rfl := hc.rz 15 reads_own; rcases m with _ | m6
               · cases (show none = some r from hp)
               rw [ref08_Run_One.L6] at hp; refine Wseq (Wseq (Wreg ?_)); refine au 3 rfl <| rn (qn ?_); refine Wif hp (fun _ hp => ?_) fun _ hp => ?_
               · refine Wexit (qx (qx (be (qn (Wseq (Wreg ?_)))))); refine au 1 rfl ?_; obtain ⟨r304, hr304, hp⟩ := bind_some hp; replace hc := hc.m [28]; refine kz C47 ?_; refine ref05_Softmax_any reads_own hc hr304 ?_; clear hc; intro a305 n306 q307 w308 hc; obtain rfl := hc.rz 0 reads_own; refine au 1 rfl ?_; obtain ⟨r310, hr310, hp⟩ := bind_some hp; replace hc := hc.m [32, 2]; refine kz C46 ?_; refine ref05_Mix_any reads_own reads_own hc hr310 ?_; clear hc; intro a311 n312 q313 w314 hc; obtain rfl := hc.rz 0 reads_own; refine au 5 rfl <| rn (qn (Wreg ?_)); refine au 2 rfl ?_; obtain ⟨z316, hz316, hp⟩ := bind_some hp; obtain ⟨hg317, e318⟩ := app_some hz316; refine rsE (hc.ap 17 0 reads_own U30 Tryz.t88 hg317) rfl ?_; clear hc; rintro _ w321 ⟨a319, q320, rfl, hc⟩; rw [← e318] at hc ⊢; replace hc := Ctx.n17 hc; refine au 1 rfl <| rn (bn (qn (Wreg ?_))); refine au 3 rfl <| rn (qn ?_); replace hc := hc.m [7, 5, 3, 1]; exact ⟨m3, Nat.lt_succ_self _, ⟨j216, z316, (IntKind.i64.wrap (j221 + 1)), a319, z316.length, q320, rfl, hp, hc⟩, (kl rfl (km rfl (kl rfl k0)))⟩
               · refine Wskip (qn (Wseq (Wblk (Wseq ?_)))); replace hc := hc.m [22]; replace hc := S_ref08_Run.uf hc; obtain ⟨a322, q323, a324, q325, a326, q327, a328, q329, a330, q331, hc⟩ := hc; replace hc := hc.drew; refine Wdrw (fun j w' => True) (0 :: 0 :: 0 :: 0 :: 12 :: 0 :: 32 :: 0 :: 224 :: 510 :: 0 :: 1024 :: 3072 :: 7168 :: 0 :: 31744 :: 64512 :: 130048 :: 0 :: 523264 :: 1047552 :: 0 :: 0 :: 6291456 :: 0 :: 16777216 :: 0 :: 117440512 :: 268434432 :: 536870910 :: 1073741822 :: 2147483647 :: 4294967295 :: []) 0 1187840 rfl (by kernel_rfl) (fun _ _ => trivial) ?_; generalize hw : World.drew w300 = w332 at *; clear hw; refine ad_ 9 rfl ?_; obtain ⟨hg333, hp⟩ := chk_some hp; obtain ⟨hl337, hq338⟩ := Ctx.rdLen hc (k := 6) rfl rfl reads_own; have rd336 := reads_sub (lo := ((IntKind.i64.wrap (j221 * e16))).toNat) (hi := ((IntKind.i64.wrap ((IntKind.i64.wrap (j221 + 1)) * e16))).toNat) ((reads_own : Reads (oR .i8 88 a128 q130 r127) (pInt .i8) (.slice a128 r127.length q130) r127)) (by omega) (by omega); refine ds (v := .slice (if q130 = ((IntKind.i64.wrap (j221 * e16))).toNat then a128 else Option.map (fun x => x.add (((IntKind.i64.wrap (j221 * e16))).toNat * 1)) a128) (((IntKind.i64.wrap ((IntKind.i64.wrap (j221 + 1)) * e16))).toNat - ((IntKind.i64.wrap (j221 * e16))).toNat) (q130 - ((IntKind.i64.wrap (j221 * e16))).toNat)) rfl (fun w' hF => run_sub (li := some (IntKind.i64.wrap (j221 * e16))) (hi' := some (IntKind.i64.wrap ((IntKind.i64.wrap (j221 + 1)) * e16))) rfl ⟨_, rfl⟩ ⟨_, rfl⟩ U30 Z88 hg333 hq338) rfl <| ad_ 2 rfl <| ds (v := pt b0 14) rfl (fun w' hF => fax 14 rfl U77 rfl Z75 rfl rfl rfl) rfl <| dx rfl (ld rfl G75 (Ctx.cell hc (k := 0) rfl rfl rfl)) rfl rfl <| ad_ 1 rfl ?_; obtain ⟨y339, hy339, hp⟩ := bind_some hp; replace hc := hc.m [10]; replace hc := Ctx.ownVF hc; obtain ⟨hs340, hl343, hc⟩ := hc; replace hc := Ctx.bigF hc.swap hy339; obtain ⟨a342, ha341, hc⟩ := hc; replace hc := Ctx.exF hc; obtain ⟨v345, hc⟩ := hc; replace hc := Ctx.exF hc; obtain ⟨v346, hc⟩ := hc; replace hc := Ctx.sepF hc; replace hc := Ctx.sepF hc; replace hc := Ctx.puF hc; obtain ⟨⟨u344, _⟩, hc⟩ := hc; subst u344; obtain ⟨a347, q348, u349⟩ := hc.rd (k := 0) rfl rfl reads_own; subst u349; obtain ⟨a350, q351, u352⟩ := hc.rd (k := 1) rfl rfl reads_own; subst u352; have hln := Ctx.rdLen hc (k := 3) rfl rfl reads_own; obtain ⟨b355, o356, u357, hi353, hi354⟩ := Ctx.rdAt hc (k := 3) rfl rfl reads_own ha341; clear hln; subst u357; refine ds rfl (fun w' hF => ixx rfl rfl U75 Z132 hi353 hi354 rfl) rfl <| ds (v := .pointer (some ⟨b355, o356 + (j299).toNat * 2 + 0, none⟩)) rfl (fun w' hF => fax 0 rfl U132 rfl Z110 rfl rfl rfl) rfl <| dx rfl (ld rfl G110 (Ctx.rdAny hc (k := 3) rfl rfl ha341 0 _ rfl)) rfl rfl <| ad_ 1 rfl ?_; obtain ⟨y358, hy358, hp⟩ := bind_some hp; obtain ⟨b361, o362, rfl, hi359, hi360⟩ := hc.ra 0 reads_own hy358; refine ds rfl (fun w' hF => ixx rfl rfl U110 Z30 hi359 hi360 rfl) rfl ?_; replace hc := Ctx.rdCell hc (k := 0) rfl rfl reads_own hy358; obtain ⟨cs364, hc, hcell365⟩ := hc; replace hc := Ctx.holdRo hc; obtain ⟨v369, u366, hc⟩ := hc; subst u366; obtain ⟨a367, q368, u366⟩ := hc.rd (k := 0) rfl rfl reads_ro; subst u366; refine dx rfl (ld rfl G30 (hcell365 0 _ rfl)) rfl rfl <| ad_ 7 rfl ?_; obtain ⟨hg370, hp⟩ := chk_some hp; obtain ⟨hl374, hq375⟩ := Ctx.rdLen hc (k := 0) rfl rfl reads_ro; have rd373 := reads_sub (lo := ((IntKind.i64.wrap (j221 * e16))).toNat) (hi := ((IntKind.i64.wrap ((IntKind.i64.wrap (j221 + 1)) * e16))).toNat) ((reads_ro : Reads (hR .i8 a367 q368 y358) (pInt .i8) (.slice a367 y358.length q368) y358)) (by omega) (by omega); refine ds (v := .slice (if q368 = ((IntKind.i64.wrap (j221 * e16))).toNat then a367 else Option.map (fun x => x.add (((IntKind.i64.wrap (j221 * e16))).toNat * 1)) a367) (((IntKind.i64.wrap ((IntKind.i64.wrap (j221 + 1)) * e16))).toNat - ((IntKind.i64.wrap (j221 * e16))).toNat) (q368 - ((IntKind.i64.wrap (j221 * e16))).toNat)) rfl (fun w' hF => run_sub (li := some (IntKind.i64.wrap (j221 * e16))) (hi' := some (IntKind.i64.wrap ((IntKind.i64.wrap (j221 + 1)) * e16))) rfl ⟨_, rfl⟩ ⟨_, rfl⟩ U30 Z88 hg370 hq375) rfl ?_; replace hc := hc.dz 0; obtain ⟨r376, hr376, hp⟩ := bind_some hp; replace hc := hc.m [22]; refine dc (cl C45 rfl rfl) rfl rfl ?_; refine ref01_Dot_any rd336 rd373 hc hr376 ?_; clear hc; intro w377 hc; refine ⟨fun j hj hb => trivial, ?_⟩; refine deE (oneI hc U51 Z21 V21) rfl rfl ?_; clear hc; rintro _ w379 ⟨a378, rfl, hc⟩; refine ⟨fun j hj hb => trivial, ?_⟩; obtain ⟨z380, hz380, hp⟩ := bind_some hp; obtain ⟨hg381, e382⟩ := app_some hz380; refine deE (hc.ap 25 0 reads_own U51 Tryz.t21 hg381) rfl rfl ?_; clear hc; rintro _ w385 ⟨a383, q384, rfl, hc⟩; rw [← e382] at hc ⊢; replace hc := Ctx.n25 hc; refine ⟨fun j hj hb => trivial, ?_⟩; refine ad_ 1 rfl <| dn (qn (Wreg ?_)); refine au 3 rfl ?_; refine fq 14 U77 Z75 G75 hc 8 ?_; refine au 1 rfl ?_; have hln := Ctx.rdLen hc (k := 7) rfl rfl reads_own; obtain ⟨b388, o389, u390, hi386, hi387⟩ := Ctx.rdAt hc (k := 7) rfl rfl reads_own ha341; clear hln; clear u390; refine sz (ixx rfl rfl U75 Z132 hi386 hi387 rfl) <| sz (v := .pointer (some ⟨b355, o356 + (j299).toNat * 2 + 1, none⟩)) (fax 1 rfl U132 rfl Z110 rfl rfl rfl) <| sz (ld rfl G110 (Ctx.rdAny hc (k := 7) rfl rfl ha341 1 _ rfl)) <| au 1 rfl ?_; obtain ⟨y391, hy391, hp⟩ := bind_some hp; obtain ⟨b394, o395, rfl, hi392, hi393⟩ := hc.ra 5 reads_own hy391; refine sz (ixx rfl rfl U110 Z30 hi392 hi393 rfl) ?_; replace hc := Ctx.rdCell hc (k := 5) rfl rfl reads_own hy391; obtain ⟨cs397, hc, hcell398⟩ := hc; replace hc := Ctx.holdRo hc; obtain ⟨v402, u399, hc⟩ := hc; subst u399; obtain ⟨a400, q401, u399⟩ := hc.rd (k := 0) rfl rfl reads_ro; subst u399; refine sz (ld rfl G30 (hcell398 0 _ rfl)) <| au 7 rfl ?_; obtain ⟨hg403, hp⟩ := chk_some hp; refine rsE (Ctx.subOp (li := some (IntKind.i64.wrap (j221 * e16))) (hi' := some (IntKind.i64.wrap ((IntKind.i64.wrap (j221 + 1)) * e16))) hc (k := 0) rfl rfl reads_ro rfl ⟨_, rfl⟩ ⟨_, rfl⟩ U30 Z88 hg403) rfl ?_; rintro _ _ ⟨rfl, a404, q405, rfl, rd406, ea407, eq408⟩; replace rd406 : Reads (hR .i8 a400 q401 y391) (pInt .i8) (.slice a404 (((IntKind.i64.wrap ((IntKind.i64.wrap (j221 + 1)) * e16))).toNat - ((IntKind.i64.wrap (j221 * e16))).toNat) q405) ((y391.take ((IntKind.i64.wrap ((IntKind.i64.wrap (j221 + 1)) * e16))).toNat).drop ((IntKind.i64.wrap (j221 * e16))).toNat) := rd406; replace hc := hc.dz 0; replace hc := Ctx.subRo (lo := ((IntKind.i64.wrap (j221 * e16))).toNat) (hi := ((IntKind.i64.wrap ((IntKind.i64.wrap (j221 + 1)) * e16))).toNat) hc (by omega) (by omega) ea407 rfl eq408; replace hc := hc.dz 0; refine rsE (Ctx.builtOp (css := [[.slice a404 (((IntKind.i64.wrap ((IntKind.i64.wrap (j221 + 1)) * e16))).toNat - ((IntKind.i64.wrap (j221 * e16))).toNat) q405]]) (xs := ([((y391.take ((IntKind.i64.wrap ((IntKind.i64.wrap (j221 + 1)) * e16))).toNat).drop ((IntKind.i64.wrap (j221 * e16))).toNat)] : List (List Int))) (E := (pRo (pInt .i8))) hc U110 Z30 V30 rfl rfl rfl rfl rfl rfl rfl rfl) rfl ?_; clear hc; rintro _ w410 ⟨a409, rfl, hc⟩; obtain ⟨z411, hz411, hp⟩ := bind_some hp; obtain ⟨hg412, e413⟩ := app_some hz411; refine rsE (hc.ap 29 0 reads_own U110 Tryz.t30 hg412) rfl ?_; clear hc; rintro _ w416 ⟨a414, q415, rfl, hc⟩; rw [← e413] at hc ⊢; replace hc := Ctx.n29 hc; refine au 1 rfl <| rn (bn (qn (Wreg ?_))); refine au 3 rfl <| rn (qn ?_); replace hc := hc.m [16, 16]; replace hc : Ctx w416 (S_ref08_Kept.vp.r [.slice (some ⟨b361, o362, none⟩) y339.K.length q348, .slice (some ⟨b394, o395, none⟩) y339.V.length q351] y339 :: Own (pRo (pInt .i8)) 30 (.slice a409 1 1) ([((y391.take ((IntKind.i64.wrap ((IntKind.i64.wrap (j221 + 1)) * e16))).toNat).drop ((IntKind.i64.wrap (j221 * e16))).toNat)]) :: Hold (pRo (pInt .i8)) [.slice a404 (((IntKind.i64.wrap ((IntKind.i64.wrap (j221 + 1)) * e16))).toNat - ((IntKind.i64.wrap (j221 * e16))).toNat) q405] ((y391.take ((IntKind.i64.wrap ((IntKind.i64.wrap (j221 + 1)) * e16))).toNat).drop ((IntKind.i64.wrap (j221 * e16))).toNat) :: hR .i8 a400 q401 y391 :: Own (pInt .i32) 21 (.slice a378 1 1) ([r376]) :: oR .i8 88 a128 q130 r127 :: hR .i8 a367 q368 y358 :: hR .i8 a367 q368 y358 :: BigH S_ref08_Kept.vp.r hs340 j216.L j299 :: Own (pAny 2) 132 (.slice (some ⟨b355, o356, none⟩) j216.L.length q331) hs340 :: B b0 [.int .i64 j216.W.Shape.Layers, .int .i64 j216.W.Shape.Width, .int .i64 j216.W.Shape.Heads, .int .i64 j216.W.Shape.Inner, .int .i64 j216.W.Shape.Vocab, .int .i64 j216.W.Shape.Places, .int .i64 j216.W.Embed.Rows, .int .i64 j216.W.Embed.Cols, .slice a322 j216.W.Embed.V.length q323, .slice a324 j216.W.Blocks.length q325, .slice a326 j216.W.Last.length q327, .int .i64 j216.W.Head.Rows, .int .i64 j216.W.Head.Cols, .slice a328 j216.W.Head.V.length q329, .slice (some ⟨b355, o356, none⟩) j216.L.length q331] 77 :: hR .i8 a322 q323 j216.W.Embed.V :: hS S_api_Block.pr a324 q325 j216.W.Blocks :: hR .i8 a326 q327 j216.W.Last :: hR .i8 a328 q329 j216.W.Head.V :: oR .i32 21 a46 q48 j45 :: B b111 (S_api_Block.cz y86 a95 q96 a97 q98 a99 q100 a101 q102 a103 q104 a105 q106 a107 q108 a109 q110) 97 :: hR .i8 a95 q96 y86.First :: hR .i8 a97 q98 y86.Second :: hR .i8 a99 q100 y86.Q.V :: hR .i8 a101 q102 y86.K.V :: hR .i8 a103 q104 y86.V.V :: hR .i8 a105 q106 y86.O.V :: hR .i8 a107 q108 y86.Up.V :: hR .i8 a109 q110 y86.Down.V :: B b11 (S_api_Shape.cz x0.W.Shape) 29 :: oR .i8 88 a218 q220 j217 :: oR .i32 21 a383 q384 z380 :: Own (pRo (pInt .i8)) 30 (.slice a414 z411.length q415) z411 :: Fr) := Ctx.exB _ _ (Ctx.exB _ _ (Ctx.sepB (Ctx.sepB (Ctx.puB ⟨rfl, rfl⟩ hc)))); replace hc := hc.m [18, 18, 4]; replace hc := Ctx.bigB0 hc ha341 hy339; replace hc : Ctx w416 (OwnV S_ref08_Kept.vp 132 (.slice (some ⟨b355, o356, none⟩) j216.L.length q331) j216.L :: Own (pRo (pInt .i8)) 30 (.slice a409 1 1) ([((y391.take ((IntKind.i64.wrap ((IntKind.i64.wrap (j221 + 1)) * e16))).toNat).drop ((IntKind.i64.wrap (j221 * e16))).toNat)]) :: Hold (pRo (pInt .i8)) [.slice a404 (((IntKind.i64.wrap ((IntKind.i64.wrap (j221 + 1)) * e16))).toNat - ((IntKind.i64.wrap (j221 * e16))).toNat) q405] ((y391.take ((IntKind.i64.wrap ((IntKind.i64.wrap (j221 + 1)) * e16))).toNat).drop ((IntKind.i64.wrap (j221 * e16))).toNat) :: hR .i8 a400 q401 y391 :: Own (pInt .i32) 21 (.slice a378 1 1) ([r376]) :: oR .i8 88 a128 q130 r127 :: hR .i8 a367 q368 y358 :: hR .i8 a367 q368 y358 :: B b0 [.int .i64 j216.W.Shape.Layers, .int .i64 j216.W.Shape.Width, .int .i64 j216.W.Shape.Heads, .int .i64 j216.W.Shape.Inner, .int .i64 j216.W.Shape.Vocab, .int .i64 j216.W.Shape.Places, .int .i64 j216.W.Embed.Rows, .int .i64 j216.W.Embed.Cols, .slice a322 j216.W.Embed.V.length q323, .slice a324 j216.W.Blocks.length q325, .slice a326 j216.W.Last.length q327, .int .i64 j216.W.Head.Rows, .int .i64 j216.W.Head.Cols, .slice a328 j216.W.Head.V.length q329, .slice (some ⟨b355, o356, none⟩) j216.L.length q331] 77 :: hR .i8 a322 q323 j216.W.Embed.V :: hS S_api_Block.pr a324 q325 j216.W.Blocks :: hR .i8 a326 q327 j216.W.Last :: hR .i8 a328 q329 j216.W.Head.V :: oR .i32 21 a46 q48 j45 :: B b111 (S_api_Block.cz y86 a95 q96 a97 q98 a99 q100 a101 q102 a103 q104 a105 q106 a107 q108 a109 q110) 97 :: hR .i8 a95 q96 y86.First :: hR .i8 a97 q98 y86.Second :: hR .i8 a99 q100 y86.Q.V :: hR .i8 a101 q102 y86.K.V :: hR .i8 a103 q104 y86.V.V :: hR .i8 a105 q106 y86.O.V :: hR .i8 a107 q108 y86.Up.V :: hR .i8 a109 q110 y86.Down.V :: B b11 (S_api_Shape.cz x0.W.Shape) 29 :: oR .i8 88 a218 q220 j217 :: oR .i32 21 a383 q384 z380 :: Own (pRo (pInt .i8)) 30 (.slice a414 z411.length q415) z411 :: Fr) := Ctx.ownVB hc.swap; replace hc := hc.m [24, 24, 24, 24, 24]; replace hc := S_ref08_Run.fd (x := j216) hc; replace hc := hc.m [15, 13, 9, 7, 5, 3, 30, 30, 30, 30, 8, 30, 30, 30, 30, 30, 30, 30, 30, 30, 30, 30]; exact ⟨m6, Nat.lt_succ_self _, ⟨z380, z411, (IntKind.i64.wrap (j299 + 1)), a383, z380.length, q384, a414, z411.length, q415, rfl, hp, hc⟩, (kl rfl k0)⟩
   · refine Wskip (qn (Wseq (Wblk ?_))); replace hc := hc.m [2]; replace hc := S_ref08_Run.uf hc; obtain ⟨a417, q418, a419, q420, a421, q422, a423, q424, a425, q426, hc⟩ := hc; replace hc := hc.drew; refine Wdrw (fun j w' => True) [0, 0, 2, 6, 14, 30, 62, 0, 0, 256, 896, 0, 3968, 8190, 16382, 32766, 65534, 131070, 262143, 524287] 0 16960 rfl (by kernel_rfl) (fun _ _ => trivial) ?_; generalize hw : World.drew w22 = w427 at *; clear hw; refine ad_ 3 rfl <| ds (v := pt b0 0) rfl (fun w' hF => fax 0 rfl U77 rfl Z35 rfl rfl rfl) rfl <| ds (v := pt b0 6) rfl (fun w' hF => fax 6 rfl U35 rfl Z32 rfl rfl rfl) rfl <| ds (v := pt b0 8) rfl (fun w' hF => fax 2 rfl U32 rfl Z30 rfl rfl rfl) rfl <| dx rfl (ld rfl G30 (Ctx.cell hc (k := 0) rfl rfl rfl)) rfl rfl <| ad_ 1 rfl <| ds (v := pt b11 1) rfl (fun w' hF => fax 1 rfl U29 rfl Z3 rfl rfl rfl) rfl <| dx rfl (ld rfl G3 (Ctx.cell hc (k := 6) rfl rfl rfl)) rfl rfl <| ad_ 3 rfl ?_; obtain ⟨y428, hy428, hp⟩ := bind_some hp; obtain ⟨b431, o432, rfl, hi429, hi430⟩ := hc.ra 1 reads_ro hy428; refine ds rfl (fun w' hF => ixx rfl rfl U30 Z88 hi429 hi430 rfl) rfl ?_; have hcell435 := hc.rv 1 reads_ro hy428; refine dx rfl (ld rfl G88 (hcell435 0 _ rfl)) rfl rfl <| ds rfl (fun w' hF => cvi rfl U88 U21) rfl <| ad_ 1 rfl ?_; refine deE (oneI hc U51 Z21 V21) rfl rfl ?_; clear hc; rintro _ w438 ⟨a437, rfl, hc⟩; refine ⟨fun j hj hb => trivial, ?_⟩; obtain ⟨z439, hz439, hp⟩ := bind_some hp; obtain ⟨hg440, e441⟩ := app_some hz439; refine deE (hc.ap 8 0 reads_own U51 Tryz.t21 hg440) rfl rfl ?_; clear hc; rintro _ w444 ⟨a442, q443, rfl, hc⟩; rw [← e441] at hc ⊢; replace hc := Ctx.n8 hc; refine ⟨fun j hj hb => trivial, ?_⟩; refine ad_ 1 rfl <| dn (bn (qn (Wreg ?_))); refine au 3 rfl <| rn (qn ?_); replace hc := hc.m [12, 12, 12, 12, 12, 12]; replace hc := S_ref08_Run.fd (x := x0) hc; replace hc := hc.m [3, 4, 2, 4]; exact ⟨m1, Nat.lt_succ_self _, ⟨z439, (IntKind.i64.wrap (j21 + 1)), a442, z439.length, q443, rfl, hp, hc⟩, (kl rfl k0)⟩

def ref04_Ints.L1 (x0 : (List Int)) (x1 : (List Int)) : Nat → Int → Option (Bool)
  | 0, _ => none
  | m1 + 1, j2 =>
    if j2 < ((x0.length : Nat) : Int) then
      (idx x0 j2).bind fun y6 =>
      (idx x1 j2).bind fun y15 =>
      if y6 ≠ y15 then
        some false
      else
        (ref04_Ints.L1 x0 x1 m1) (IntKind.i64.wrap (j2 + 1))
    else
      some true

def ref04_Ints (N : Nat) (x0 : (List Int)) (x1 : (List Int)) : Option (Bool) :=
  if ((x0.length : Nat) : Int) ≠ ((x1.length : Nat) : Int) then
    some false
  else
    ref04_Ints.L1 x0 x1 N 0

theorem ref04_Ints_any {N nx0 qx0 nx1 qx1 : Nat} {x0 x1 : (List Int)} {ax0 ax1 : Option Addr} {P0 P1 : HP} {Fr : List HP} {w : World} {r : Bool} {K : Value → World → Prop} (hrd0 : Reads P0 (pInt .i32) (.slice ax0 nx0 qx0) x0) (hrd1 : Reads P1 (pInt .i32) (.slice ax1 nx1 qx1) x1) (hc : Ctx w (P0 :: P1 :: Fr)) (hp : ref04_Ints N x0 x1 = some r)
    (k : ∀ w', Ctx w' (P0 :: P1 :: Fr) → K (.bool r) w') : Calls Tryz.prog 13 #[.slice ax0 nx0 qx0, .slice ax1 nx1 qx1] w (Ret K) := by
 unfold ref04_Ints at hp; refine Center2 F13 M13 rfl rfl ?_; obtain ⟨hn0, _⟩ := Ctx.rdLen hc (k := 0) rfl rfl hrd0; subst hn0; obtain ⟨hn1, _⟩ := Ctx.rdLen hc (k := 1) rfl rfl hrd1; subst hn1; refine Wseq (Wreg ?_); refine au 1 rfl <| rn (qn (Wseq (Wseq (Wreg ?_)))); refine au 1 rfl <| sz (ln rfl U51) <| au 1 rfl <| sz (ln rfl U51) <| au 1 rfl <| rn (qn ?_); refine Wif hp (fun _ hp => ?_) fun _ hp => ?_
 · refine Wskip (qn (Wseq (Wseq (Wreg ?_)))); refine au 1 rfl <| rn (qn (Wblk ?_)); refine Wloop (rg [4, 2, 11, 15]) [5] (fun m vs w' => ∃ j2 : Int, vs = [.int .i64 j2] ∧ ref04_Ints.L1 x0 x1 m j2 = some r ∧ Ctx w' (P0 :: P1 :: Fr)) N ?_ ?_
   · exact ⟨0, rfl, hp, hc⟩
   · clear hp hc; intro m vs u w3 hJ; obtain ⟨j2, rfl, hp, hc⟩ := hJ; rcases m with _ | m1
     · cases (show none = some r from hp)
     rw [ref04_Ints.L1] at hp; refine Wseq (Wseq (Wreg ?_)); refine au 2 rfl <| sz (ln rfl U51) <| au 1 rfl <| rn (qn ?_); refine Wif hp (fun _ hp => ?_) fun _ hp => ?_
     · refine Wexit (qx (qx (be (qn (Wseq (Wreg ?_)))))); refine au 1 rfl <| rn (qn (Wret ?_)); obtain rfl := sj hp; exact fz R13 M13 (k _ hc)
     · refine Wskip (qn (Wseq (Wblk (Wseq ?_)))); replace hc := hc.drew; refine Wdrw (fun _ w' => w' = World.drew w3) [0, 0, 3, 7, 0, 0, 48, 112, 255] 0 0 rfl (by kernel_rfl) (fun _ _ => rfl) ?_; generalize hw : World.drew w3 = w5 at *; clear hw; refine ad_ 2 rfl ?_; obtain ⟨y6, hy6, hp⟩ := bind_some hp; obtain ⟨b9, o10, rfl, hi7, hi8⟩ := hc.ra 0 hrd0 hy6; refine dE (ixx rfl rfl U51 Z21 hi7 hi8 rfl) rfl rfl ?_; have hcell13 := hc.rv 0 hrd0 hy6; refine dE (ld rfl G21 (hcell13 0 _ rfl)) rfl rfl <| ad_ 2 rfl ?_; obtain ⟨y15, hy15, hp⟩ := bind_some hp; obtain ⟨b18, o19, rfl, hi16, hi17⟩ := hc.ra 1 hrd1 hy15; refine dE (ixx rfl rfl U51 Z21 hi16 hi17 rfl) rfl rfl ?_; have hcell22 := hc.rv 1 hrd1 hy15; refine dE (ld rfl G21 (hcell22 0 _ rfl)) rfl rfl <| ad_ 1 rfl <| dn (qn ?_); refine Wif hp (fun _ hp => ?_) fun _ hp => ?_
       · refine Wskip (bn (qn (Wreg ?_))); refine au 3 rfl <| rn (qn ?_); exact ⟨m1, Nat.lt_succ_self _, ⟨(IntKind.i64.wrap (j2 + 1)), rfl, hp, hc⟩, (kl rfl k0)⟩
       · refine Wseq (Wreg ?_); refine au 1 rfl <| rn (qn (Wret (br (qr (qr (br (qr ?_))))))); obtain rfl := sj hp; exact fz R13 M13 (k _ hc)
 · refine Wseq (Wreg ?_); refine au 1 rfl <| rn (qn (Wret (qr ?_))); obtain rfl := sj hp; exact fz R13 M13 (k _ hc)

theorem bd_22_0_1_2_3_4_5 {ρ : Operand → Value} {w : World} {dst : Option Nat} {ty : TypeId} {pos : String} {after : Array Edge} {g : Option (Nat × Bool)} {x0 x1 x2 x3 x4 x5 : Operand} {k0 : IntKind} {a0 : Int} {k1 : IntKind} {a1 : Int} {k2 : IntKind} {a2 : Int} {k3 : IntKind} {a3 : Int} {k4 : IntKind} {a4 : Int} {k5 : IntKind} {a5 : Int} (h0 : ρ x0 = (.int k0 a0)) (h1 : ρ x1 = (.int k1 a1)) (h2 : ρ x2 = (.int k2 a2)) (h3 : ρ x3 = (.int k3 a3)) (h4 : ρ x4 = (.int k4 a4)) (h5 : ρ x5 = (.int k5 a5)) :
    (execOp ρ ⟨dst, .build 22 #[(0, x0), (1, x1), (2, x2), (3, x3), (4, x4), (5, x5)], ty, pos, after, g⟩).run Tryz.prog w = .ok (.value (.agg #[(.int k0 a0), (.int k1 a1), (.int k2 a2), (.int k3 a3), (.int k4 a4), (.int k5 a5)])) w := by
  simp [execOp, Instr.build, Instr.fill, Tryz.zeroValue22, Tryz.runUnderlying22, Tryz.sizeOf3, h0, h1, h2, h3, h4, h5, Value.cells]

theorem bd_37_0_1 {ρ : Operand → Value} {w : World} {dst : Option Nat} {ty : TypeId} {pos : String} {after : Array Edge} {g : Option (Nat × Bool)} {x0 x1 : Operand} {k0 : IntKind} {a0 : Int} {k1 : IntKind} {a1 : Int} (h0 : ρ x0 = (.int k0 a0)) (h1 : ρ x1 = (.int k1 a1)) :
    (execOp ρ ⟨dst, .build 37 #[(0, x0), (1, x1)], ty, pos, after, g⟩).run Tryz.prog w = .ok (.value (.agg #[(.int k0 a0), (.int k1 a1)])) w := by
  simp [execOp, Instr.build, Instr.fill, Tryz.zeroValue37, Tryz.runUnderlying37, Tryz.sizeOf3, h0, h1, Value.cells]

theorem bd_81_2 {ρ : Operand → Value} {w : World} {dst : Option Nat} {ty : TypeId} {pos : String} {after : Array Edge} {g : Option (Nat × Bool)} {x2 : Operand} {k2 : IntKind} {a2 : Int} (h2 : ρ x2 = (.int k2 a2)) :
    (execOp ρ ⟨dst, .build 81 #[(2, x2)], ty, pos, after, g⟩).run Tryz.prog w = .ok (.value (.agg #[(.int .i64 0), (.int .i64 0), (.int k2 a2), (.int .i64 0)])) w := by
  simp [execOp, Instr.build, Instr.fill, Tryz.zeroValue81, Tryz.runUnderlying81, Tryz.sizeOf3, h2, Value.cells]

theorem bd_77_0 {ρ : Operand → Value} {w : World} {dst : Option Nat} {ty : TypeId} {pos : String} {after : Array Edge} {g : Option (Nat × Bool)} {x0 : Operand} {c0_0 c0_1 c0_2 c0_3 c0_4 c0_5 c0_6 c0_7 c0_8 c0_9 c0_10 c0_11 c0_12 c0_13 : Value} (h0 : ρ x0 = .agg #[c0_0, c0_1, c0_2, c0_3, c0_4, c0_5, c0_6, c0_7, c0_8, c0_9, c0_10, c0_11, c0_12, c0_13]) :
    (execOp ρ ⟨dst, .build 77 #[(0, x0)], ty, pos, after, g⟩).run Tryz.prog w = .ok (.value (.agg #[c0_0, c0_1, c0_2, c0_3, c0_4, c0_5, c0_6, c0_7, c0_8, c0_9, c0_10, c0_11, c0_12, c0_13, (.slice none 0 0)])) w := by
  simp [execOp, Instr.build, Instr.fill, Tryz.zeroValue77, Tryz.runUnderlying77, Tryz.sizeOf35, Tryz.sizeOf75, h0, Value.cells]

def law13_awake (N : Nat) : Option (Bool) :=
  (ref08_Made N (⟨1, 1, 1, 3, 4, 4⟩ : A6_i64) 5 ([])).bind fun r1 =>
  (ref11_Take N r1 (⟨1, 1⟩ : S_api_Cut) 0 0).bind fun r23 =>
  (cache_New 100).bind fun r45 =>
  optc r45.1 (
    some false) fun y49 =>
  if r45.2 ≠ 0 then
    some false
  else
    (law13_through N ([r23]) ([y49]) (⟨0, 0, 1, 0⟩ : S_law13_run)).bind fun r58 =>
    if r58.2.1 = true then
      (ref08_Run_One N (⟨r1, []⟩ : S_ref08_Run) 1).bind fun r68 =>
      (ref04_Ints N r58.1 r68.1).bind fun r74 =>
      some r74
    else
      some false

theorem law13_awake_any {N : Nat} {Fr : List HP} {w : World} {r : Bool} {K : Value → World → Prop}  (hc : Ctx w (Fr)) (hp : law13_awake N = some r)
    (k : ∀ w', Ctx w' (Fr) → K (.bool r) w') : Calls Tryz.prog 7 #[] w (Ret K) := by
 unfold law13_awake at hp; refine Center (args := []) (l := []) F7 M7 rfl rfl rfl ?_; refine Wseq (Wreg ?_); refine au 1 rfl <| rn (qn (Wseq (Wreg ?_))); refine sz (v := .agg #[.int .i64 1, .int .i64 1, .int .i64 1, .int .i64 3, .int .i64 4, .int .i64 4]) (bd_22_0_1_2_3_4_5 rfl rfl rfl rfl rfl rfl) ?_; replace hc := hc.nilRo (pInt .i8); replace hc := hc.dz 0; obtain ⟨r1, hr1, hp⟩ := bind_some hp; refine kz C27 ?_; refine ref08_Made_any (x0 := (⟨1, 1, 1, 3, 4, 4⟩ : A6_i64)) reads_ro hc hr1 ?_; clear hc; intro a2 n3 q4 a5 n6 q7 a8 n9 q10 a11 n12 q13 w14 hc; obtain rfl := hc.rz 0 reads_ro; obtain rfl := hc.rz 1 reads_ro; obtain rfl := hc.rz 2 reads_ro; obtain rfl := hc.rz 3 reads_ro; refine rsE (Ctx.allocOp (cs := [.int .i64 0, .int .i64 0, .int .i64 0, .int .i64 0, .int .i64 0, .int .i64 0, .int .i64 0, .int .i64 0, .slice none 0 0, .slice none 0 0, .slice none 0 0, .int .i64 0, .int .i64 0, .slice none 0 0]) hc V35 rfl) rfl ?_; clear hc; rintro _ w21 ⟨b19, rfl, hc⟩; refine pa hc 0 Z35 ?_; clear hc; rintro w22 hc; refine rn (qn (Wseq (Wreg ?_))); refine lg G35 Z35 hc 0 ?_; refine sz (v := .agg #[.int .i64 1, .int .i64 1]) (bd_37_0_1 rfl rfl) ?_; replace hc := hc.dz 1; replace hc := hc.dz 3; replace hc := hc.dz 5; replace hc := hc.dz 7; obtain ⟨r23, hr23, hp⟩ := bind_some hp; replace hc := hc.m [2, 4, 6]; refine kz C9 ?_; refine ref11_Take_any (x0 := r1) (x1 := (⟨1, 1⟩ : S_api_Cut)) hc hr23 ?_; clear hc; intro a24 n25 q26 a27 n28 q29 a30 n31 q32 a33 n34 q35 w36 hc; obtain rfl := hc.rz 0 reads_ro; obtain rfl := hc.rz 1 reads_ro; obtain rfl := hc.rz 2 reads_ro; obtain rfl := hc.rz 3 reads_ro; refine rsE (Ctx.allocOp (cs := [.int .i64 0, .int .i64 0, .int .i64 0, .int .i64 0, .int .i64 0, .int .i64 0, .int .i64 0, .int .i64 0, .int .i64 0, .int .i64 0, .int .i64 0, .int .i64 0, .slice none 0 0, .slice none 0 0, .slice none 0 0, .int .i64 0, .int .i64 0, .slice none 0 0]) hc V41 rfl) rfl ?_; clear hc; rintro _ w43 ⟨b41, rfl, hc⟩; refine pa hc 0 Z41 ?_; clear hc; rintro w44 hc; refine rn (qn (Wseq (Wreg ?_))); obtain ⟨r45, hr45, hp⟩ := bind_some hp; refine kz C10 ?_; refine cache_New_any hc hr45 ?_; clear hc; intro v46 w47 hc; refine au 5 rfl <| rn (qn (Wseq (Wseq (Wreg ?_)))); refine au 1 rfl ?_; cases hb48 : r45.1
 · replace hp := optN hp hb48; rw [hb48] at hc; replace hc := Ctx.ptoN hc; obtain ⟨u50, hc⟩ := hc; subst u50; refine sz (v := .bool true) (ept U43 rfl rfl) <| au 1 rfl ?_; (iterate 2 refine r0 rfl ?_); refine au 1 rfl <| rn (qn (Wct rfl (Wseq (Wreg ?_)))); refine au 1 rfl <| rn (qn (Wret (qr ?_))); replace hc := hc.m [23, 21, 19, 17, 15, 13, 11, 9, 7, 5, 3, 1]; obtain rfl := sj hp; exact fz R7 M7 (k _ hc)
 · rename_i y49; replace hp := optS hp hb48; rw [hb48] at hc; replace hc := Ctx.ptoS hc; obtain ⟨b51, u52, hc⟩ := hc; subst u52; refine sz (v := .bool false) (epf U43 rfl rfl) <| au 4 rfl <| rn (qn ?_); refine Wif hp (fun _ hp => ?_) fun _ hp => ?_
   · refine Wskip (qn (Wseq (Wreg ?_))); refine lg G41 Z41 hc 1 ?_; replace hc := hc.dz 5; replace hc := hc.dz 5; replace hc := hc.dz 5; replace hc := hc.dz 5; replace hc : Ctx w47 (Hold S_api_Shard.pr (S_api_Shard.cz r23 a24 q26 a27 q29 a30 q32 a33 q35) r23 :: S_cache_Store.hp b51 y49 :: B b41 (S_api_Shard.cz r23 a24 q26 a27 q29 a30 q32 a33 q35) 41 :: hR .i8 a24 q26 r23.Embed.V :: hS S_api_Block.pr a27 q29 r23.Blocks :: hR .i8 a30 q32 r23.Last :: hR .i8 a33 q35 r23.Head.V :: B b19 (S_api_Weights.cz r1 a2 q4 a5 q7 a8 q10 a11 q13) 35 :: hR .i8 a2 q4 r1.Embed.V :: hS S_api_Block.pr a5 q7 r1.Blocks :: hR .i8 a8 q10 r1.Last :: hR .i8 a11 q13 r1.Head.V :: Hold (pRo (pInt .i8)) [.slice none 0 0] ([]) :: Hold (pRo (pInt .i8)) [.slice none 0 0] ([]) :: Fr) := S_api_Shard.cl hc; refine rsE (Ctx.builtOp (css := [(S_api_Shard.cz r23 a24 q26 a27 q29 a30 q32 a33 q35)]) (xs := ([r23] : List S_api_Shard)) (E := S_api_Shard.pr) hc U72 Z41 V41 rfl rfl rfl rfl rfl rfl rfl rfl) rfl ?_; clear hc; rintro _ w55 ⟨a54, rfl, hc⟩; refine au 1 rfl ?_; replace hc := hc.m [2]; replace hc : Ctx w55 ((vPt S_cache_Store.hp).r [pt b51 0] y49 :: Own S_api_Shard.pr 41 (.slice a54 1 1) ([r23]) :: B b41 (S_api_Shard.cz r23 a24 q26 a27 q29 a30 q32 a33 q35) 41 :: hR .i8 a24 q26 r23.Embed.V :: hS S_api_Block.pr a27 q29 r23.Blocks :: hR .i8 a30 q32 r23.Last :: hR .i8 a33 q35 r23.Head.V :: B b19 (S_api_Weights.cz r1 a2 q4 a5 q7 a8 q10 a11 q13) 35 :: hR .i8 a2 q4 r1.Embed.V :: hS S_api_Block.pr a5 q7 r1.Blocks :: hR .i8 a8 q10 r1.Last :: hR .i8 a11 q13 r1.Head.V :: Hold (pRo (pInt .i8)) [.slice none 0 0] ([]) :: Hold (pRo (pInt .i8)) [.slice none 0 0] ([]) :: Fr) := Ctx.exB _ _ (Ctx.sepB (Ctx.puB rfl hc)); replace hc := Ctx.anyB (m := 1) [pt b51 0] rfl rfl hc; refine rsE (Ctx.builtOp (css := [[pt b51 0]]) (xs := ([[pt b51 0]] : List (List Value))) (E := pAny 1) hc U73 Z43 V43 rfl rfl rfl rfl rfl rfl rfl rfl) rfl ?_; clear hc; rintro _ w57 ⟨a56, rfl, hc⟩; replace hc : Ctx w57 (OwnV (vPt S_cache_Store.hp) 43 (.slice a56 1 1) ([y49]) :: Own S_api_Shard.pr 41 (.slice a54 1 1) ([r23]) :: B b41 (S_api_Shard.cz r23 a24 q26 a27 q29 a30 q32 a33 q35) 41 :: hR .i8 a24 q26 r23.Embed.V :: hS S_api_Block.pr a27 q29 r23.Blocks :: hR .i8 a30 q32 r23.Last :: hR .i8 a33 q35 r23.Head.V :: B b19 (S_api_Weights.cz r1 a2 q4 a5 q7 a8 q10 a11 q13) 35 :: hR .i8 a2 q4 r1.Embed.V :: hS S_api_Block.pr a5 q7 r1.Blocks :: hR .i8 a8 q10 r1.Last :: hR .i8 a11 q13 r1.Head.V :: Hold (pRo (pInt .i8)) [.slice none 0 0] ([]) :: Hold (pRo (pInt .i8)) [.slice none 0 0] ([]) :: Fr) := Ctx.ownV1 hc; refine sz (v := .agg #[.int .i64 0, .int .i64 0, .int .i64 1, .int .i64 0]) (bd_81_2 rfl) ?_; obtain ⟨r58, hr58, hp⟩ := bind_some hp; replace hc := hc.m [2]; refine kz C20 ?_; refine law13_through_any (x0 := [r23]) (x2 := (⟨0, 0, 1, 0⟩ : S_law13_run)) reads_own hc hr58 ?_; clear hc; intro a59 n60 q61 w62 hc; obtain rfl := hc.rz 0 reads_own; refine au 5 rfl <| rn (qn (Wseq (Wreg ?_))); refine lg G35 Z35 hc 8 ?_; refine sz (v := .agg #[.int .i64 r1.Shape.Layers, .int .i64 r1.Shape.Width, .int .i64 r1.Shape.Heads, .int .i64 r1.Shape.Inner, .int .i64 r1.Shape.Vocab, .int .i64 r1.Shape.Places, .int .i64 r1.Embed.Rows, .int .i64 r1.Embed.Cols, .slice a2 r1.Embed.V.length q4, .slice a5 r1.Blocks.length q7, .slice a8 r1.Last.length q10, .int .i64 r1.Head.Rows, .int .i64 r1.Head.Cols, .slice a11 r1.Head.V.length q13, .slice none 0 0]) (bd_77_0 rfl) ?_; refine rsE (Ctx.boxOp (cs := [.int .i64 r1.Shape.Layers, .int .i64 r1.Shape.Width, .int .i64 r1.Shape.Heads, .int .i64 r1.Shape.Inner, .int .i64 r1.Shape.Vocab, .int .i64 r1.Shape.Places, .int .i64 r1.Embed.Rows, .int .i64 r1.Embed.Cols, .slice a2 r1.Embed.V.length q4, .slice a5 r1.Blocks.length q7, .slice a8 r1.Last.length q10, .int .i64 r1.Head.Rows, .int .i64 r1.Head.Cols, .slice a11 r1.Head.V.length q13, .slice none 0 0]) (v := .agg #[.int .i64 r1.Shape.Layers, .int .i64 r1.Shape.Width, .int .i64 r1.Shape.Heads, .int .i64 r1.Shape.Inner, .int .i64 r1.Shape.Vocab, .int .i64 r1.Shape.Places, .int .i64 r1.Embed.Rows, .int .i64 r1.Embed.Cols, .slice a2 r1.Embed.V.length q4, .slice a5 r1.Blocks.length q7, .slice a8 r1.Last.length q10, .int .i64 r1.Head.Rows, .int .i64 r1.Head.Cols, .slice a11 r1.Head.V.length q13, .slice none 0 0]) hc rfl rfl) rfl ?_; clear hc; rintro _ w66 ⟨b64, rfl, hc⟩; refine au 1 rfl <| rn (qn (Wseq (Wreg ?_))); refine au 2 rfl ?_; cases hb67 : r58.2.1
     · replace hp := gneg hp (by rw [hb67]; exact Bool.false_ne_true); (iterate 4 refine r0 rfl ?_); refine au 2 rfl <| rn (qn (Wret ?_)); replace hc := hc.m [31, 29, 27, 25, 23, 21, 19, 17, 15, 13, 11, 9, 7, 5, 3, 1]; obtain rfl := sj hp; exact fz R7 M7 (k _ hc)
     · replace hp := gpos hp hb67; refine au 2 rfl ?_; replace hc := hc.nilOwnV S_ref08_Kept.vp 132; replace hc := hc.m [28, 28, 28, 28, 10]; replace hc := S_ref08_Run.fd (x := (⟨r1, []⟩ : S_ref08_Run)) hc; obtain ⟨r68, hr68, hp⟩ := bind_some hp; refine kz C21 ?_; refine ref08_Run_One_any (x0 := (⟨r1, []⟩ : S_ref08_Run)) hc hr68 ?_; clear hc; intro a69 n70 q71 w72 hc; obtain rfl := hc.rz 0 reads_own; obtain ⟨r74, hr74, hp⟩ := bind_some hp; replace hc := hc.m [4]; refine kz C13 ?_; refine ref04_Ints_any reads_own reads_own hc hr74 ?_; clear hc; intro w75 hc; refine au 2 rfl <| rn (qn (Wret ?_)); replace hc := hc.m [25, 23, 21, 19, 17, 15, 13, 11, 9, 7, 5, 3, 1]; obtain rfl := sj hp; exact fz R7 M7 (k _ hc)
   · refine Wseq (Wreg ?_); refine au 1 rfl <| rn (qn (Wret (qr ?_))); replace hc := hc.m [25, 23, 21, 19, 17, 15, 13, 11, 9, 7, 5, 3, 1]; obtain rfl := sj hp; exact fz R7 M7 (k _ hc)

def ref10_Cut.J2 (j11 : Int) (k1 : (List Int) → Int → Option (S_api_Cut)) (j30 : (List Int)) : Option (S_api_Cut) :=
  k1 j30 (IntKind.i64.wrap (j11 + 1))

def ref10_Cut.J3 (j7 : (List Int)) (j11 : Int) (k1 : (List Int) → Int → Option (S_api_Cut)) (j34 : Bool) : Option (S_api_Cut) :=
  if j34 = true then
    (app j7 ([j11])).bind fun z42 =>
    ref10_Cut.J2 j11 k1 z42
  else
    ref10_Cut.J2 j11 k1 j7

def ref10_Cut.L1 (x0 : S_api_Shape) (x1 : Int) (x2 : Int) : Nat → (List Int) → Int → Option (S_api_Cut)
  | 0, _, _ => none
  | m1 + 1, j7, j11 =>
    if j11 ≤ x0.Heads then
      chk (j11 ≠ 0) <|
      if (Int.tmod x0.Heads j11) = 0 then
        chk (j11 ≠ 0) <|
        ref10_Cut.J3 j7 j11 (ref10_Cut.L1 x0 x1 x2 m1) (decide ((Int.tmod x0.Inner j11) = 0))
      else
        ref10_Cut.J3 j7 j11 (ref10_Cut.L1 x0 x1 x2 m1) false
    else
      chk (x0.Layers ≠ 0) <|
      chk (x0.Layers ≠ 0) <|
      chk (((j7.length : Nat) : Int) ≠ 0) <|
      chk (((j7.length : Nat) : Int) ≠ 0) <|
      (idx j7 (Int.tmod (IntKind.i64.wrap ((Int.tmod x2 ((j7.length : Nat) : Int)) + ((j7.length : Nat) : Int))) ((j7.length : Nat) : Int))).bind fun y20 =>
      some (⟨(IntKind.i64.wrap (1 + (Int.tmod (IntKind.i64.wrap ((Int.tmod x1 x0.Layers) + x0.Layers)) x0.Layers))), y20⟩ : S_api_Cut)

def ref10_Cut (N : Nat) (x0 : S_api_Shape) (x1 : Int) (x2 : Int) : Option (S_api_Cut) :=
  ref10_Cut.L1 x0 x1 x2 N ([]) 1

theorem ref10_Cut_any {N : Nat} {x0 : S_api_Shape} {x1 x2 : Int} {Fr : List HP} {w : World} {r : S_api_Cut} {K : Value → World → Prop}  (hc : Ctx w (Fr)) (hp : ref10_Cut N x0 x1 x2 = some r)
    (k : ∀ w', Ctx w' (Fr) → K (.agg #[.int .i64 r.Stages, .int .i64 r.Parts]) w') : Calls Tryz.prog 28 #[.agg (S_api_Shape.cz x0).toArray, .int .i64 x1, .int .i64 x2] w (Ret K) := by
 unfold ref10_Cut at hp; refine Center3 F28 M28 rfl rfl ?_; refine Wseq (Wreg ?_); refine rsE (Ctx.boxOp (cs := (S_api_Shape.cz x0)) (v := .agg (S_api_Shape.cz x0).toArray) hc rfl rfl) rfl ?_; clear hc; rintro _ w3 ⟨b1, rfl, hc⟩; refine rsE (Ctx.allocOp (cs := [.int .i64 0, .int .i64 0]) hc V37 rfl) rfl ?_; clear hc; rintro _ w6 ⟨b4, rfl, hc⟩; refine rn (qn (Wseq (Wreg ?_))); refine au 1 rfl <| rn (qn (Wseq (Wseq (Wreg ?_)))); refine au 1 rfl <| rn (qn (Wblk ?_)); replace hc := hc.nilOwn (pInt .i64) 3; replace hc := hc.m [4, 4]; refine Wloop (rg [7, 24]) [7, 8] (fun m vs w' => ∃ j7 : (List Int), ∃ j11 : Int, ∃ a8 n9 q10, vs = [.slice a8 n9 q10, .int .i64 j11] ∧ ref10_Cut.L1 x0 x1 x2 m j7 j11 = some r ∧ Ctx w' (B b4 [.int .i64 0, .int .i64 0] 37 :: B b1 (S_api_Shape.cz x0) 29 :: Own (pInt .i64) 3 (.slice a8 n9 q10) j7 :: Fr)) N ?_ ?_
 · exact ⟨[], 1, none, 0, 0, rfl, hp, hc⟩
 · clear hp hc; intro m vs u w12 hJ; obtain ⟨j7, j11, a8, n9, q10, rfl, hp, hc⟩ := hJ; obtain rfl := hc.rz 2 reads_own; rcases m with _ | m1
   · cases (show none = some r from hp)
   rw [ref10_Cut.L1] at hp; refine Wseq (Wseq (Wreg ?_)); refine au 1 rfl ?_; refine fq 2 U29 Z3 G3 hc 1 ?_; refine au 1 rfl <| rn (qn ?_); refine Wif hp (fun _ h => ?_) fun _ h => ?_
   · replace hp := h; clear h; refine Wexit (qx (qx (be (qn (Wseq ?_))))); replace hc := hc.drew; refine Wdrw (fun j w' => True) [0, 0, 2, 7, 0, 16, 63, 0, 128, 511, 1023, 0, 0, 0, 8192, 28672, 0, 65536, 258048, 0, 524288, 2093056, 4192256, 8386560, 16777215, 33554431] 0 9584932 rfl (by kernel_rfl) (fun _ _ => trivial) ?_; generalize hw : World.drew w12 = w15 at *; clear hw; refine ad_ 1 rfl <| ds (v := pt b1 0) rfl (fun w' hF => fax 0 rfl U29 rfl Z3 rfl rfl rfl) rfl <| dx rfl (ld rfl G3 (Ctx.cell hc (k := 1) rfl rfl rfl)) rfl rfl ?_; replace hp := chk_some hp; obtain ⟨hg16, hp⟩ := hp; refine ds rfl (fun w' hF => rm rfl rfl hg16) rfl <| ds (v := pt b1 0) rfl (fun w' hF => fax 0 rfl U29 rfl Z3 rfl rfl rfl) rfl <| dx rfl (ld rfl G3 (Ctx.cell hc (k := 1) rfl rfl rfl)) rfl rfl <| ad_ 1 rfl <| ds (v := pt b1 0) rfl (fun w' hF => fax 0 rfl U29 rfl Z3 rfl rfl rfl) rfl <| dx rfl (ld rfl G3 (Ctx.cell hc (k := 1) rfl rfl rfl)) rfl rfl ?_; replace hp := chk_some hp; obtain ⟨hg17, hp⟩ := hp; refine ds rfl (fun w' hF => rm rfl rfl hg17) rfl <| ad_ 4 rfl <| dx rfl (ln rfl U71) rfl rfl ?_; replace hp := chk_some hp; obtain ⟨hg18, hp⟩ := hp; refine ds rfl (fun w' hF => rm rfl rfl hg18) rfl <| ad_ 1 rfl <| dx rfl (ln rfl U71) rfl rfl <| ad_ 2 rfl <| dx rfl (ln rfl U71) rfl rfl ?_; replace hp := chk_some hp; obtain ⟨hg19, hp⟩ := hp; refine ds rfl (fun w' hF => rm rfl rfl hg19) rfl ?_; replace hp := bind_some hp; obtain ⟨y20, hy20, hp⟩ := hp; obtain ⟨b23, o24, rfl, hi21, hi22⟩ := hc.ra 2 reads_own hy20; refine ds rfl (fun w' hF => ixx rfl rfl U71 Z3 hi21 hi22 rfl) rfl ?_; have hcell27 := hc.rv 2 reads_own hy20; refine dx rfl (ld rfl G3 (hcell27 0 _ rfl)) rfl rfl <| ds (v := .agg #[.int .i64 (IntKind.i64.wrap (1 + (Int.tmod (IntKind.i64.wrap ((Int.tmod x1 x0.Layers) + x0.Layers)) x0.Layers))), .int .i64 y20]) rfl (fun w' hF => bd_37_0_1 rfl rfl) rfl ?_; refine pad hc 0 Z37 ?_; clear hc; rintro w29 hc; refine ⟨fun j hj hb => trivial, ?_⟩; refine dn (qn (Wret ?_)); have hres := Ctx.cells hc (k := 0) rfl rfl 0 (vs := [.int .i64 (IntKind.i64.wrap (1 + (Int.tmod (IntKind.i64.wrap ((Int.tmod x1 x0.Layers) + x0.Layers)) x0.Layers))), .int .i64 y20]) rfl; replace hc := hc.m [5, 3, 1]; obtain rfl := sj hp; refine f1c (cs := [.int .i64 (IntKind.i64.wrap (1 + (Int.tmod (IntKind.i64.wrap ((Int.tmod x1 x0.Layers) + x0.Layers)) x0.Layers))), .int .i64 y20]) R28 M28 rfl G37 Z37 rfl hres ?_; exact ⟨_, rfl, k _ hc⟩
   · replace hp := h; clear h; refine Wskip (qn ?_); refine Wseqm (rg [7, 1, 15, 16]) [7] (fun vs w' => ∃ j30 : (List Int), ∃ a31 n32 q33, vs = [.slice a31 n32 q33] ∧ ref10_Cut.J2 j11 (ref10_Cut.L1 x0 x1 x2 m1) j30 = some r ∧ Ctx w' (B b4 [.int .i64 0, .int .i64 0] 37 :: B b1 (S_api_Shape.cz x0) 29 :: Own (pInt .i64) 3 (.slice a31 n32 q33) j30 :: Fr)) ?_ ?_
     · refine Wblk ?_; refine Wseqm (rg [15, 12]) [26] (fun vs w' => ∃ j34 : Bool, vs = [.bool j34] ∧ ref10_Cut.J3 j7 j11 (ref10_Cut.L1 x0 x1 x2 m1) j34 = some r ∧ Ctx w' (B b4 [.int .i64 0, .int .i64 0] 37 :: B b1 (S_api_Shape.cz x0) 29 :: oR .i64 3 a8 q10 j7 :: Fr)) ?_ ?_
       · refine Wreg ?_; refine fq 2 U29 Z3 G3 hc 1 ?_; refine au 1 rfl ?_; replace hp := chk_some hp; obtain ⟨hg35, hp⟩ := hp; refine sz (rm rfl rfl hg35) <| au 2 rfl ?_; cases hb36 : (decide ((Int.tmod x0.Heads j11) = 0))
         · replace hp := gneg hp (of_decide_eq_false hb36); (iterate 5 refine r0 rfl ?_); refine au 1 rfl <| rn (qn ?_); exact ⟨⟨false, rfl, hp, hc⟩, (kl rfl kb)⟩
         · replace hp := gpos hp (of_decide_eq_true hb36); refine fq 3 U29 Z3 G3 hc 1 ?_; refine au 1 rfl ?_; replace hp := chk_some hp; obtain ⟨hg37, hp⟩ := hp; refine sz (rm rfl rfl hg37) <| au 2 rfl <| rn (qn ?_); exact ⟨⟨decide ((Int.tmod x0.Inner j11) = 0), rfl, hp, hc⟩, (kl rfl kb)⟩
       · clear hp hc; intro vs u w38 hJ; obtain ⟨j34, rfl, hp, hc⟩ := hJ; unfold ref10_Cut.J3 at hp; cases hb39 : j34
         · replace hp := gneg hp (by rw [hb39]; exact Bool.false_ne_true); subst hb39; refine Wcf rfl (Wskip (bn (qn ?_))); exact ⟨⟨j7, a8, j7.length, q10, rfl, hp, hc⟩, (kl rfl (km rfl (kl rfl kb)))⟩
         · replace hp := gpos hp hb39; subst hb39; refine Wct rfl (Wreg ?_); refine au 2 rfl ?_; refine rsE (oneI hc U71 Z3 V3) rfl ?_; clear hc; rintro _ w41 ⟨a40, rfl, hc⟩; replace hp := bind_some hp; obtain ⟨z42, hz42, hp⟩ := hp; obtain ⟨hg43, e44⟩ := app_some hz42; refine rsE (hc.ap 3 0 reads_own U71 Tryz.t3 hg43) rfl ?_; clear hc; rintro _ w47 ⟨a45, q46, rfl, hc⟩; rw [← e44] at hc ⊢; replace hc := Ctx.n3 hc; refine au 1 rfl <| rn (bn (qn ?_)); replace hc := hc.m [1]; exact ⟨⟨z42, a45, z42.length, q46, rfl, hp, hc⟩, (kl rfl (km rfl (kl rfl kb)))⟩
     · clear hp hc; intro vs u w48 hJ; obtain ⟨j30, a31, n32, q33, rfl, hp, hc⟩ := hJ; obtain rfl := hc.rz 2 reads_own; unfold ref10_Cut.J2 at hp; refine Wreg <| au 3 rfl <| rn (qn ?_); exact ⟨m1, Nat.lt_succ_self _, ⟨j30, (IntKind.i64.wrap (j11 + 1)), a31, j30.length, q33, rfl, hp, hc⟩, (kl rfl (km rfl (kl rfl k0)))⟩

def law13_made (N : Nat) (x0 : S_law13_Seeds) : Option (S_api_Weights × S_api_Cut) :=
  (ref08_Made N x0.N x0.Seed ([])).bind fun r10 =>
  (ref10_Cut N r10.Shape x0.A x0.B).bind fun r33 =>
  some (r10, r33)

theorem law13_made_any {N : Nat} {x0 : S_law13_Seeds} {Fr : List HP} {w : World} {r : S_api_Weights × S_api_Cut} {K : Value → World → Prop}  (hc : Ctx w (Fr)) (hp : law13_made N x0 = some r)
    (k : ∀ a37 n38 q39 a40 n41 q42 a43 n44 q45 a46 n47 q48 w', Ctx w' (Hold (pRo (pInt .i8)) [.slice a37 n38 q39] r.1.Embed.V :: Hold (pRo S_api_Block.pr) [.slice a40 n41 q42] r.1.Blocks :: Hold (pRo (pInt .i8)) [.slice a43 n44 q45] r.1.Last :: Hold (pRo (pInt .i8)) [.slice a46 n47 q48] r.1.Head.V :: Fr) → K (.tuple #[.agg #[.int .i64 r.1.Shape.Layers, .int .i64 r.1.Shape.Width, .int .i64 r.1.Shape.Heads, .int .i64 r.1.Shape.Inner, .int .i64 r.1.Shape.Vocab, .int .i64 r.1.Shape.Places, .int .i64 r.1.Embed.Rows, .int .i64 r.1.Embed.Cols, .slice a37 n38 q39, .slice a40 n41 q42, .slice a43 n44 q45, .int .i64 r.1.Head.Rows, .int .i64 r.1.Head.Cols, .slice a46 n47 q48], .agg #[.int .i64 r.2.Stages, .int .i64 r.2.Parts]]) w') : Calls Tryz.prog 8 #[.agg (S_law13_Seeds.cz x0).toArray] w (Ret K) := by
 unfold law13_made at hp; refine Center1 F8 M8 rfl rfl ?_; refine Wseq (Wreg ?_); refine rsE (Ctx.boxOp (cs := (S_law13_Seeds.cz x0)) (v := .agg (S_law13_Seeds.cz x0).toArray) hc rfl rfl) rfl ?_; clear hc; rintro _ w3 ⟨b1, rfl, hc⟩; refine rsE (Ctx.allocOp (cs := [.int .i64 0, .int .i64 0, .int .i64 0, .int .i64 0, .int .i64 0, .int .i64 0, .int .i64 0, .int .i64 0, .slice none 0 0, .slice none 0 0, .slice none 0 0, .int .i64 0, .int .i64 0, .slice none 0 0]) hc V35 rfl) rfl ?_; clear hc; rintro _ w6 ⟨b4, rfl, hc⟩; refine rsE (Ctx.allocOp (cs := [.int .i64 0, .int .i64 0]) hc V37 rfl) rfl ?_; clear hc; rintro _ w9 ⟨b7, rfl, hc⟩; refine rn (qn (Wseq (Wreg ?_))); refine sz (v := pt b1 0) (fax 0 rfl U25 rfl Z22 rfl rfl rfl) <| lg G22 Z22 hc 2 ?_; refine fq 6 U25 Z23 G23 hc 2 ?_; replace hc := hc.nilRo (pInt .i8); replace hc := hc.dz 0; obtain ⟨r10, hr10, hp⟩ := bind_some hp; refine kz C27 ?_; refine ref08_Made_any (x0 := x0.N) reads_ro hc hr10 ?_; clear hc; intro a11 n12 q13 a14 n15 q16 a17 n18 q19 a20 n21 q22 w23 hc; obtain rfl := hc.rz 0 reads_ro; obtain rfl := hc.rz 1 reads_ro; obtain rfl := hc.rz 2 reads_ro; obtain rfl := hc.rz 3 reads_ro; refine rsE (Ctx.allocOp (cs := [.int .i64 0, .int .i64 0, .int .i64 0, .int .i64 0, .int .i64 0, .int .i64 0, .int .i64 0, .int .i64 0, .slice none 0 0, .slice none 0 0, .slice none 0 0, .int .i64 0, .int .i64 0, .slice none 0 0]) hc V35 rfl) rfl ?_; clear hc; rintro _ w30 ⟨b28, rfl, hc⟩; refine pa hc 0 Z35 ?_; clear hc; rintro w31 hc; refine rn (qn (Wseq ?_)); replace hc := hc.drew; refine Wdrw (fun j w' => (j = 0 → ∀ j v, ((S_api_Weights.cz r10 a11 q13 a14 q16 a17 q19 a20 q22) : List Value)[j]? = some v → w'.cell? ((⟨b28, 0, none⟩ : Addr).add j) = some v) ∧ True) [0, 0, 2, 0, 8, 0, 32, 126, 255, 511] 0 84 rfl (by kernel_rfl) (fun j hj => ⟨fun _ => Ctx.cells hc (k := 0) rfl rfl 0 (vs := (S_api_Weights.cz r10 a11 q13 a14 q16 a17 q19 a20 q22)) rfl, trivial⟩) ?_; generalize hw : World.drew w31 = w32 at *; clear hw; refine ds (v := .agg (S_api_Weights.cz r10 a11 q13 a14 q16 a17 q19 a20 q22).toArray) rfl (fun w' hF => ldg rfl G35 Z35 rfl (hF.1 rfl)) rfl <| ds (v := pt b28 0) rfl (fun w' hF => fax 0 rfl U35 rfl Z29 rfl rfl rfl) rfl <| dx (v := .agg (S_api_Shape.cz r10.Shape).toArray) rfl (ldg rfl G29 Z29 rfl (Ctx.cells hc (k := 0) rfl rfl 0 (vs := (S_api_Shape.cz r10.Shape)) rfl)) rfl rfl <| ds (v := pt b1 7) rfl (fun w' hF => fax 7 rfl U25 rfl Z3 rfl rfl rfl) rfl <| dx rfl (ld rfl G3 (Ctx.cell hc (k := 9) rfl rfl rfl)) rfl rfl <| ds (v := pt b1 8) rfl (fun w' hF => fax 8 rfl U25 rfl Z3 rfl rfl rfl) rfl <| dx rfl (ld rfl G3 (Ctx.cell hc (k := 9) rfl rfl rfl)) rfl rfl ?_; obtain ⟨r33, hr33, hp⟩ := bind_some hp; refine dc (cl C28 rfl rfl) rfl rfl ?_; refine ref10_Cut_any (x0 := r10.Shape) hc hr33 ?_; clear hc; intro w34 hc; refine ⟨fun j hj hb => ⟨fun _ => Ctx.cells hc (k := 0) rfl rfl 0 (vs := (S_api_Weights.cz r10 a11 q13 a14 q16 a17 q19 a20 q22)) rfl, trivial⟩, ?_⟩; refine pad hc 8 Z35 ?_; clear hc; rintro w35 hc; refine ⟨fun j hj hb => ⟨fun e => nja hj e, trivial⟩, ?_⟩; refine pad hc 7 Z37 ?_; clear hc; rintro w36 hc; refine ⟨fun j hj hb => ⟨fun e => nja hj e, trivial⟩, ?_⟩; refine dn (qn (Wret ?_)); have hres0 := Ctx.cells hc (k := 8) rfl rfl 0 (vs := (S_api_Weights.cz r10 a11 q13 a14 q16 a17 q19 a20 q22)) rfl; have hres1 := Ctx.cells hc (k := 7) rfl rfl 0 (vs := [.int .i64 r33.Stages, .int .i64 r33.Parts]) rfl; replace hc := hc.dz 1; replace hc := hc.dz 3; replace hc := hc.dz 5; replace hc := hc.dz 7; replace hc := hc.m [27, 25, 23, 21, 19, 17, 15, 13, 11, 9, 2, 4, 6]; obtain rfl := sj hp; refine f2cc (cs := (S_api_Weights.cz r10 a11 q13 a14 q16 a17 q19 a20 q22)) (ds := [.int .i64 r33.Stages, .int .i64 r33.Parts]) R8 M8 rfl G35 Z35 rfl hres0 rfl G37 Z37 rfl hres1 ?_; exact ⟨_, rfl, k _ _ _ _ _ _ _ _ _ _ _ _ _ hc⟩

def block_Rows (N : Nat) (x0 : S_api_Shard) (x1 : (List Int)) : Option (A2_i64 × Bool) :=
  (part_Right N ([x0])).bind fun r25 =>
  if r25 = true then
    (slice_Heads x0.Shape x0.Cut x0.Part).bind fun r29 =>
    chk (x0.Shape.Heads ≠ 0) <|
    (some (IntKind.i64.wrap (Int.tdiv x0.Shape.Width x0.Shape.Heads))).bind fun e36 =>
    if ((x1.length : Nat) : Int) ≠ (IntKind.i64.wrap ((IntKind.i64.wrap (r29.1.c1 * e36)) - (IntKind.i64.wrap (r29.1.c0 * e36)))) then
      some ((⟨0, 0⟩ : A2_i64), false)
    else
      some ((⟨(IntKind.i64.wrap (r29.1.c0 * e36)), (IntKind.i64.wrap (r29.1.c1 * e36))⟩ : A2_i64), true)
  else
    some ((⟨0, 0⟩ : A2_i64), false)

theorem block_Rows_any {N n2 q3 n5 q6 n8 q9 n11 q12 nx1 qx1 : Nat} {x0 : S_api_Shard} {a1 a4 a7 a10 ax1 : Option Addr} {x1 : (List Int)} {P1 : HP} {Fr : List HP} {w : World} {r : A2_i64 × Bool} {K : Value → World → Prop} (hrd1 : Reads P1 (pInt .i8) (.slice ax1 nx1 qx1) x1) (hc : Ctx w (Hold (pRo (pInt .i8)) [.slice a1 n2 q3] x0.Embed.V :: Hold (pRo S_api_Block.pr) [.slice a4 n5 q6] x0.Blocks :: Hold (pRo (pInt .i8)) [.slice a7 n8 q9] x0.Last :: Hold (pRo (pInt .i8)) [.slice a10 n11 q12] x0.Head.V :: P1 :: Fr)) (hp : block_Rows N x0 x1 = some r)
    (k : ∀ w', Ctx w' (P1 :: Fr) → K (.tuple #[.agg #[.int .i64 r.1.c0, .int .i64 r.1.c1], .bool r.2]) w') : Calls Tryz.prog 26 #[.agg #[.int .i64 x0.Shape.Layers, .int .i64 x0.Shape.Width, .int .i64 x0.Shape.Heads, .int .i64 x0.Shape.Inner, .int .i64 x0.Shape.Vocab, .int .i64 x0.Shape.Places, .int .i64 x0.Cut.Stages, .int .i64 x0.Cut.Parts, .int .i64 x0.Stage, .int .i64 x0.Part, .int .i64 x0.Embed.Rows, .int .i64 x0.Embed.Cols, .slice a1 n2 q3, .slice a4 n5 q6, .slice a7 n8 q9, .int .i64 x0.Head.Rows, .int .i64 x0.Head.Cols, .slice a10 n11 q12], .slice ax1 nx1 qx1] w (Ret K) := by
 unfold block_Rows at hp; refine Center2 F26 M26 rfl rfl ?_; obtain ⟨hn1, _⟩ := Ctx.rdLen hc (k := 4) rfl rfl hrd1; subst hn1; obtain rfl := hc.rz 0 reads_ro; obtain rfl := hc.rz 1 reads_ro; obtain rfl := hc.rz 2 reads_ro; obtain rfl := hc.rz 3 reads_ro; refine Wseq (Wreg ?_); refine rsE (Ctx.boxOp (cs := (S_api_Shard.cz x0 a1 q3 a4 q6 a7 q9 a10 q12)) (v := .agg (S_api_Shard.cz x0 a1 q3 a4 q6 a7 q9 a10 q12).toArray) hc rfl rfl) rfl ?_; clear hc; rintro _ w19 ⟨b17, rfl, hc⟩; refine rsE (Ctx.allocOp (cs := [.int .i64 0, .int .i64 0]) hc V89 rfl) rfl ?_; clear hc; rintro _ w22 ⟨b20, rfl, hc⟩; refine au 1 rfl <| rn (qn (Wseq (Wseq (Wreg ?_)))); refine lg G41 Z41 hc 1 ?_; replace hc := hc.dz 5; replace hc := hc.dz 5; replace hc := hc.dz 5; replace hc := hc.dz 5; replace hc : Ctx w22 (Hold S_api_Shard.pr (S_api_Shard.cz x0 a1 q3 a4 q6 a7 q9 a10 q12) x0 :: B b20 [.int .i64 0, .int .i64 0] 89 :: B b17 (S_api_Shard.cz x0 a1 q3 a4 q6 a7 q9 a10 q12) 41 :: hR .i8 a1 q3 x0.Embed.V :: hS S_api_Block.pr a4 q6 x0.Blocks :: hR .i8 a7 q9 x0.Last :: hR .i8 a10 q12 x0.Head.V :: P1 :: Fr) := S_api_Shard.cl hc; refine rsE (Ctx.builtOp (css := [(S_api_Shard.cz x0 a1 q3 a4 q6 a7 q9 a10 q12)]) (xs := ([x0] : List S_api_Shard)) (E := S_api_Shard.pr) hc U72 Z41 V41 rfl rfl rfl rfl rfl rfl rfl rfl) rfl ?_; clear hc; rintro _ w24 ⟨a23, rfl, hc⟩; replace hp := bind_some hp; obtain ⟨r25, hr25, hp⟩ := hp; refine kz C61 ?_; refine part_Right_any (x0 := [x0]) reads_own hc hr25 ?_; clear hc; intro w26 hc; cases hb27 : r25
 · replace hp := gneg hp (by rw [hb27]; exact Bool.false_ne_true); subst hb27; refine au 1 rfl <| rn (qn (Wct rfl (Wseq (Wreg ?_)))); refine sz (v := .agg #[.int .i64 0, .int .i64 0]) (bd_89_ ) <| pa hc 1 Z89 ?_; clear hc; rintro w28 hc; refine au 1 rfl <| rn (qn (Wret (qr ?_))); have hres := Ctx.cells hc (k := 1) rfl rfl 0 (vs := [.int .i64 0, .int .i64 0]) rfl; replace hc := hc.m [13, 11, 9, 7, 5, 3, 1]; obtain rfl := sj hp; refine f2c (cs := [.int .i64 0, .int .i64 0]) (u := .bool false) R26 M26 rfl G89 Z89 rfl hres rfl ?_; exact ⟨_, rfl, k _ hc⟩
 · replace hp := gpos hp hb27; subst hb27; refine au 1 rfl <| rn (qn (Wcf rfl (Wskip (qn (Wseq (Wreg ?_)))))); refine sz (v := pt b17 0) (fax 0 rfl U41 rfl Z29 rfl rfl rfl) <| lg G29 Z29 hc 2 ?_; refine sz (v := pt b17 6) (fax 6 rfl U41 rfl Z37 rfl rfl rfl) <| lg G37 Z37 hc 2 ?_; refine fq 9 U41 Z3 G3 hc 2 ?_; replace hp := bind_some hp; obtain ⟨r29, hr29, hp⟩ := hp; refine kz C62 ?_; refine slice_Heads_any (x0 := x0.Shape) (x1 := x0.Cut) hc hr29 ?_; clear hc; intro w30 hc; refine au 3 rfl ?_; refine rsE (Ctx.allocOp (cs := [.int .i64 0, .int .i64 0]) hc V89 rfl) rfl ?_; clear hc; rintro _ w33 ⟨b31, rfl, hc⟩; refine pa hc 0 Z89 ?_; clear hc; rintro w34 hc; refine au 1 rfl <| rn (qn (Wseq (Wreg ?_))); refine sz (v := pt b17 0) (fax 0 rfl U41 rfl Z29 rfl rfl rfl) ?_; refine fq 1 U29 Z3 G3 hc 3 ?_; refine sz (v := pt b17 0) (fax 0 rfl U41 rfl Z29 rfl rfl rfl) ?_; refine fq 2 U29 Z3 G3 hc 3 ?_; replace hp := chk_some hp; obtain ⟨hg35, hp⟩ := hp; refine sz (quw rfl rfl hg35) ?_; replace hp := bind_some hp; obtain ⟨e36, he36, hp⟩ := hp; injection he36 with he36; refine sz (v := .int .i64 e36) (av (v := .int .i64 e36) (by rw [← he36]; rfl)) <| rn (qn (Wseq (Wreg ?_))); refine sz (v := pt b31 0) (ixa (i := 0) rfl rfl U89 Z3 (by decide) (by decide) (by decide) (by decide) rfl) <| sz (ld rfl G3 (Ctx.cell hc (k := 0) rfl rfl rfl)) <| au 2 rfl <| sz (v := pt b31 1) (ixa (i := 1) rfl rfl U89 Z3 (by decide) (by decide) (by decide) (by decide) rfl) <| sz (ld rfl G3 (Ctx.cell hc (k := 0) rfl rfl rfl)) <| au 2 rfl <| sz (v := .agg #[.int .i64 (IntKind.i64.wrap (r29.1.c0 * e36)), .int .i64 (IntKind.i64.wrap (r29.1.c1 * e36))]) (bd_89_0_1 rfl rfl) ?_; refine rsE (Ctx.allocOp (cs := [.int .i64 0, .int .i64 0]) hc V89 rfl) rfl ?_; clear hc; rintro _ w39 ⟨b37, rfl, hc⟩; refine pa hc 0 Z89 ?_; clear hc; rintro w40 hc; refine rn (qn (Wseq (Wseq (Wreg ?_)))); refine au 1 rfl <| sz (ln rfl U30) <| sz (v := pt b37 1) (ixa (i := 1) rfl rfl U89 Z3 (by decide) (by decide) (by decide) (by decide) rfl) <| sz (ld rfl G3 (Ctx.cell hc (k := 0) rfl rfl rfl)) <| sz (v := pt b37 0) (ixa (i := 0) rfl rfl U89 Z3 (by decide) (by decide) (by decide) (by decide) rfl) <| sz (ld rfl G3 (Ctx.cell hc (k := 0) rfl rfl rfl)) <| au 2 rfl <| rn (qn ?_); refine Wif hp (fun _ h => ?_) fun _ h => ?_
   · replace hp := h; clear h; refine Wskip (qn (Wseq (Wreg ?_))); refine lg G89 Z89 hc 0 ?_; refine pa hc 3 Z89 ?_; clear hc; rintro w42 hc; refine au 1 rfl <| rn (qn (Wret ?_)); have hres := Ctx.cells hc (k := 3) rfl rfl 0 (vs := [.int .i64 (IntKind.i64.wrap (r29.1.c0 * e36)), .int .i64 (IntKind.i64.wrap (r29.1.c1 * e36))]) rfl; replace hc := hc.m [17, 15, 13, 11, 9, 7, 5, 3, 1]; obtain rfl := sj hp; refine f2c (cs := [.int .i64 (IntKind.i64.wrap (r29.1.c0 * e36)), .int .i64 (IntKind.i64.wrap (r29.1.c1 * e36))]) (u := .bool true) R26 M26 rfl G89 Z89 rfl hres rfl ?_; exact ⟨_, rfl, k _ hc⟩
   · replace hp := h; clear h; refine Wseq (Wreg ?_); refine sz (v := .agg #[.int .i64 0, .int .i64 0]) (bd_89_ ) <| pa hc 3 Z89 ?_; clear hc; rintro w43 hc; refine au 1 rfl <| rn (qn (Wret (qr ?_))); have hres := Ctx.cells hc (k := 3) rfl rfl 0 (vs := [.int .i64 0, .int .i64 0]) rfl; replace hc := hc.m [17, 15, 13, 11, 9, 7, 5, 3, 1]; obtain rfl := sj hp; refine f2c (cs := [.int .i64 0, .int .i64 0]) (u := .bool false) R26 M26 rfl G89 Z89 rfl hres rfl ?_; exact ⟨_, rfl, k _ hc⟩

end Go.Proofs.YtbfiagimgokccaaGreat
end
section
namespace Go.Proofs.YtbfiagimgokccaaGreat
open Go Go.RowKit Go.Hp
set_option linter.unusedVariables false
set_option linter.unusedSimpArgs false
set_option maxRecDepth 100000
set_option maxHeartbeats 8000000

def ref04_Bytes.L1 (x0 : (List Int)) (x1 : (List Int)) : Nat → Int → Option (Bool)
  | 0, _ => none
  | m1 + 1, j2 =>
    if j2 < ((x0.length : Nat) : Int) then
      (idx x0 j2).bind fun y6 =>
      (idx x1 j2).bind fun y15 =>
      if y6 ≠ y15 then
        some false
      else
        (ref04_Bytes.L1 x0 x1 m1) (IntKind.i64.wrap (j2 + 1))
    else
      some true

def ref04_Bytes (N : Nat) (x0 : (List Int)) (x1 : (List Int)) : Option (Bool) :=
  if ((x0.length : Nat) : Int) ≠ ((x1.length : Nat) : Int) then
    some false
  else
    ref04_Bytes.L1 x0 x1 N 0

theorem ref04_Bytes_any {N nx0 qx0 nx1 qx1 : Nat} {x0 x1 : (List Int)} {ax0 ax1 : Option Addr} {P0 P1 : HP} {Fr : List HP} {w : World} {r : Bool} {K : Value → World → Prop} (hrd0 : Reads P0 (pInt .i8) (.slice ax0 nx0 qx0) x0) (hrd1 : Reads P1 (pInt .i8) (.slice ax1 nx1 qx1) x1) (hc : Ctx w (P0 :: P1 :: Fr)) (hp : ref04_Bytes N x0 x1 = some r)
    (k : ∀ w', Ctx w' (P0 :: P1 :: Fr) → K (.bool r) w') : Calls Tryz.prog 58 #[.slice ax0 nx0 qx0, .slice ax1 nx1 qx1] w (Ret K) := by
 unfold ref04_Bytes at hp; refine Center2 F58 M58 rfl rfl ?_; obtain ⟨hn0, _⟩ := Ctx.rdLen hc (k := 0) rfl rfl hrd0; subst hn0; obtain ⟨hn1, _⟩ := Ctx.rdLen hc (k := 1) rfl rfl hrd1; subst hn1; refine Wseq (Wreg ?_); refine au 1 rfl <| rn (qn (Wseq (Wseq (Wreg ?_)))); refine au 1 rfl <| sz (ln rfl U30) <| au 1 rfl <| sz (ln rfl U30) <| au 1 rfl <| rn (qn ?_); refine Wif hp (fun _ hp => ?_) fun _ hp => ?_
 · refine Wskip (qn (Wseq (Wseq (Wreg ?_)))); refine au 1 rfl <| rn (qn (Wblk ?_)); refine Wloop (rg [4, 2, 11, 15]) [5] (fun m vs w' => ∃ j2 : Int, vs = [.int .i64 j2] ∧ ref04_Bytes.L1 x0 x1 m j2 = some r ∧ Ctx w' (P0 :: P1 :: Fr)) N ?_ ?_
   · exact ⟨0, rfl, hp, hc⟩
   · clear hp hc; intro m vs u w3 hJ; obtain ⟨j2, rfl, hp, hc⟩ := hJ; rcases m with _ | m1
     · cases (show none = some r from hp)
     rw [ref04_Bytes.L1] at hp; refine Wseq (Wseq (Wreg ?_)); refine au 2 rfl <| sz (ln rfl U30) <| au 1 rfl <| rn (qn ?_); refine Wif hp (fun _ hp => ?_) fun _ hp => ?_
     · refine Wexit (qx (qx (be (qn (Wseq (Wreg ?_)))))); refine au 1 rfl <| rn (qn (Wret ?_)); obtain rfl := sj hp; exact fz R58 M58 (k _ hc)
     · refine Wskip (qn (Wseq (Wblk (Wseq ?_)))); replace hc := hc.drew; refine Wdrw (fun _ w' => w' = World.drew w3) [0, 0, 3, 7, 0, 0, 48, 112, 255] 0 0 rfl (by kernel_rfl) (fun _ _ => rfl) ?_; generalize hw : World.drew w3 = w5 at *; clear hw; refine ad_ 2 rfl ?_; obtain ⟨y6, hy6, hp⟩ := bind_some hp; obtain ⟨b9, o10, rfl, hi7, hi8⟩ := hc.ra 0 hrd0 hy6; refine dE (ixx rfl rfl U30 Z88 hi7 hi8 rfl) rfl rfl ?_; have hcell13 := hc.rv 0 hrd0 hy6; refine dE (ld rfl G88 (hcell13 0 _ rfl)) rfl rfl <| ad_ 2 rfl ?_; obtain ⟨y15, hy15, hp⟩ := bind_some hp; obtain ⟨b18, o19, rfl, hi16, hi17⟩ := hc.ra 1 hrd1 hy15; refine dE (ixx rfl rfl U30 Z88 hi16 hi17 rfl) rfl rfl ?_; have hcell22 := hc.rv 1 hrd1 hy15; refine dE (ld rfl G88 (hcell22 0 _ rfl)) rfl rfl <| ad_ 1 rfl <| dn (qn ?_); refine Wif hp (fun _ hp => ?_) fun _ hp => ?_
       · refine Wskip (bn (qn (Wreg ?_))); refine au 3 rfl <| rn (qn ?_); exact ⟨m1, Nat.lt_succ_self _, ⟨(IntKind.i64.wrap (j2 + 1)), rfl, hp, hc⟩, (kl rfl k0)⟩
       · refine Wseq (Wreg ?_); refine au 1 rfl <| rn (qn (Wret (br (qr (qr (br (qr ?_))))))); obtain rfl := sj hp; exact fz R58 M58 (k _ hc)
 · refine Wseq (Wreg ?_); refine au 1 rfl <| rn (qn (Wret (qr ?_))); obtain rfl := sj hp; exact fz R58 M58 (k _ hc)

end Go.Proofs.YtbfiagimgokccaaGreat
end
section
namespace Go.Proofs.YtbfiagimgokccaaGreat
open Go Go.RowKit Go.Hp
set_option linter.unusedVariables false
set_option linter.unusedSimpArgs false
set_option maxRecDepth 100000
set_option maxHeartbeats 8000000

theorem bd_55_0 {ρ : Operand → Value} {w : World} {dst : Option Nat} {ty : TypeId} {pos : String} {after : Array Edge} {g : Option (Nat × Bool)} {x0 : Operand} {k0 : IntKind} {a0 : Int} (h0 : ρ x0 = (.int k0 a0)) :
    (execOp ρ ⟨dst, .build 55 #[(0, x0)], ty, pos, after, g⟩).run Tryz.prog w = .ok (.value (.agg #[(.int k0 a0), (.int .i64 0), (.int .i64 0)])) w := by
  simp [execOp, Instr.build, Instr.fill, Tryz.zeroValue55, Tryz.runUnderlying55, Tryz.sizeOf3, h0, Value.cells]

end Go.Proofs.YtbfiagimgokccaaGreat
end
section
namespace Go.Proofs.YtbfiagimgokccaaGreat
open Go Go.RowKit Go.Hp
set_option linter.unusedVariables false
set_option linter.unusedSimpArgs false
set_option maxRecDepth 100000
set_option maxHeartbeats 8000000

def law13_keeps.J2 (j29 : Int) (k1 : Int → Option (Bool)) : Option (Bool) :=
  k1 (IntKind.i64.wrap (j29 + 1))

def law13_keeps.J5 (N : Nat) (x0 : S_api_Shard) (x3 : S_ref08_Run) (j29 : Int) (r32 : ((List (List Int)) × (List (List Int)))) (j58 : Int) (k4 : Int → Option (Bool)) (j62 : Int) (j63 : Int) (j64 : Bool) : Option (Bool) :=
  if j64 = true then
    if j62 < 0 then
      some false
    else
      if j63 > x0.Shape.Width then
        some false
      else
        if j62 > j63 then
          some false
        else
          (idx r32.1 j58).bind fun y114 =>
          (idx x3.L j58).bind fun y126 =>
          (idx y126.K j29).bind fun y145 =>
          chk (0 ≤ j62 ∧ j62 ≤ j63 ∧ j63 ≤ ((y145.length : Nat) : Int)) <|
          (ref04_Bytes N y114 ((y145.take (j63).toNat).drop (j62).toNat)).bind fun r163 =>
          if r163 = true then
            (idx r32.2 j58).bind fun y166 =>
            (idx y126.V j29).bind fun y183 =>
            chk (0 ≤ j62 ∧ j62 ≤ j63 ∧ j63 ≤ ((y183.length : Nat) : Int)) <|
            (ref04_Bytes N y166 ((y183.take (j63).toNat).drop (j62).toNat)).bind fun r201 =>
            if r201 = true then
              k4 (IntKind.i64.wrap (j58 + 1))
            else
              some false
          else
            some false
  else
    some false

def law13_keeps.L4 (N : Nat) (x0 : S_api_Shard) (x3 : S_ref08_Run) (j29 : Int) (r32 : ((List (List Int)) × (List (List Int)))) (k1 : Int → Option (Bool)) : Nat → Int → Option (Bool)
  | 0, _ => none
  | m4 + 1, j58 =>
    if j58 < ((r32.1.length : Nat) : Int) then
      (idx r32.1 j58).bind fun y100596 =>
      (block_Rows N (⟨(⟨x0.Shape.Layers, x0.Shape.Width, x0.Shape.Heads, x0.Shape.Inner, x0.Shape.Vocab, x0.Shape.Places⟩ : S_api_Shape), (⟨x0.Cut.Stages, x0.Cut.Parts⟩ : S_api_Cut), x0.Stage, x0.Part, (⟨x0.Embed.Rows, x0.Embed.Cols, x0.Embed.V⟩ : S_api_Mat), x0.Blocks, x0.Last, (⟨x0.Head.Rows, x0.Head.Cols, x0.Head.V⟩ : S_api_Mat)⟩ : S_api_Shard) y100596).bind fun r100597 =>
      law13_keeps.J5 N x0 x3 j29 r32 j58 (law13_keeps.L4 N x0 x3 j29 r32 k1 m4) r100597.1.c0 r100597.1.c1 r100597.2
    else
      law13_keeps.J2 j29 k1

def law13_keeps.J3 (N : Nat) (x0 : S_api_Shard) (x3 : S_ref08_Run) (j29 : Int) (r32 : ((List (List Int)) × (List (List Int)))) (k1 : Int → Option (Bool)) (j42 : Bool) : Option (Bool) :=
  if j42 = true then
    if ((r32.1.length : Nat) : Int) ≠ 0 then
      some false
    else
      law13_keeps.J2 j29 k1
  else
    if ((r32.1.length : Nat) : Int) ≠ ((x3.L.length : Nat) : Int) then
      some false
    else
      if ((r32.2.length : Nat) : Int) ≠ ((x3.L.length : Nat) : Int) then
        some false
      else
        law13_keeps.L4 N x0 x3 j29 r32 k1 N 0

def law13_keeps.L1 (N : Nat) (x0 : S_api_Shard) (x1 : S_cache_Store) (x2 : S_api_Spot) (x3 : S_ref08_Run) (r23 : (A2_i64)) : Nat → Int → Option (Bool)
  | 0, _ => none
  | m1 + 1, j29 =>
    if j29 < x0.Shape.Layers then
      (cache_Store_Line N x1 x2.Request j29).bind fun r32 =>
      if j29 < r23.c0 then
        law13_keeps.J3 N x0 x3 j29 r32 (law13_keeps.L1 N x0 x1 x2 x3 r23 m1) true
      else
        law13_keeps.J3 N x0 x3 j29 r32 (law13_keeps.L1 N x0 x1 x2 x3 r23 m1) (decide (j29 ≥ r23.c1))
    else
      some true

def law13_keeps (N : Nat) (x0 : S_api_Shard) (x1 : S_cache_Store) (x2 : S_api_Spot) (x3 : S_ref08_Run) : Option (Bool) :=
  (ref10_Span x0.Stage x0.Shape.Layers x0.Cut.Stages).bind fun r23 =>
  law13_keeps.L1 N x0 x1 x2 x3 r23 N 0

theorem law13_keeps_any {N n2 q3 n5 q6 n8 q9 n11 q12 b1 b3 : Nat} {x0 : S_api_Shard} {a1 a4 a7 a10 : Option Addr} {x1 : S_cache_Store} {x2 : S_api_Spot} {x3 : S_ref08_Run} {Fr : List HP} {w : World} {r : Bool} {K : Value → World → Prop}  (hc : Ctx w (Hold (pRo (pInt .i8)) [.slice a1 n2 q3] x0.Embed.V :: Hold (pRo S_api_Block.pr) [.slice a4 n5 q6] x0.Blocks :: Hold (pRo (pInt .i8)) [.slice a7 n8 q9] x0.Last :: Hold (pRo (pInt .i8)) [.slice a10 n11 q12] x0.Head.V :: S_cache_Store.hp b1 x1 :: S_ref08_Run.hp b3 x3 :: Fr)) (hp : law13_keeps N x0 x1 x2 x3 = some r)
    (k : ∀ w', Ctx w' (S_cache_Store.hp b1 x1 :: S_ref08_Run.hp b3 x3 :: Fr) → K (.bool r) w') : Calls Tryz.prog 22 #[.agg #[.int .i64 x0.Shape.Layers, .int .i64 x0.Shape.Width, .int .i64 x0.Shape.Heads, .int .i64 x0.Shape.Inner, .int .i64 x0.Shape.Vocab, .int .i64 x0.Shape.Places, .int .i64 x0.Cut.Stages, .int .i64 x0.Cut.Parts, .int .i64 x0.Stage, .int .i64 x0.Part, .int .i64 x0.Embed.Rows, .int .i64 x0.Embed.Cols, .slice a1 n2 q3, .slice a4 n5 q6, .slice a7 n8 q9, .int .i64 x0.Head.Rows, .int .i64 x0.Head.Cols, .slice a10 n11 q12], pt b1 0, .agg (S_api_Spot.cz x2).toArray, pt b3 0] w (Ret K) := by
 unfold law13_keeps at hp; refine Center4 F22 M22 rfl rfl ?_; obtain rfl := hc.rz 0 reads_ro; obtain rfl := hc.rz 1 reads_ro; obtain rfl := hc.rz 2 reads_ro; obtain rfl := hc.rz 3 reads_ro; refine Wseq (Wreg ?_); refine rsE (Ctx.boxOp (cs := (S_api_Shard.cz x0 a1 q3 a4 q6 a7 q9 a10 q12)) (v := .agg (S_api_Shard.cz x0 a1 q3 a4 q6 a7 q9 a10 q12).toArray) hc rfl rfl) rfl ?_; clear hc; rintro _ w19 ⟨b17, rfl, hc⟩; refine rsE (Ctx.boxOp (cs := (S_api_Spot.cz x2)) (v := .agg (S_api_Spot.cz x2).toArray) hc rfl rfl) rfl ?_; clear hc; rintro _ w22 ⟨b20, rfl, hc⟩; refine au 1 rfl <| rn (qn (Wseq (Wreg ?_))); refine fq 8 U41 Z3 G3 hc 1 ?_; refine sz (v := pt b17 0) (fax 0 rfl U41 rfl Z29 rfl rfl rfl) ?_; refine fq 0 U29 Z3 G3 hc 1 ?_; refine sz (v := pt b17 6) (fax 6 rfl U41 rfl Z37 rfl rfl rfl) ?_; refine fq 0 U37 Z3 G3 hc 1 ?_; replace hp := bind_some hp; obtain ⟨r23, hr23, hp⟩ := hp; refine kz C29 ?_; refine ref10_Span_any hc hr23 ?_; clear hc; intro w24 hc; refine rsE (Ctx.allocOp (cs := [.int .i64 0, .int .i64 0]) hc V89 rfl) rfl ?_; clear hc; rintro _ w27 ⟨b25, rfl, hc⟩; refine pa hc 0 Z89 ?_; clear hc; rintro w28 hc; refine rn (qn (Wseq (Wseq (Wreg ?_)))); refine au 1 rfl <| rn (qn (Wblk ?_)); refine Wloop (rg [8, 1, 10, 6, 25, 131]) [10] (fun m vs w' => ∃ j29 : Int, vs = [.int .i64 j29] ∧ law13_keeps.L1 N x0 x1 x2 x3 r23 m j29 = some r ∧ Ctx w' (B b25 [.int .i64 r23.c0, .int .i64 r23.c1] 89 :: B b20 (S_api_Spot.cz x2) 55 :: B b17 (S_api_Shard.cz x0 a1 q3 a4 q6 a7 q9 a10 q12) 41 :: hR .i8 a1 q3 x0.Embed.V :: hS S_api_Block.pr a4 q6 x0.Blocks :: hR .i8 a7 q9 x0.Last :: hR .i8 a10 q12 x0.Head.V :: S_cache_Store.hp b1 x1 :: S_ref08_Run.hp b3 x3 :: Fr)) N ?_ ?_
 · exact ⟨0, rfl, hp, hc⟩
 · clear hp hc; intro m vs u w30 hJ; obtain ⟨j29, rfl, hp, hc⟩ := hJ; rcases m with _ | m1
   · cases (show none = some r from hp)
   rw [law13_keeps.L1] at hp; refine Wseq (Wseq (Wreg ?_)); refine au 1 rfl <| sz (v := pt b17 0) (fax 0 rfl U41 rfl Z29 rfl rfl rfl) ?_; refine fq 0 U29 Z3 G3 hc 2 ?_; refine au 1 rfl <| rn (qn ?_); refine Wif hp (fun _ h => ?_) fun _ h => ?_
   · replace hp := h; clear h; refine Wexit (qx (qx (be (qn (Wseq (Wreg ?_)))))); refine au 1 rfl <| rn (qn (Wret ?_)); replace hc := hc.m [13, 11, 9, 7, 5, 3, 1]; obtain rfl := sj hp; exact fz R22 M22 (k _ hc)
   · replace hp := h; clear h; refine Wskip (qn ?_); refine Wseqm (rg [8, 1, 11, 5, 32, 124]) [] (fun vs w' => vs = [] ∧ law13_keeps.J2 j29 (law13_keeps.L1 N x0 x1 x2 x3 r23 m1) = some r ∧ Ctx w' (B b25 [.int .i64 r23.c0, .int .i64 r23.c1] 89 :: B b20 (S_api_Spot.cz x2) 55 :: B b17 (S_api_Shard.cz x0 a1 q3 a4 q6 a7 q9 a10 q12) 41 :: hR .i8 a1 q3 x0.Embed.V :: hS S_api_Block.pr a4 q6 x0.Blocks :: hR .i8 a7 q9 x0.Last :: hR .i8 a10 q12 x0.Head.V :: S_cache_Store.hp b1 x1 :: S_ref08_Run.hp b3 x3 :: Fr)) ?_ ?_
     · refine Wblk (Wseq (Wreg ?_)); refine au 1 rfl ?_; refine fq 0 U55 Z3 G3 hc 1 ?_; refine au 1 rfl ?_; replace hp := bind_some hp; obtain ⟨r32, hr32, hp⟩ := hp; replace hc := hc.m [14]; refine kz C37 ?_; refine cache_Store_Line_any hc hr32 ?_; clear hc; intro a33 n34 q35 a36 n37 q38 w39 hc; obtain rfl := hc.rz 0 reads_own; obtain rfl := hc.rz 1 reads_own; refine au 5 rfl <| rn (qn (Wseq ?_)); refine Wseqm (rg [40, 10]) [49] (fun vs w' => ∃ j42 : Bool, vs = [.bool j42] ∧ law13_keeps.J3 N x0 x3 j29 r32 (law13_keeps.L1 N x0 x1 x2 x3 r23 m1) j42 = some r ∧ Ctx w' (Own (pRo (pInt .i8)) 30 (.slice a33 r32.1.length q35) r32.1 :: Own (pRo (pInt .i8)) 30 (.slice a36 r32.2.length q38) r32.2 :: S_cache_Store.hp b1 x1 :: B b25 [.int .i64 r23.c0, .int .i64 r23.c1] 89 :: B b20 (S_api_Spot.cz x2) 55 :: B b17 (S_api_Shard.cz x0 a1 q3 a4 q6 a7 q9 a10 q12) 41 :: hR .i8 a1 q3 x0.Embed.V :: hS S_api_Block.pr a4 q6 x0.Blocks :: hR .i8 a7 q9 x0.Last :: hR .i8 a10 q12 x0.Head.V :: S_ref08_Run.hp b3 x3 :: Fr)) ?_ ?_
       · refine Wreg <| au 1 rfl <| sz (v := pt b25 0) (ixa (i := 0) rfl rfl U89 Z3 (by decide) (by decide) (by decide) (by decide) rfl) <| sz (ld rfl G3 (Ctx.cell hc (k := 3) rfl rfl rfl)) <| au 2 rfl ?_; cases hb43 : (decide (j29 < r23.c0))
         · replace hp := gneg hp (of_decide_eq_false hb43); refine au 1 rfl <| sz (v := pt b25 1) (ixa (i := 1) rfl rfl U89 Z3 (by decide) (by decide) (by decide) (by decide) rfl) <| sz (ld rfl G3 (Ctx.cell hc (k := 3) rfl rfl rfl)) <| au 2 rfl <| rn (qn ?_); exact ⟨⟨decide (j29 ≥ r23.c1), rfl, hp, hc⟩, (kl rfl kb)⟩
         · replace hp := gpos hp (of_decide_eq_true hb43); (iterate 4 refine r0 rfl ?_); refine au 1 rfl <| rn (qn ?_); exact ⟨⟨true, rfl, hp, hc⟩, (kl rfl kb)⟩
       · clear hp hc; intro vs u w44 hJ; obtain ⟨j42, rfl, hp, hc⟩ := hJ; unfold law13_keeps.J3 at hp; cases hb45 : j42
         · replace hp := gneg hp (by rw [hb45]; exact Bool.false_ne_true); subst hb45; refine Wcf rfl (Wskip (qn (Wseq (Wseq (Wreg ?_))))); refine au 1 rfl <| sz (ln rfl U110) <| au 2 rfl <| sz (v := pt b3 14) (fax 14 rfl U77 rfl Z75 rfl rfl rfl) ?_; replace hc := hc.m [20]; replace hc := S_ref08_Run.uf hc; obtain ⟨a46, q47, a48, q49, a50, q51, a52, q53, a54, q55, hc⟩ := hc; refine sz (ld rfl G75 (Ctx.cell hc (k := 0) rfl rfl rfl)) <| sz (ln rfl U75) <| au 2 rfl ?_; cases hb56 : (decide (((r32.1.length : Nat) : Int) ≠ ((x3.L.length : Nat) : Int)))
           · replace hp := gneg hp (of_decide_eq_false hb56); refine au 1 rfl <| sz (ln rfl U110) <| au 2 rfl ?_; refine fq 14 U77 Z75 G75 hc 0 ?_; refine sz (ln rfl U75) <| au 2 rfl <| rn (qn ?_); refine Wif hp (fun _ h => ?_) fun _ h => ?_
             · replace hp := h; clear h; refine Wskip (qn (Wseq (Wreg ?_))); refine au 1 rfl <| rn (qn (Wblk ?_)); replace hc := hc.m [10, 10, 10, 10, 10, 10]; replace hc := S_ref08_Run.fd (x := x3) hc; refine Wloop (rg [8, 1, 13, 3, 71, 85]) [13] (fun m vs w' => ∃ j58 : Int, vs = [.int .i64 j58] ∧ law13_keeps.L4 N x0 x3 j29 r32 (law13_keeps.L1 N x0 x1 x2 x3 r23 m1) m j58 = some r ∧ Ctx w' (S_ref08_Run.hp b3 x3 :: Own (pRo (pInt .i8)) 30 (.slice a33 r32.1.length q35) r32.1 :: Own (pRo (pInt .i8)) 30 (.slice a36 r32.2.length q38) r32.2 :: S_cache_Store.hp b1 x1 :: B b25 [.int .i64 r23.c0, .int .i64 r23.c1] 89 :: B b20 (S_api_Spot.cz x2) 55 :: B b17 (S_api_Shard.cz x0 a1 q3 a4 q6 a7 q9 a10 q12) 41 :: hR .i8 a1 q3 x0.Embed.V :: hS S_api_Block.pr a4 q6 x0.Blocks :: hR .i8 a7 q9 x0.Last :: hR .i8 a10 q12 x0.Head.V :: Fr)) N ?_ ?_
               · exact ⟨0, rfl, hp, hc⟩
               · clear hp hc; intro m vs u w59 hJ; obtain ⟨j58, rfl, hp, hc⟩ := hJ; rcases m with _ | m4
                 · cases (show none = some r from hp)
                 rw [law13_keeps.L4] at hp; refine Wseq (Wseq (Wreg ?_)); refine au 2 rfl <| sz (ln rfl U110) <| au 1 rfl <| rn (qn ?_); refine Wif hp (fun _ h => ?_) fun _ h => ?_
                 · replace hp := h; clear h; refine Wexit (qx (qx (be (bn (qn ?_))))); replace hc := hc.m [5, 3, 2, 16, 16, 16, 16, 16, 16, 16]; exact ⟨⟨rfl, hp, hc⟩, (kl rfl (km rfl (kl rfl (km rfl (kl rfl kb)))))⟩
                 · replace hp := h; clear h; refine Wskip (qn (Wseq (Wblk ?_))); refine Wseqm (rg [14, 2, 77, 9]) [14, 15] (fun vs w' => ∃ j62 : Int, ∃ j63 : Int, ∃ j64 : Bool, ∃ b61 : Nat, vs = [pt b61 0, .bool j64] ∧ law13_keeps.J5 N x0 x3 j29 r32 j58 (law13_keeps.L4 N x0 x3 j29 r32 (law13_keeps.L1 N x0 x1 x2 x3 r23 m1) m4) j62 j63 j64 = some r ∧ Ctx w' (S_ref08_Run.hp b3 x3 :: Own (pRo (pInt .i8)) 30 (.slice a33 r32.1.length q35) r32.1 :: Own (pRo (pInt .i8)) 30 (.slice a36 r32.2.length q38) r32.2 :: S_cache_Store.hp b1 x1 :: B b25 [.int .i64 r23.c0, .int .i64 r23.c1] 89 :: B b20 (S_api_Spot.cz x2) 55 :: B b17 (S_api_Shard.cz x0 a1 q3 a4 q6 a7 q9 a10 q12) 41 :: hR .i8 a1 q3 x0.Embed.V :: hS S_api_Block.pr a4 q6 x0.Blocks :: hR .i8 a7 q9 x0.Last :: hR .i8 a10 q12 x0.Head.V :: B b61 [.int .i64 j62, .int .i64 j63] 89 :: Fr)) ?_ ?_
                   · replace hp := bind_some hp; obtain ⟨y100596, hy100596, hp⟩ := hp; replace hp := bind_some hp; obtain ⟨r100597, hr100597, hp⟩ := hp; refine Wrg rfl ?_; refine RGsplit 5 9 rfl ?_ ?_
                     · replace hc := hc.drew; refine RGleaf [0, 1, 2, 3, 4, 5, 6, 7, 8, 9, 10, 11] (fun j w' => True) [0, 0, 0, 6, 14, 31, 63, 127, 127, 63, 767, 2047] 0 17 (by kernel_rfl) (by kernel_rfl) (fun _ _ => trivial) ?_; generalize hw : World.drew w59 = w65 at *; clear hw; refine dx (v := .agg (S_api_Shard.cz x0 a1 q3 a4 q6 a7 q9 a10 q12).toArray) rfl (ldg rfl G41 Z41 rfl (Ctx.cells hc (k := 6) rfl rfl 0 (vs := (S_api_Shard.cz x0 a1 q3 a4 q6 a7 q9 a10 q12)) rfl)) rfl rfl <| ad_ 2 rfl ?_; obtain ⟨b68, o69, rfl, hi66, hi67⟩ := hc.ra 1 reads_own hy100596; refine ds rfl (fun w' hF => ixx rfl rfl U110 Z30 hi66 hi67 rfl) rfl ?_; replace hc := Ctx.rdCell hc (k := 1) rfl rfl reads_own hy100596; obtain ⟨cs71, hc, hcell72⟩ := hc; replace hc := Ctx.holdRo hc; obtain ⟨v76, u73, hc⟩ := hc; subst u73; obtain ⟨a74, q75, u73⟩ := hc.rd (k := 0) rfl rfl reads_ro; subst u73; refine dx rfl (ld rfl G30 (hcell72 0 _ rfl)) rfl rfl ?_; replace hc := hc.dz 8; replace hc := hc.dz 10; replace hc := hc.dz 12; replace hc := hc.dz 14; replace hc := hc.dz 4; replace hc := hc.m [2, 4, 6, 8]; refine dc (cl C26 rfl rfl) rfl rfl ?_; refine block_Rows_any (x0 := x0) reads_ro hc hr100597 ?_; clear hc; intro w77 hc; refine ⟨fun j hj hb => trivial, ?_⟩; refine ad_ 3 rfl ?_; refine deE (Ctx.allocOp (cs := [.int .i64 0, .int .i64 0]) hc V89 rfl) rfl rfl ?_; clear hc; rintro _ w80 ⟨b78, rfl, hc⟩; refine ⟨fun j hj hb => trivial, ?_⟩; refine pad hc 0 Z89 ?_; clear hc; rintro w81 hc; refine ⟨fun j hj hb => trivial, ?_⟩; refine ad_ 1 rfl <| dn (qn ?_); replace hc := hc.m [5, 3, 22, 22, 22, 22, 22, 22, 22, 22, 22, 22, 22]; exact ⟨⟨r100597.1.c0, r100597.1.c1, r100597.2, b78, rfl, hp, hc⟩, (kl rfl kb)⟩
                     · obtain ⟨b82, o83, rfl, hi85, hi86⟩ := hc.ra 1 reads_own hy100596; replace hc := Ctx.pnAt hc (k := 1) rfl rfl reads_own hy100596; obtain ⟨cs87, hc⟩ := hc; replace hc := Ctx.holdRo hc; obtain ⟨v91, u88, hc⟩ := hc; subst u88; obtain ⟨a89, q90, u88⟩ := hc.rd (k := 0) rfl rfl reads_ro; subst u88; replace hc : Ctx w59 (hR .i8 a89 q90 y100596 :: S_ref08_Run.hp b3 x3 :: Pn (Own (pRo (pInt .i8)) 30 (.slice (some ⟨b82, o83, none⟩) r32.1.length q35) r32.1) b82 (o83 + (j58).toNat * 1) [.slice a89 y100596.length q90] :: Own (pRo (pInt .i8)) 30 (.slice a36 r32.2.length q38) r32.2 :: S_cache_Store.hp b1 x1 :: B b25 [.int .i64 r23.c0, .int .i64 r23.c1] 89 :: B b20 (S_api_Spot.cz x2) 55 :: B b17 (S_api_Shard.cz x0 a1 q3 a4 q6 a7 q9 a10 q12) 41 :: hR .i8 a1 q3 x0.Embed.V :: hS S_api_Block.pr a4 q6 x0.Blocks :: hR .i8 a7 q9 x0.Last :: hR .i8 a10 q12 x0.Head.V :: Fr) := hc; replace hc := hc.drew; refine RGleaf [0, 1, 2, 3, 4, 9, 5, 6, 7, 8, 10, 11] (fun j w' => (j = 0 → ∀ j v, ((S_api_Shard.cz x0 a1 q3 a4 q6 a7 q9 a10 q12) : List Value)[j]? = some v → w'.cell? ((⟨b17, 0, none⟩ : Addr).add j) = some v) ∧ (j = 4 → w'.cell? ⟨b82, o83 + (j58).toNat * 1 + 0, none⟩ = some (.slice a89 y100596.length q90)) ∧ True) [0, 0, 0, 6, 14, 0, 63, 127, 255, 255, 511, 2047] 0 0 (by kernel_rfl) (by kernel_rfl) (fun j hj => ⟨fun _ => Ctx.cells hc (k := 7) rfl rfl 0 (vs := (S_api_Shard.cz x0 a1 q3 a4 q6 a7 q9 a10 q12)) rfl, fun _ => Ctx.pnCell hc (k := 2) rfl rfl (fun _ _ _ h => h) 0 _ rfl, trivial⟩) ?_; generalize hw : World.drew w59 = w92 at *; clear hw; refine ds (v := .agg (S_api_Shard.cz x0 a1 q3 a4 q6 a7 q9 a10 q12).toArray) rfl (fun w' hF => ldg rfl G41 Z41 rfl (hF.1 rfl)) rfl <| ad_ 2 rfl <| ds rfl (fun w' hF => ixx rfl rfl U110 Z30 hi85 hi86 rfl) rfl <| ds rfl (fun w' hF => ld rfl G30 ((hF.2.1 rfl))) rfl ?_; refine deE (Ctx.allocOp (cs := [.int .i64 0, .int .i64 0]) hc V89 rfl) rfl rfl ?_; clear hc; rintro _ w95 ⟨b93, rfl, hc⟩; refine ⟨fun j hj hb => ⟨fun _ => Ctx.cells hc (k := 8) rfl rfl 0 (vs := (S_api_Shard.cz x0 a1 q3 a4 q6 a7 q9 a10 q12)) rfl, fun _ => Ctx.pnCell hc (k := 3) rfl rfl (fun _ _ _ h => h) 0 _ rfl, trivial⟩, ?_⟩; replace hc := hc.dz 9; replace hc := hc.dz 11; replace hc := hc.dz 13; replace hc := hc.dz 15; replace hc := hc.dz 5; replace hc := hc.m [2, 4, 6, 8]; refine dc (cl C26 rfl rfl) rfl rfl ?_; refine block_Rows_any (x0 := x0) reads_ro hc hr100597 ?_; clear hc; intro w96 hc; refine ⟨fun j hj hb => ⟨fun e => nja hj e, fun e => nja hj e, trivial⟩, ?_⟩; refine ad_ 3 rfl ?_; refine pad hc 1 Z89 ?_; clear hc; rintro w97 hc; refine ⟨fun j hj hb => ⟨fun e => nja hj e, fun e => nja hj e, trivial⟩, ?_⟩; refine ad_ 1 rfl ?_; replace hc := Ctx.pnB hc (k := 4) rfl rfl rfl; replace hc := Ctx.n4 hc; refine dn (qn ?_); replace hc := hc.m [5, 1, 22, 22, 22, 22, 22, 22, 22, 22, 22, 22, 22]; exact ⟨⟨r100597.1.c0, r100597.1.c1, r100597.2, b93, rfl, hp, hc⟩, (kl rfl kb)⟩
                   · clear hp hc; intro vs u w98 hJ; obtain ⟨j62, j63, j64, b61, rfl, hp, hc⟩ := hJ; unfold law13_keeps.J5 at hp; refine Wseq ?_; replace hc := S_ref08_Run.uf hc; obtain ⟨a99, q100, a101, q102, a103, q104, a105, q106, a107, q108, hc⟩ := hc; replace hc := hc.drew; refine Wdrw (fun j w' => True) (0 :: 1 :: 3 :: 7 :: 15 :: 31 :: 63 :: 127 :: 255 :: 511 :: 255 :: 1279 :: 3327 :: 8191 :: 16383 :: 32767 :: 65535 :: 131071 :: 65535 :: 327679 :: 1048575 :: 2097151 :: 4194303 :: 8388607 :: 8388607 :: 33554431 :: 67108863 :: 8388607 :: 142606335 :: 411041791 :: 947912703 :: 8388607 :: 4169138175 :: 8464105471 :: 17054040063 :: 8388607 :: 68593647615 :: 137313124351 :: 8388607 :: 274886295551 :: 8388607 :: 1099520016383 :: 4397920681983 :: 8796093022207 :: 17592186044415 :: 35184372088831 :: 70368744177663 :: 140737488355327 :: 140737488355327 :: 562949953421311 :: 1125899906842623 :: 140737488355327 :: 2392537302040575 :: 6896136929411071 :: 15903336184152063 :: 140737488355327 :: 69946531712598015 :: 142004125750525951 :: 286119313826381823 :: 140737488355327 :: 1150810442281517055 :: 2303731946888364031 :: 140737488355327 :: 4611826755915743231 :: 140737488355327 :: 18446884811197906943 :: 73784865232512876543 :: 147573952589676412927 :: 295147905179352825855 :: 590295810358705651711 :: []) 0 48730076772595012112 rfl (by kernel_rfl) (fun _ _ => trivial) ?_; generalize hw : World.drew w98 = w109 at *; clear hw; refine ad_ 1 rfl ?_; cases hb110 : j64
                     · replace hp := gneg hp (by rw [hb110]; exact Bool.false_ne_true); subst hb110; refine ad_ 2 rfl ?_; (iterate 3 refine d0 rfl rfl ?_); refine ad_ 2 rfl ?_; (iterate 6 refine d0 rfl rfl ?_); refine ad_ 2 rfl ?_; (iterate 5 refine d0 rfl rfl ?_); refine ad_ 2 rfl ?_; (iterate 22 refine d0 rfl rfl ?_); refine ad_ 2 rfl ?_; (iterate 22 refine d0 rfl rfl ?_); refine ad_ 1 rfl <| dn (qn (Wct rfl (Wseq (Wreg ?_)))); refine au 1 rfl <| rn (qn (Wret (br (qr (qr (br (br (qr (qr (br (qr ?_))))))))))); replace hc := hc.m [10, 10, 10, 10, 10, 10]; replace hc := S_ref08_Run.fd (x := x3) hc; replace hc := hc.m [23, 21, 19, 17, 15, 13, 11, 9, 5, 3, 2]; obtain rfl := sj hp; exact fz R22 M22 (k _ hc)
                     · replace hp := gpos hp hb110; subst hb110; refine ad_ 2 rfl <| ds (v := pt b61 0) rfl (fun w' hF => ixa (i := 0) rfl rfl U89 Z3 (by decide) (by decide) (by decide) (by decide) rfl) rfl <| dx rfl (ld rfl G3 (Ctx.cell hc (k := 16) rfl rfl rfl)) rfl rfl <| ad_ 3 rfl ?_; cases hb111 : (decide (j62 < 0))
                       · replace hp := gneg hp (of_decide_eq_false hb111); refine ds (v := pt b61 1) rfl (fun w' hF => ixa (i := 1) rfl rfl U89 Z3 (by decide) (by decide) (by decide) (by decide) rfl) rfl <| dx rfl (ld rfl G3 (Ctx.cell hc (k := 16) rfl rfl rfl)) rfl rfl <| ds (v := pt b17 0) rfl (fun w' hF => fax 0 rfl U41 rfl Z29 rfl rfl rfl) rfl <| ds (v := pt b17 1) rfl (fun w' hF => fax 1 rfl U29 rfl Z3 rfl rfl rfl) rfl <| dx rfl (ld rfl G3 (Ctx.cell hc (k := 11) rfl rfl rfl)) rfl rfl <| ad_ 3 rfl ?_; cases hb112 : (decide (j63 > x0.Shape.Width))
                         · replace hp := gneg hp (of_decide_eq_false hb112); refine ds (v := pt b61 0) rfl (fun w' hF => ixa (i := 0) rfl rfl U89 Z3 (by decide) (by decide) (by decide) (by decide) rfl) rfl <| dx rfl (ld rfl G3 (Ctx.cell hc (k := 16) rfl rfl rfl)) rfl rfl <| ds (v := pt b61 1) rfl (fun w' hF => ixa (i := 1) rfl rfl U89 Z3 (by decide) (by decide) (by decide) (by decide) rfl) rfl <| dx rfl (ld rfl G3 (Ctx.cell hc (k := 16) rfl rfl rfl)) rfl rfl <| ad_ 3 rfl ?_; cases hb113 : (decide (j62 > j63))
                           · replace hp := gneg hp (of_decide_eq_false hb113); refine ad_ 2 rfl ?_; replace hp := bind_some hp; obtain ⟨y114, hy114, hp⟩ := hp; obtain ⟨b117, o118, rfl, hi115, hi116⟩ := hc.ra 6 reads_own hy114; refine ds rfl (fun w' hF => ixx rfl rfl U110 Z30 hi115 hi116 rfl) rfl ?_; replace hc := Ctx.rdCell hc (k := 6) rfl rfl reads_own hy114; obtain ⟨cs120, hc, hcell121⟩ := hc; replace hc := Ctx.holdRo hc; obtain ⟨v125, u122, hc⟩ := hc; subst u122; obtain ⟨a123, q124, u122⟩ := hc.rd (k := 0) rfl rfl reads_ro; subst u122; refine dx rfl (ld rfl G30 (hcell121 0 _ rfl)) rfl rfl <| ad_ 2 rfl <| ds (v := pt b3 14) rfl (fun w' hF => fax 14 rfl U77 rfl Z75 rfl rfl rfl) rfl <| dx rfl (ld rfl G75 (Ctx.cell hc (k := 1) rfl rfl rfl)) rfl rfl <| ad_ 1 rfl ?_; replace hp := bind_some hp; obtain ⟨y126, hy126, hp⟩ := hp; replace hc := hc.m [12]; replace hc := Ctx.ownVF hc; obtain ⟨hs127, hl130, hc⟩ := hc; replace hc := Ctx.bigF hc.swap hy126; obtain ⟨a129, ha128, hc⟩ := hc; replace hc := Ctx.exF hc; obtain ⟨v132, hc⟩ := hc; replace hc := Ctx.exF hc; obtain ⟨v133, hc⟩ := hc; replace hc := Ctx.sepF hc; replace hc := Ctx.sepF hc; replace hc := Ctx.puF hc; obtain ⟨⟨u131, _⟩, hc⟩ := hc; subst u131; obtain ⟨a134, q135, u136⟩ := hc.rd (k := 0) rfl rfl reads_own; subst u136; obtain ⟨a137, q138, u139⟩ := hc.rd (k := 1) rfl rfl reads_own; subst u139; have hln := Ctx.rdLen hc (k := 3) rfl rfl reads_own; obtain ⟨b142, o143, u144, hi140, hi141⟩ := Ctx.rdAt hc (k := 3) rfl rfl reads_own ha128; clear hln; subst u144; refine ds rfl (fun w' hF => ixx rfl rfl U75 Z132 hi140 hi141 rfl) rfl <| ds (v := .pointer (some ⟨b142, o143 + (j58).toNat * 2 + 0, none⟩)) rfl (fun w' hF => fax 0 rfl U132 rfl Z110 rfl rfl rfl) rfl <| dx rfl (ld rfl G110 (Ctx.rdAny hc (k := 3) rfl rfl ha128 0 _ rfl)) rfl rfl <| ad_ 1 rfl ?_; replace hp := bind_some hp; obtain ⟨y145, hy145, hp⟩ := hp; obtain ⟨b148, o149, rfl, hi146, hi147⟩ := hc.ra 0 reads_own hy145; refine ds rfl (fun w' hF => ixx rfl rfl U110 Z30 hi146 hi147 rfl) rfl ?_; replace hc := Ctx.rdCell hc (k := 0) rfl rfl reads_own hy145; obtain ⟨cs151, hc, hcell152⟩ := hc; replace hc := Ctx.holdRo hc; obtain ⟨v156, u153, hc⟩ := hc; subst u153; obtain ⟨a154, q155, u153⟩ := hc.rd (k := 0) rfl rfl reads_ro; subst u153; refine dx rfl (ld rfl G30 (hcell152 0 _ rfl)) rfl rfl <| ds (v := pt b61 0) rfl (fun w' hF => ixa (i := 0) rfl rfl U89 Z3 (by decide) (by decide) (by decide) (by decide) rfl) rfl <| dx rfl (ld rfl G3 (Ctx.cell hc (k := 21) rfl rfl rfl)) rfl rfl <| ds (v := pt b61 1) rfl (fun w' hF => ixa (i := 1) rfl rfl U89 Z3 (by decide) (by decide) (by decide) (by decide) rfl) rfl <| dx rfl (ld rfl G3 (Ctx.cell hc (k := 21) rfl rfl rfl)) rfl rfl ?_; replace hp := chk_some hp; obtain ⟨hg157, hp⟩ := hp; obtain ⟨hl161, hq162⟩ := Ctx.rdLen hc (k := 0) rfl rfl reads_ro; have rd160 := reads_sub (lo := (j62).toNat) (hi := (j63).toNat) ((reads_ro : Reads (hR .i8 a154 q155 y145) (pInt .i8) (.slice a154 y145.length q155) y145)) (by omega) (by omega); refine ds (v := .slice (if q155 = (j62).toNat then a154 else Option.map (fun x => x.add ((j62).toNat * 1)) a154) ((j63).toNat - (j62).toNat) (q155 - (j62).toNat)) rfl (fun w' hF => run_sub (li := some j62) (hi' := some j63) rfl ⟨_, rfl⟩ ⟨_, rfl⟩ U30 Z88 hg157 hq162) rfl ?_; replace hc := hc.dz 5; replace hc := hc.dz 1; replace hp := bind_some hp; obtain ⟨r163, hr163, hp⟩ := hp; replace hc := hc.m [2]; refine dc (cl C58 rfl rfl) rfl rfl ?_; refine ref04_Bytes_any reads_ro rd160 hc hr163 ?_; clear hc; intro w164 hc; refine ⟨fun j hj hb => trivial, ?_⟩; cases hb165 : r163
                             · replace hp := gneg hp (by rw [hb165]; exact Bool.false_ne_true); subst hb165; refine ad_ 3 rfl ?_; (iterate 22 refine d0 rfl rfl ?_); refine ad_ 1 rfl <| dn (qn (Wct rfl (Wseq (Wreg ?_)))); refine au 1 rfl <| rn (qn (Wret (br (qr (qr (br (br (qr (qr (br (qr ?_))))))))))); replace hc := hc.m [8, 8]; replace hc : Ctx w164 (S_ref08_Kept.vp.r [.slice (some ⟨b148, o149, none⟩) y126.K.length q135, .slice a137 y126.V.length q138] y126 :: hR .i8 a123 q124 y114 :: hR .i8 a154 q155 y145 :: hR .i8 a154 q155 y145 :: BigH S_ref08_Kept.vp.r hs127 x3.L j58 :: Own (pAny 2) 132 (.slice (some ⟨b142, o143, none⟩) x3.L.length q108) hs127 :: hR .i8 a123 q124 y114 :: B b3 [.int .i64 x3.W.Shape.Layers, .int .i64 x3.W.Shape.Width, .int .i64 x3.W.Shape.Heads, .int .i64 x3.W.Shape.Inner, .int .i64 x3.W.Shape.Vocab, .int .i64 x3.W.Shape.Places, .int .i64 x3.W.Embed.Rows, .int .i64 x3.W.Embed.Cols, .slice a99 x3.W.Embed.V.length q100, .slice a101 x3.W.Blocks.length q102, .slice a103 x3.W.Last.length q104, .int .i64 x3.W.Head.Rows, .int .i64 x3.W.Head.Cols, .slice a105 x3.W.Head.V.length q106, .slice (some ⟨b142, o143, none⟩) x3.L.length q108] 77 :: hR .i8 a99 q100 x3.W.Embed.V :: hS S_api_Block.pr a101 q102 x3.W.Blocks :: hR .i8 a103 q104 x3.W.Last :: hR .i8 a105 q106 x3.W.Head.V :: Own (pRo (pInt .i8)) 30 (.slice (some ⟨b117, o118, none⟩) r32.1.length q35) r32.1 :: Own (pRo (pInt .i8)) 30 (.slice a36 r32.2.length q38) r32.2 :: S_cache_Store.hp b1 x1 :: B b25 [.int .i64 r23.c0, .int .i64 r23.c1] 89 :: B b20 (S_api_Spot.cz x2) 55 :: B b17 (S_api_Shard.cz x0 a1 q3 a4 q6 a7 q9 a10 q12) 41 :: hR .i8 a1 q3 x0.Embed.V :: hS S_api_Block.pr a4 q6 x0.Blocks :: hR .i8 a7 q9 x0.Last :: hR .i8 a10 q12 x0.Head.V :: B b61 [.int .i64 j62, .int .i64 j63] 89 :: Fr) := Ctx.exB _ _ (Ctx.exB _ _ (Ctx.sepB (Ctx.sepB (Ctx.puB ⟨rfl, rfl⟩ hc)))); replace hc := hc.m [10, 10, 4]; replace hc := Ctx.bigB0 hc ha128 hy126; replace hc : Ctx w164 (OwnV S_ref08_Kept.vp 132 (.slice (some ⟨b142, o143, none⟩) x3.L.length q108) x3.L :: hR .i8 a123 q124 y114 :: hR .i8 a154 q155 y145 :: hR .i8 a154 q155 y145 :: hR .i8 a123 q124 y114 :: B b3 [.int .i64 x3.W.Shape.Layers, .int .i64 x3.W.Shape.Width, .int .i64 x3.W.Shape.Heads, .int .i64 x3.W.Shape.Inner, .int .i64 x3.W.Shape.Vocab, .int .i64 x3.W.Shape.Places, .int .i64 x3.W.Embed.Rows, .int .i64 x3.W.Embed.Cols, .slice a99 x3.W.Embed.V.length q100, .slice a101 x3.W.Blocks.length q102, .slice a103 x3.W.Last.length q104, .int .i64 x3.W.Head.Rows, .int .i64 x3.W.Head.Cols, .slice a105 x3.W.Head.V.length q106, .slice (some ⟨b142, o143, none⟩) x3.L.length q108] 77 :: hR .i8 a99 q100 x3.W.Embed.V :: hS S_api_Block.pr a101 q102 x3.W.Blocks :: hR .i8 a103 q104 x3.W.Last :: hR .i8 a105 q106 x3.W.Head.V :: Own (pRo (pInt .i8)) 30 (.slice (some ⟨b117, o118, none⟩) r32.1.length q35) r32.1 :: Own (pRo (pInt .i8)) 30 (.slice a36 r32.2.length q38) r32.2 :: S_cache_Store.hp b1 x1 :: B b25 [.int .i64 r23.c0, .int .i64 r23.c1] 89 :: B b20 (S_api_Spot.cz x2) 55 :: B b17 (S_api_Shard.cz x0 a1 q3 a4 q6 a7 q9 a10 q12) 41 :: hR .i8 a1 q3 x0.Embed.V :: hS S_api_Block.pr a4 q6 x0.Blocks :: hR .i8 a7 q9 x0.Last :: hR .i8 a10 q12 x0.Head.V :: B b61 [.int .i64 j62, .int .i64 j63] 89 :: Fr) := Ctx.ownVB hc.swap; replace hc := hc.m [18, 18, 18, 18, 18]; replace hc := S_ref08_Run.fd (x := x3) hc; replace hc := hc.m [31, 29, 27, 25, 23, 21, 19, 17, 13, 11, 9, 7, 5, 3, 2]; obtain rfl := sj hp; exact fz R22 M22 (k _ hc)
                             · replace hp := gpos hp hb165; subst hb165; refine ad_ 5 rfl ?_; replace hp := bind_some hp; obtain ⟨y166, hy166, hp⟩ := hp; obtain ⟨b169, o170, rfl, hi167, hi168⟩ := hc.ra 14 reads_own hy166; refine ds rfl (fun w' hF => ixx rfl rfl U110 Z30 hi167 hi168 rfl) rfl ?_; replace hc := Ctx.rdCell hc (k := 14) rfl rfl reads_own hy166; obtain ⟨cs172, hc, hcell173⟩ := hc; replace hc := Ctx.holdRo hc; obtain ⟨v177, u174, hc⟩ := hc; subst u174; obtain ⟨a175, q176, u174⟩ := hc.rd (k := 0) rfl rfl reads_ro; subst u174; refine dx rfl (ld rfl G30 (hcell173 0 _ rfl)) rfl rfl <| ad_ 2 rfl <| ds (v := pt b3 14) rfl (fun w' hF => fax 14 rfl U77 rfl Z75 rfl rfl rfl) rfl <| dx rfl (ld rfl G75 (Ctx.cell hc (k := 9) rfl rfl rfl)) rfl rfl <| ad_ 1 rfl ?_; have hln := Ctx.rdLen hc (k := 7) rfl rfl reads_own; obtain ⟨b180, o181, u182, hi178, hi179⟩ := Ctx.rdAt hc (k := 7) rfl rfl reads_own ha128; clear hln; clear u182; refine ds rfl (fun w' hF => ixx rfl rfl U75 Z132 hi178 hi179 rfl) rfl <| ds (v := .pointer (some ⟨b142, o143 + (j58).toNat * 2 + 1, none⟩)) rfl (fun w' hF => fax 1 rfl U132 rfl Z110 rfl rfl rfl) rfl <| dx rfl (ld rfl G110 (Ctx.rdAny hc (k := 7) rfl rfl ha128 1 _ rfl)) rfl rfl <| ad_ 1 rfl ?_; replace hp := bind_some hp; obtain ⟨y183, hy183, hp⟩ := hp; obtain ⟨b186, o187, rfl, hi184, hi185⟩ := hc.ra 5 reads_own hy183; refine ds rfl (fun w' hF => ixx rfl rfl U110 Z30 hi184 hi185 rfl) rfl ?_; replace hc := Ctx.rdCell hc (k := 5) rfl rfl reads_own hy183; obtain ⟨cs189, hc, hcell190⟩ := hc; replace hc := Ctx.holdRo hc; obtain ⟨v194, u191, hc⟩ := hc; subst u191; obtain ⟨a192, q193, u191⟩ := hc.rd (k := 0) rfl rfl reads_ro; subst u191; refine dx rfl (ld rfl G30 (hcell190 0 _ rfl)) rfl rfl <| ds (v := pt b61 0) rfl (fun w' hF => ixa (i := 0) rfl rfl U89 Z3 (by decide) (by decide) (by decide) (by decide) rfl) rfl <| dx rfl (ld rfl G3 (Ctx.cell hc (k := 25) rfl rfl rfl)) rfl rfl <| ds (v := pt b61 1) rfl (fun w' hF => ixa (i := 1) rfl rfl U89 Z3 (by decide) (by decide) (by decide) (by decide) rfl) rfl <| dx rfl (ld rfl G3 (Ctx.cell hc (k := 25) rfl rfl rfl)) rfl rfl ?_; replace hp := chk_some hp; obtain ⟨hg195, hp⟩ := hp; obtain ⟨hl199, hq200⟩ := Ctx.rdLen hc (k := 0) rfl rfl reads_ro; have rd198 := reads_sub (lo := (j62).toNat) (hi := (j63).toNat) ((reads_ro : Reads (hR .i8 a192 q193 y183) (pInt .i8) (.slice a192 y183.length q193) y183)) (by omega) (by omega); refine ds (v := .slice (if q193 = (j62).toNat then a192 else Option.map (fun x => x.add ((j62).toNat * 1)) a192) ((j63).toNat - (j62).toNat) (q193 - (j62).toNat)) rfl (fun w' hF => run_sub (li := some j62) (hi' := some j63) rfl ⟨_, rfl⟩ ⟨_, rfl⟩ U30 Z88 hg195 hq200) rfl ?_; replace hc := hc.dz 1; replace hc := hc.dz 1; replace hp := bind_some hp; obtain ⟨r201, hr201, hp⟩ := hp; replace hc := hc.m [2]; refine dc (cl C58 rfl rfl) rfl rfl ?_; refine ref04_Bytes_any reads_ro rd198 hc hr201 ?_; clear hc; intro w202 hc; refine ⟨fun j hj hb => trivial, ?_⟩; cases hb203 : r201
                               · replace hp := gneg hp (by rw [hb203]; exact Bool.false_ne_true); subst hb203; refine ad_ 2 rfl <| dn (qn (Wct rfl (Wseq (Wreg ?_)))); refine au 1 rfl <| rn (qn (Wret (br (qr (qr (br (br (qr (qr (br (qr ?_))))))))))); replace hc := hc.m [16, 16]; replace hc : Ctx w202 (S_ref08_Kept.vp.r [.slice (some ⟨b148, o149, none⟩) y126.K.length q135, .slice (some ⟨b186, o187, none⟩) y126.V.length q138] y126 :: hR .i8 a175 q176 y166 :: hR .i8 a192 q193 y183 :: hR .i8 a192 q193 y183 :: hR .i8 a175 q176 y166 :: hR .i8 a123 q124 y114 :: hR .i8 a154 q155 y145 :: hR .i8 a154 q155 y145 :: BigH S_ref08_Kept.vp.r hs127 x3.L j58 :: Own (pAny 2) 132 (.slice (some ⟨b142, o143, none⟩) x3.L.length q108) hs127 :: hR .i8 a123 q124 y114 :: B b3 [.int .i64 x3.W.Shape.Layers, .int .i64 x3.W.Shape.Width, .int .i64 x3.W.Shape.Heads, .int .i64 x3.W.Shape.Inner, .int .i64 x3.W.Shape.Vocab, .int .i64 x3.W.Shape.Places, .int .i64 x3.W.Embed.Rows, .int .i64 x3.W.Embed.Cols, .slice a99 x3.W.Embed.V.length q100, .slice a101 x3.W.Blocks.length q102, .slice a103 x3.W.Last.length q104, .int .i64 x3.W.Head.Rows, .int .i64 x3.W.Head.Cols, .slice a105 x3.W.Head.V.length q106, .slice (some ⟨b142, o143, none⟩) x3.L.length q108] 77 :: hR .i8 a99 q100 x3.W.Embed.V :: hS S_api_Block.pr a101 q102 x3.W.Blocks :: hR .i8 a103 q104 x3.W.Last :: hR .i8 a105 q106 x3.W.Head.V :: Own (pRo (pInt .i8)) 30 (.slice (some ⟨b117, o118, none⟩) r32.1.length q35) r32.1 :: Own (pRo (pInt .i8)) 30 (.slice (some ⟨b169, o170, none⟩) r32.2.length q38) r32.2 :: S_cache_Store.hp b1 x1 :: B b25 [.int .i64 r23.c0, .int .i64 r23.c1] 89 :: B b20 (S_api_Spot.cz x2) 55 :: B b17 (S_api_Shard.cz x0 a1 q3 a4 q6 a7 q9 a10 q12) 41 :: hR .i8 a1 q3 x0.Embed.V :: hS S_api_Block.pr a4 q6 x0.Blocks :: hR .i8 a7 q9 x0.Last :: hR .i8 a10 q12 x0.Head.V :: B b61 [.int .i64 j62, .int .i64 j63] 89 :: Fr) := Ctx.exB _ _ (Ctx.exB _ _ (Ctx.sepB (Ctx.sepB (Ctx.puB ⟨rfl, rfl⟩ hc)))); replace hc := hc.m [18, 18, 4]; replace hc := Ctx.bigB0 hc ha128 hy126; replace hc : Ctx w202 (OwnV S_ref08_Kept.vp 132 (.slice (some ⟨b142, o143, none⟩) x3.L.length q108) x3.L :: hR .i8 a175 q176 y166 :: hR .i8 a192 q193 y183 :: hR .i8 a192 q193 y183 :: hR .i8 a175 q176 y166 :: hR .i8 a123 q124 y114 :: hR .i8 a154 q155 y145 :: hR .i8 a154 q155 y145 :: hR .i8 a123 q124 y114 :: B b3 [.int .i64 x3.W.Shape.Layers, .int .i64 x3.W.Shape.Width, .int .i64 x3.W.Shape.Heads, .int .i64 x3.W.Shape.Inner, .int .i64 x3.W.Shape.Vocab, .int .i64 x3.W.Shape.Places, .int .i64 x3.W.Embed.Rows, .int .i64 x3.W.Embed.Cols, .slice a99 x3.W.Embed.V.length q100, .slice a101 x3.W.Blocks.length q102, .slice a103 x3.W.Last.length q104, .int .i64 x3.W.Head.Rows, .int .i64 x3.W.Head.Cols, .slice a105 x3.W.Head.V.length q106, .slice (some ⟨b142, o143, none⟩) x3.L.length q108] 77 :: hR .i8 a99 q100 x3.W.Embed.V :: hS S_api_Block.pr a101 q102 x3.W.Blocks :: hR .i8 a103 q104 x3.W.Last :: hR .i8 a105 q106 x3.W.Head.V :: Own (pRo (pInt .i8)) 30 (.slice (some ⟨b117, o118, none⟩) r32.1.length q35) r32.1 :: Own (pRo (pInt .i8)) 30 (.slice (some ⟨b169, o170, none⟩) r32.2.length q38) r32.2 :: S_cache_Store.hp b1 x1 :: B b25 [.int .i64 r23.c0, .int .i64 r23.c1] 89 :: B b20 (S_api_Spot.cz x2) 55 :: B b17 (S_api_Shard.cz x0 a1 q3 a4 q6 a7 q9 a10 q12) 41 :: hR .i8 a1 q3 x0.Embed.V :: hS S_api_Block.pr a4 q6 x0.Blocks :: hR .i8 a7 q9 x0.Last :: hR .i8 a10 q12 x0.Head.V :: B b61 [.int .i64 j62, .int .i64 j63] 89 :: Fr) := Ctx.ownVB hc.swap; replace hc := hc.m [26, 26, 26, 26, 26]; replace hc := S_ref08_Run.fd (x := x3) hc; replace hc := hc.m [39, 37, 35, 33, 31, 29, 27, 25, 21, 19, 17, 15, 13, 11, 9, 7, 5, 3, 2]; obtain rfl := sj hp; exact fz R22 M22 (k _ hc)
                               · replace hp := gpos hp hb203; subst hb203; refine ad_ 2 rfl <| dn (qn (Wcf rfl (Wskip (bn (qn (Wreg ?_)))))); refine au 3 rfl <| rn (qn ?_); replace hc := hc.m [16, 16]; replace hc : Ctx w202 (S_ref08_Kept.vp.r [.slice (some ⟨b148, o149, none⟩) y126.K.length q135, .slice (some ⟨b186, o187, none⟩) y126.V.length q138] y126 :: hR .i8 a175 q176 y166 :: hR .i8 a192 q193 y183 :: hR .i8 a192 q193 y183 :: hR .i8 a175 q176 y166 :: hR .i8 a123 q124 y114 :: hR .i8 a154 q155 y145 :: hR .i8 a154 q155 y145 :: BigH S_ref08_Kept.vp.r hs127 x3.L j58 :: Own (pAny 2) 132 (.slice (some ⟨b142, o143, none⟩) x3.L.length q108) hs127 :: hR .i8 a123 q124 y114 :: B b3 [.int .i64 x3.W.Shape.Layers, .int .i64 x3.W.Shape.Width, .int .i64 x3.W.Shape.Heads, .int .i64 x3.W.Shape.Inner, .int .i64 x3.W.Shape.Vocab, .int .i64 x3.W.Shape.Places, .int .i64 x3.W.Embed.Rows, .int .i64 x3.W.Embed.Cols, .slice a99 x3.W.Embed.V.length q100, .slice a101 x3.W.Blocks.length q102, .slice a103 x3.W.Last.length q104, .int .i64 x3.W.Head.Rows, .int .i64 x3.W.Head.Cols, .slice a105 x3.W.Head.V.length q106, .slice (some ⟨b142, o143, none⟩) x3.L.length q108] 77 :: hR .i8 a99 q100 x3.W.Embed.V :: hS S_api_Block.pr a101 q102 x3.W.Blocks :: hR .i8 a103 q104 x3.W.Last :: hR .i8 a105 q106 x3.W.Head.V :: Own (pRo (pInt .i8)) 30 (.slice (some ⟨b117, o118, none⟩) r32.1.length q35) r32.1 :: Own (pRo (pInt .i8)) 30 (.slice (some ⟨b169, o170, none⟩) r32.2.length q38) r32.2 :: S_cache_Store.hp b1 x1 :: B b25 [.int .i64 r23.c0, .int .i64 r23.c1] 89 :: B b20 (S_api_Spot.cz x2) 55 :: B b17 (S_api_Shard.cz x0 a1 q3 a4 q6 a7 q9 a10 q12) 41 :: hR .i8 a1 q3 x0.Embed.V :: hS S_api_Block.pr a4 q6 x0.Blocks :: hR .i8 a7 q9 x0.Last :: hR .i8 a10 q12 x0.Head.V :: B b61 [.int .i64 j62, .int .i64 j63] 89 :: Fr) := Ctx.exB _ _ (Ctx.exB _ _ (Ctx.sepB (Ctx.sepB (Ctx.puB ⟨rfl, rfl⟩ hc)))); replace hc := hc.m [18, 18, 4]; replace hc := Ctx.bigB0 hc ha128 hy126; replace hc : Ctx w202 (OwnV S_ref08_Kept.vp 132 (.slice (some ⟨b142, o143, none⟩) x3.L.length q108) x3.L :: hR .i8 a175 q176 y166 :: hR .i8 a192 q193 y183 :: hR .i8 a192 q193 y183 :: hR .i8 a175 q176 y166 :: hR .i8 a123 q124 y114 :: hR .i8 a154 q155 y145 :: hR .i8 a154 q155 y145 :: hR .i8 a123 q124 y114 :: B b3 [.int .i64 x3.W.Shape.Layers, .int .i64 x3.W.Shape.Width, .int .i64 x3.W.Shape.Heads, .int .i64 x3.W.Shape.Inner, .int .i64 x3.W.Shape.Vocab, .int .i64 x3.W.Shape.Places, .int .i64 x3.W.Embed.Rows, .int .i64 x3.W.Embed.Cols, .slice a99 x3.W.Embed.V.length q100, .slice a101 x3.W.Blocks.length q102, .slice a103 x3.W.Last.length q104, .int .i64 x3.W.Head.Rows, .int .i64 x3.W.Head.Cols, .slice a105 x3.W.Head.V.length q106, .slice (some ⟨b142, o143, none⟩) x3.L.length q108] 77 :: hR .i8 a99 q100 x3.W.Embed.V :: hS S_api_Block.pr a101 q102 x3.W.Blocks :: hR .i8 a103 q104 x3.W.Last :: hR .i8 a105 q106 x3.W.Head.V :: Own (pRo (pInt .i8)) 30 (.slice (some ⟨b117, o118, none⟩) r32.1.length q35) r32.1 :: Own (pRo (pInt .i8)) 30 (.slice (some ⟨b169, o170, none⟩) r32.2.length q38) r32.2 :: S_cache_Store.hp b1 x1 :: B b25 [.int .i64 r23.c0, .int .i64 r23.c1] 89 :: B b20 (S_api_Spot.cz x2) 55 :: B b17 (S_api_Shard.cz x0 a1 q3 a4 q6 a7 q9 a10 q12) 41 :: hR .i8 a1 q3 x0.Embed.V :: hS S_api_Block.pr a4 q6 x0.Blocks :: hR .i8 a7 q9 x0.Last :: hR .i8 a10 q12 x0.Head.V :: B b61 [.int .i64 j62, .int .i64 j63] 89 :: Fr) := Ctx.ownVB hc.swap; replace hc := hc.m [26, 26, 26, 26, 26]; replace hc := S_ref08_Run.fd (x := x3) hc; replace hc := hc.m [39, 17, 15, 13, 11, 9, 7, 5, 3]; exact ⟨m4, Nat.lt_succ_self _, ⟨(IntKind.i64.wrap (j58 + 1)), rfl, hp, hc⟩, (kl rfl (km rfl (kl rfl k0)))⟩
                           · replace hp := gpos hp (of_decide_eq_true hb113); (iterate 22 refine d0 rfl rfl ?_); refine ad_ 2 rfl ?_; (iterate 22 refine d0 rfl rfl ?_); refine ad_ 1 rfl <| dn (qn (Wct rfl (Wseq (Wreg ?_)))); refine au 1 rfl <| rn (qn (Wret (br (qr (qr (br (br (qr (qr (br (qr ?_))))))))))); replace hc := hc.m [10, 10, 10, 10, 10, 10]; replace hc := S_ref08_Run.fd (x := x3) hc; replace hc := hc.m [23, 21, 19, 17, 15, 13, 11, 9, 5, 3, 2]; obtain rfl := sj hp; exact fz R22 M22 (k _ hc)
                         · replace hp := gpos hp (of_decide_eq_true hb112); (iterate 5 refine d0 rfl rfl ?_); refine ad_ 2 rfl ?_; (iterate 22 refine d0 rfl rfl ?_); refine ad_ 2 rfl ?_; (iterate 22 refine d0 rfl rfl ?_); refine ad_ 1 rfl <| dn (qn (Wct rfl (Wseq (Wreg ?_)))); refine au 1 rfl <| rn (qn (Wret (br (qr (qr (br (br (qr (qr (br (qr ?_))))))))))); replace hc := hc.m [10, 10, 10, 10, 10, 10]; replace hc := S_ref08_Run.fd (x := x3) hc; replace hc := hc.m [23, 21, 19, 17, 15, 13, 11, 9, 5, 3, 2]; obtain rfl := sj hp; exact fz R22 M22 (k _ hc)
                       · replace hp := gpos hp (of_decide_eq_true hb111); (iterate 6 refine d0 rfl rfl ?_); refine ad_ 2 rfl ?_; (iterate 5 refine d0 rfl rfl ?_); refine ad_ 2 rfl ?_; (iterate 22 refine d0 rfl rfl ?_); refine ad_ 2 rfl ?_; (iterate 22 refine d0 rfl rfl ?_); refine ad_ 1 rfl <| dn (qn (Wct rfl (Wseq (Wreg ?_)))); refine au 1 rfl <| rn (qn (Wret (br (qr (qr (br (br (qr (qr (br (qr ?_))))))))))); replace hc := hc.m [10, 10, 10, 10, 10, 10]; replace hc := S_ref08_Run.fd (x := x3) hc; replace hc := hc.m [23, 21, 19, 17, 15, 13, 11, 9, 5, 3, 2]; obtain rfl := sj hp; exact fz R22 M22 (k _ hc)
             · replace hp := h; clear h; refine Wseq (Wreg ?_); refine au 1 rfl <| rn (qn (Wret (qr (br (qr (qr (br (qr ?_)))))))); replace hc := hc.m [10, 10, 10, 10, 10, 10]; replace hc := S_ref08_Run.fd (x := x3) hc; replace hc := hc.m [21, 19, 17, 15, 13, 11, 9, 5, 3, 2]; obtain rfl := sj hp; exact fz R22 M22 (k _ hc)
           · replace hp := gpos hp (of_decide_eq_true hb56); (iterate 8 refine r0 rfl ?_); refine au 1 rfl <| rn (qn (Wct rfl (Wseq (Wreg ?_)))); refine au 1 rfl <| rn (qn (Wret (qr (br (qr (qr (br (qr ?_)))))))); replace hc := hc.m [10, 10, 10, 10, 10, 10]; replace hc := S_ref08_Run.fd (x := x3) hc; replace hc := hc.m [21, 19, 17, 15, 13, 11, 9, 5, 3, 2]; obtain rfl := sj hp; exact fz R22 M22 (k _ hc)
         · replace hp := gpos hp hb45; subst hb45; refine Wct rfl (Wseq (Wseq (Wreg ?_))); refine au 1 rfl <| sz (ln rfl U110) <| au 1 rfl <| rn (qn ?_); refine Wif hp (fun _ h => ?_) fun _ h => ?_
           · replace hp := h; clear h; refine Wskip (qn (Wexit (qx (be (qn ?_))))); replace hc := hc.m [3, 1, 16, 2, 16, 16, 16, 16, 16, 16, 16]; exact ⟨⟨rfl, hp, hc⟩, (kl rfl (km rfl (kl rfl kb)))⟩
           · replace hp := h; clear h; refine Wseq (Wreg ?_); refine au 1 rfl <| rn (qn (Wret (qr (qr (br (qr (qr (br (qr ?_))))))))); replace hc := hc.m [19, 17, 15, 13, 11, 9, 7, 3, 1]; obtain rfl := sj hp; exact fz R22 M22 (k _ hc)
     · clear hp hc; intro vs u w205 hJ; obtain ⟨rfl, hp, hc⟩ := hJ; unfold law13_keeps.J2 at hp; refine Wreg <| au 3 rfl <| rn (qn ?_); exact ⟨m1, Nat.lt_succ_self _, ⟨(IntKind.i64.wrap (j29 + 1)), rfl, hp, hc⟩, (kl rfl (km rfl (kl rfl k0)))⟩

end Go.Proofs.YtbfiagimgokccaaGreat
end
