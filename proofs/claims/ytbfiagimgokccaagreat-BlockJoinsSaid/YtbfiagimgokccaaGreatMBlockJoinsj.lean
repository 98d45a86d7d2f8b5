/- What the law needs. -/
import Derived.Test.YtbfiagimgokccaaGreatMBlockJoinsi
section
set_option maxHeartbeats 8000000
namespace Go.Proofs.YtbfiagimgokccaaGreat
open Go Go.RowKit Go.Hp
set_option linter.unusedVariables false
set_option linter.unusedSimpArgs false
set_option maxRecDepth 100000

def ref01_Near (x0 : Int) (x1 : Int) (x2 : Int) : Option (Int) :=
  if x0 < x1 then
    some x1
  else
    if x0 > x2 then
      some x2
    else
      some x0

theorem ref01_Near_any {x0 : Int} {x1 : Int} {x2 : Int} {Fr : List HP} {w : World} {r : Int} {K : Value → World → Prop}  (hc : Ctx w (Fr)) (hp : ref01_Near x0 x1 x2 = some r)
    (k : ∀ w', Ctx w' (Fr) → K (.int .i64 r) w') : Calls Tryz.prog 51 #[.int .i64 x0, .int .i64 x1, .int .i64 x2] w (Ret K) := by
 unfold ref01_Near at hp; refine Center3 F51 M51 rfl rfl ?_; refine Wseq (Wreg ?_); refine az (.int .i64 0) <| rn (qn (Wseq (Wseq (Wreg ?_)))); refine mz (.int .i64 x0) <| mz (.int .i64 x1) <| sz (lt' rfl rfl) <| rn (qn ?_); cases hb1 : (decide (x0 < x1))
 · replace hp := gneg hp (of_decide_eq_false hb1); refine Wcf rfl (Wskip (qn (Wseq (Wseq (Wreg ?_))))); refine mz (.int .i64 x0) <| mz (.int .i64 x2) <| sz (gt' rfl rfl) <| rn (qn ?_); cases hb2 : (decide (x0 > x2))
   · replace hp := gneg hp (of_decide_eq_false hb2); refine Wcf rfl (Wskip (qn (Wseq (Wreg ?_)))); refine mz (.int .i64 x0) <| az (.int .i64 x0) <| rn (qn (Wret ?_)); obtain rfl := sj hp; refine f1 (v := .int .i64 x0) R51 M51 rfl ?_; exact ⟨_, rfl, k _ hc⟩
   · replace hp := gpos hp (of_decide_eq_true hb2); refine Wct rfl (Wseq (Wreg ?_)); refine mz (.int .i64 x2) <| az (.int .i64 x2) <| rn (qn (Wret (qr ?_))); obtain rfl := sj hp; refine f1 (v := .int .i64 x2) R51 M51 rfl ?_; exact ⟨_, rfl, k _ hc⟩
 · replace hp := gpos hp (of_decide_eq_true hb1); refine Wct rfl (Wseq (Wreg ?_)); refine mz (.int .i64 x1) <| az (.int .i64 x1) <| rn (qn (Wret (qr ?_))); obtain rfl := sj hp; refine f1 (v := .int .i64 x1) R51 M51 rfl ?_; exact ⟨_, rfl, k _ hc⟩

def ref02_above (x0 : Int) (x1 : Int) (x2 : Int) : Option (Bool) :=
  if x0 = 0 then
    some false
  else
    if x1 = 0 then
      some false
    else
      chk (x1 ≠ 0) <|
      chk (x0 ≠ 0) <|
      some (decide (x0 > (IntKind.u64.wrap (Int.tdiv (IntKind.u64.wrap (Int.tdiv x2 x1)) x0))))

theorem ref02_above_any {x0 : Int} {x1 : Int} {x2 : Int} {Fr : List HP} {w : World} {r : Bool} {K : Value → World → Prop}  (hc : Ctx w (Fr)) (hp : ref02_above x0 x1 x2 = some r)
    (k : ∀ w', Ctx w' (Fr) → K (.bool r) w') : Calls Tryz.prog 114 #[.int .u64 x0, .int .u64 x1, .int .u64 x2] w (Ret K) := by
 unfold ref02_above at hp; refine Center3 F114 M114 rfl rfl ?_; refine Wseq (Wreg ?_); refine az (.bool false) <| rn (qn (Wseq (Wseq (Wreg ?_)))); refine mz (.int .u64 x0) <| sz (eqd rfl rfl) ?_; refine mz (.bool (decide (x0 = 0))) ?_; cases hb1 : (decide (x0 = 0))
 · replace hp := gneg hp (of_decide_eq_false hb1); refine mz (.int .u64 x1) <| sz (eqd rfl rfl) ?_; refine sz (v := .bool (decide (x1 = 0))) (pkf (v := .bool (decide (x1 = 0))) rfl rfl) ?_; refine rn (qn ?_); cases hb2 : (decide (x1 = 0))
   · replace hp := gneg hp (of_decide_eq_false hb2); refine Wcf rfl (Wskip (qn (Wseq (Wreg ?_)))); refine mz (.int .u64 x0) <| mz (.int .u64 x2) <| mz (.int .u64 x1) ?_; replace hp := chk_some hp; obtain ⟨hg3, hp⟩ := hp; refine sz (quw rfl rfl hg3) ?_; refine mz (.int .u64 x0) ?_; replace hp := chk_some hp; obtain ⟨hg4, hp⟩ := hp; refine sz (quw rfl rfl hg4) ?_; refine sz (gt' rfl rfl) ?_; refine az (.bool (decide (x0 > (IntKind.u64.wrap (Int.tdiv (IntKind.u64.wrap (Int.tdiv x2 x1)) x0))))) <| rn (qn (Wret ?_)); obtain rfl := sj hp; refine f1 (v := .bool (decide (x0 > (IntKind.u64.wrap (Int.tdiv (IntKind.u64.wrap (Int.tdiv x2 x1)) x0))))) R114 M114 rfl ?_; exact ⟨_, rfl, k _ hc⟩
   · replace hp := gpos hp (of_decide_eq_true hb2); refine Wct rfl (Wseq (Wreg ?_)); refine az (.bool false) <| rn (qn (Wret (qr ?_))); obtain rfl := sj hp; refine f1 (v := .bool false) R114 M114 rfl ?_; exact ⟨_, rfl, k _ hc⟩
 · replace hp := gpos hp (of_decide_eq_true hb1); (iterate 2 refine r0 rfl ?_); refine sz (v := .bool true) (pkt (v := .bool true) rfl rfl) ?_; refine rn (qn (Wct rfl (Wseq (Wreg ?_)))); refine az (.bool false) <| rn (qn (Wret (qr ?_))); obtain rfl := sj hp; refine f1 (v := .bool false) R114 M114 rfl ?_; exact ⟨_, rfl, k _ hc⟩

def ref02_greatest.L1 (x0 : Int) (x1 : Int) : Nat → Int → Int → Option (Int)
  | 0, _, _ => none
  | m1 + 1, j1, j2 =>
    if (IntKind.u64.wrap (j2 - j1)) > 1 then
      (some (IntKind.u64.wrap (Int.tdiv (IntKind.u64.wrap (j1 + j2)) 2))).bind fun e5 =>
      (ref02_above e5 x0 x1).bind fun r6 =>
      if r6 = true then
        (ref02_greatest.L1 x0 x1 m1) j1 e5
      else
        (ref02_greatest.L1 x0 x1 m1) e5 j2
    else
      some j1

def ref02_greatest (N : Nat) (x0 : Int) (x1 : Int) : Option (Int) :=
  ref02_greatest.L1 x0 x1 N 0 4294967296

theorem ref02_greatest_any {N : Nat} {x0 : Int} {x1 : Int} {Fr : List HP} {w : World} {r : Int} {K : Value → World → Prop}  (hc : Ctx w (Fr)) (hp : ref02_greatest N x0 x1 = some r)
    (k : ∀ w', Ctx w' (Fr) → K (.int .u64 r) w') : Calls Tryz.prog 88 #[.int .u64 x0, .int .u64 x1] w (Ret K) := by
 unfold ref02_greatest at hp; refine Center2 F88 M88 rfl rfl ?_; refine Wseq (Wreg ?_); refine az (.int .u64 0) <| rn (qn (Wseq (Wreg ?_))); refine az (.int .u64 0) <| az (.int .u64 4294967296) <| rn (qn (Wseq (Wblk ?_))); refine Wloop [5, 6, 7, 8, 9, 10, 11, 12, 13, 14, 15, 16, 17, 18, 19, 20, 21] [5, 6] (fun m vs w' => ∃ j1 : Int, ∃ j2 : Int, vs = [.int .u64 j1, .int .u64 j2] ∧ ref02_greatest.L1 x0 x1 m j1 j2 = some r ∧ Ctx w' (Fr)) N ?_ ?_
 · exact ⟨0, 4294967296, rfl, hp, hc⟩
 · clear hp hc; intro m vs u w3 hJ; obtain ⟨j1, j2, rfl, hp, hc⟩ := hJ; rcases m with _ | m1
   · cases (show none = some r from hp)
   rw [ref02_greatest.L1] at hp; refine Wseq (Wseq (Wreg ?_)); refine mz (.int .u64 j2) <| mz (.int .u64 j1) <| sz (sbw rfl rfl) <| sz (gt' rfl rfl) <| rn (qn ?_); cases hb4 : (decide ((IntKind.u64.wrap (j2 - j1)) > 1))
   · replace hp := gneg hp (of_decide_eq_false hb4); refine Wcf rfl (Wexit (qx (qx (be (qn (Wseq (Wreg ?_))))))); refine mz (.int .u64 j1) <| az (.int .u64 j1) <| rn (qn (Wret ?_)); obtain rfl := sj hp; refine f1 (v := .int .u64 j1) R88 M88 rfl ?_; exact ⟨_, rfl, k _ hc⟩
   · replace hp := gpos hp (of_decide_eq_true hb4); refine Wct rfl (Wskip (qn (Wblk (Wseq (Wreg ?_))))); refine mz (.int .u64 j1) <| mz (.int .u64 j2) <| sz (adw rfl rfl) <| sz (quw rfl rfl (by decide)) ?_; replace hp := bind_some hp; obtain ⟨e5, he5, hp⟩ := hp; injection he5 with he5; refine sz (v := .int .u64 e5) (av (v := .int .u64 e5) (by rw [← he5]; rfl)) ?_; refine rn (qn (Wseq (Wreg ?_))); refine mz (.int .u64 e5) <| mz (.int .u64 x0) <| mz (.int .u64 x1) ?_; obtain ⟨r6, hr6, hp⟩ := bind_some hp; refine kz C114 ?_; refine ref02_above_any hc hr6 ?_; clear hc; intro w7 hc; refine rn (qn ?_); cases hb8 : r6
     · replace hp := gneg hp (by rw [hb8]; exact Bool.false_ne_true); subst hb8; refine Wcf rfl (Wreg ?_); refine mz (.int .u64 e5) <| az (.int .u64 e5) <| rn (bn (qn ?_)); exact ⟨m1, Nat.lt_succ_self _, ⟨e5, j2, rfl, hp, hc⟩, (kl rfl k0)⟩
     · replace hp := gpos hp hb8; subst hb8; refine Wct rfl (Wreg ?_); refine mz (.int .u64 e5) <| az (.int .u64 e5) <| rn (bn (qn ?_)); exact ⟨m1, Nat.lt_succ_self _, ⟨j1, e5, rfl, hp, hc⟩, (kl rfl k0)⟩

def ref02_Inverse (N : Nat) (x0 : Int) : Option (Int) :=
  if x0 = 0 then
    some 16777216
  else
    (ref02_greatest N x0 281474976710656).bind fun r2 =>
    some r2

theorem ref02_Inverse_any {N : Nat} {x0 : Int} {Fr : List HP} {w : World} {r : Int} {K : Value → World → Prop}  (hc : Ctx w (Fr)) (hp : ref02_Inverse N x0 = some r)
    (k : ∀ w', Ctx w' (Fr) → K (.int .u64 r) w') : Calls Tryz.prog 52 #[.int .u64 x0] w (Ret K) := by
 unfold ref02_Inverse at hp; refine Center1 F52 M52 rfl rfl ?_; refine Wseq (Wreg ?_); refine az (.int .u64 0) <| rn (qn (Wseq (Wseq (Wreg ?_)))); refine mz (.int .u64 x0) <| sz (eqd rfl rfl) ?_; refine rn (qn ?_); cases hb1 : (decide (x0 = 0))
 · replace hp := gneg hp (of_decide_eq_false hb1); refine Wcf rfl (Wskip (qn (Wseq (Wreg ?_)))); refine mz (.int .u64 x0) ?_; obtain ⟨r2, hr2, hp⟩ := bind_some hp; refine kz C88 ?_; refine ref02_greatest_any hc hr2 ?_; clear hc; intro w3 hc; refine az (.int .u64 r2) <| rn (qn (Wret ?_)); obtain rfl := sj hp; refine f1 (v := .int .u64 r2) R52 M52 rfl ?_; exact ⟨_, rfl, k _ hc⟩
 · replace hp := gpos hp (of_decide_eq_true hb1); refine Wct rfl (Wseq (Wreg ?_)); refine az (.int .u64 16777216) <| rn (qn (Wret (qr ?_))); obtain rfl := sj hp; refine f1 (v := .int .u64 16777216) R52 M52 rfl ?_; exact ⟨_, rfl, k _ hc⟩

def ref01_Shift.J4 (j12 : Int) (j17 : Bool) : Option (Int) :=
  if j17 = true then
    some (IntKind.i64.wrap (j12 + 1))
  else
    some j12

def ref01_Shift.J3 (j5 : Int) (j12 : Int) (j13 : Int) : Option (Int) :=
  if j13 > (IntKind.i64.wrap (j5 - j13)) then
    ref01_Shift.J4 j12 true
  else
    if j13 = (IntKind.i64.wrap (j5 - j13)) then
      ref01_Shift.J4 j12 (decide ((Int.tmod j12 2) ≠ 0))
    else
      ref01_Shift.J4 j12 false

def ref01_Shift.L2 (x0 : Int) (j1 : Int) : Nat → Int → Int → Option (Int)
  | 0, _, _ => none
  | m2 + 1, j5, j6 =>
    if j6 < j1 then
      (ref01_Shift.L2 x0 j1 m2) (IntKind.i64.wrap (j5 * 2)) (IntKind.i64.wrap (j6 + 1))
    else
      chk (j5 ≠ 0) <|
      (some (IntKind.i64.wrap (Int.tdiv x0 j5))).bind fun e10 =>
      chk (j5 ≠ 0) <|
      if (Int.tmod x0 j5) < 0 then
        (some (IntKind.i64.wrap ((Int.tmod x0 j5) + j5))).bind fun e15 =>
        ref01_Shift.J3 j5 (IntKind.i64.wrap (e10 - 1)) e15
      else
        ref01_Shift.J3 j5 e10 (Int.tmod x0 j5)

def ref01_Shift.J1 (N : Nat) (x0 : Int) (j1 : Int) : Option (Int) :=
  if j1 ≤ 0 then
    some x0
  else
    ref01_Shift.L2 x0 j1 N 1 0

def ref01_Shift (N : Nat) (x0 : Int) (x1 : Int) : Option (Int) :=
  if x1 > 62 then
    ref01_Shift.J1 N x0 62
  else
    ref01_Shift.J1 N x0 x1

theorem ref01_Shift_any {N : Nat} {x0 : Int} {x1 : Int} {Fr : List HP} {w : World} {r : Int} {K : Value → World → Prop}  (hc : Ctx w (Fr)) (hp : ref01_Shift N x0 x1 = some r)
    (k : ∀ w', Ctx w' (Fr) → K (.int .i64 r) w') : Calls Tryz.prog 53 #[.int .i64 x0, .int .i64 x1] w (Ret K) := by
 unfold ref01_Shift at hp; refine Center2 F53 M53 rfl rfl ?_; refine Wseq (Wreg ?_); refine az (.int .i64 0) <| rn (qn ?_); refine Wseqm [1, 9, 10] [1] (fun vs w' => ∃ j1 : Int, vs = [.int .i64 j1] ∧ ref01_Shift.J1 N x0 j1 = some r ∧ Ctx w' (Fr)) ?_ ?_
 · refine Wseq (Wreg ?_); refine mz (.int .i64 x1) <| sz (gt' rfl rfl) ?_; refine rn (qn ?_); cases hb2 : (decide (x1 > 62))
   · replace hp := gneg hp (of_decide_eq_false hb2); refine Wcf rfl (Wskip (qn ?_)); exact ⟨⟨x1, rfl, hp, hc⟩, (kl rfl kb)⟩
   · replace hp := gpos hp (of_decide_eq_true hb2); refine Wct rfl (Wreg ?_); refine az (.int .i64 62) <| rn (qn ?_); exact ⟨⟨62, rfl, hp, hc⟩, (kl rfl kb)⟩
 · clear hp hc; intro vs u w3 hJ; obtain ⟨j1, rfl, hp, hc⟩ := hJ; unfold ref01_Shift.J1 at hp; refine Wseq (Wseq (Wreg ?_)); refine mz (.int .i64 j1) <| sz (le' rfl rfl) ?_; refine rn (qn ?_); cases hb4 : (decide (j1 ≤ 0))
   · replace hp := gneg hp (of_decide_eq_false hb4); refine Wcf rfl (Wskip (qn (Wseq (Wreg ?_)))); refine az (.int .i64 1) <| rn (qn (Wseq (Wseq (Wreg ?_)))); refine az (.int .i64 0) <| rn (qn (Wblk ?_)); refine Wloop [5, 6, 14, 15, 16, 17, 18, 19, 20] [5, 6] (fun m vs w' => ∃ j5 : Int, ∃ j6 : Int, vs = [.int .i64 j5, .int .i64 j6] ∧ ref01_Shift.L2 x0 j1 m j5 j6 = some r ∧ Ctx w' (Fr)) N ?_ ?_
     · exact ⟨1, 0, rfl, hp, hc⟩
     · clear hp hc; intro m vs u w7 hJ; obtain ⟨j5, j6, rfl, hp, hc⟩ := hJ; rcases m with _ | m2
       · cases (show none = some r from hp)
       rw [ref01_Shift.L2] at hp; refine Wseq (Wseq (Wreg ?_)); refine mz (.int .i64 j6) <| mz (.int .i64 j1) <| sz (lt' rfl rfl) <| rn (qn ?_); cases hb8 : (decide (j6 < j1))
       · replace hp := gneg hp (of_decide_eq_false hb8); refine Wcf rfl (Wexit (qx (qx (be (qn (Wseq (Wreg ?_))))))); refine mz (.int .i64 x0) <| mz (.int .i64 j5) ?_; replace hp := chk_some hp; obtain ⟨hg9, hp⟩ := hp; refine sz (quw rfl rfl hg9) ?_; replace hp := bind_some hp; obtain ⟨e10, he10, hp⟩ := hp; injection he10 with he10; refine sz (v := .int .i64 e10) (av (v := .int .i64 e10) (by rw [← he10]; rfl)) ?_; refine rn (qn (Wseq (Wreg ?_))); refine mz (.int .i64 x0) <| mz (.int .i64 j5) ?_; replace hp := chk_some hp; obtain ⟨hg11, hp⟩ := hp; refine sz (rm rfl rfl hg11) ?_; refine az (.int .i64 (Int.tmod x0 j5)) <| rn (qn ?_); refine Wseqm [7, 8, 27, 28, 29, 30, 31, 32, 33] [7, 8] (fun vs w' => ∃ j12 : Int, ∃ j13 : Int, vs = [.int .i64 j12, .int .i64 j13] ∧ ref01_Shift.J3 j5 j12 j13 = some r ∧ Ctx w' (Fr)) ?_ ?_
         · refine Wseq (Wreg ?_); refine mz (.int .i64 (Int.tmod x0 j5)) <| sz (lt' rfl rfl) ?_; refine rn (qn ?_); cases hb14 : (decide ((Int.tmod x0 j5) < 0))
           · replace hp := gneg hp (of_decide_eq_false hb14); refine Wcf rfl (Wskip (qn ?_)); exact ⟨⟨e10, (Int.tmod x0 j5), rfl, hp, hc⟩, (kl rfl kb)⟩
           · replace hp := gpos hp (of_decide_eq_true hb14); refine Wct rfl (Wseq (Wreg ?_)); refine mz (.int .i64 e10) <| sz (sbw rfl rfl) ?_; refine az (.int .i64 (IntKind.i64.wrap (e10 - 1))) <| rn (qn (Wreg ?_)); refine mz (.int .i64 (Int.tmod x0 j5)) <| mz (.int .i64 j5) <| sz (adw rfl rfl) ?_; replace hp := bind_some hp; obtain ⟨e15, he15, hp⟩ := hp; injection he15 with he15; refine sz (v := .int .i64 e15) (av (v := .int .i64 e15) (by rw [← he15]; rfl)) ?_; refine rn (qn ?_); exact ⟨⟨(IntKind.i64.wrap (e10 - 1)), e15, rfl, hp, hc⟩, (kl rfl kb)⟩
         · clear hp hc; intro vs u w16 hJ; obtain ⟨j12, j13, rfl, hp, hc⟩ := hJ; unfold ref01_Shift.J3 at hp; refine Wseq ?_; refine Wseqm [34, 35, 36, 37, 38, 39, 40, 41, 42, 43, 44, 45, 46, 47, 48, 49, 50] [50] (fun vs w' => ∃ j17 : Bool, vs = [.bool j17] ∧ ref01_Shift.J4 j12 j17 = some r ∧ Ctx w' (Fr)) ?_ ?_
           · refine Wreg ?_; refine mz (.int .i64 j13) <| mz (.int .i64 j5) <| mz (.int .i64 j13) <| sz (sbw rfl rfl) <| sz (gt' rfl rfl) <| mz (.bool (decide (j13 > (IntKind.i64.wrap (j5 - j13))))) ?_; cases hb18 : (decide (j13 > (IntKind.i64.wrap (j5 - j13))))
             · replace hp := gneg hp (of_decide_eq_false hb18); refine mz (.int .i64 j13) <| mz (.int .i64 j5) <| mz (.int .i64 j13) <| sz (sbw rfl rfl) <| sz (eqd rfl rfl) <| mz (.bool (decide (j13 = (IntKind.i64.wrap (j5 - j13))))) ?_; cases hb19 : (decide (j13 = (IntKind.i64.wrap (j5 - j13))))
               · replace hp := gneg hp (of_decide_eq_false hb19); (iterate 3 refine r0 rfl ?_); refine sz (v := .bool false) (pkf (v := .bool false) rfl rfl) ?_; refine sz (v := .bool false) (pkf (v := .bool false) rfl rfl) ?_; refine rn (qn ?_); exact ⟨⟨false, rfl, hp, hc⟩, (kl rfl kb)⟩
               · replace hp := gpos hp (of_decide_eq_true hb19); refine mz (.int .i64 j12) <| sz (rm rfl rfl (by decide)) ?_; refine sz (ned rfl rfl) ?_; refine sz (v := .bool (decide ((Int.tmod j12 2) ≠ 0))) (pkt (v := .bool (decide ((Int.tmod j12 2) ≠ 0))) rfl rfl) ?_; refine sz (v := .bool (decide ((Int.tmod j12 2) ≠ 0))) (pkf (v := .bool (decide ((Int.tmod j12 2) ≠ 0))) rfl rfl) ?_; refine rn (qn ?_); exact ⟨⟨decide ((Int.tmod j12 2) ≠ 0), rfl, hp, hc⟩, (kl rfl kb)⟩
             · replace hp := gpos hp (of_decide_eq_true hb18); (iterate 10 refine r0 rfl ?_); refine sz (v := .bool true) (pkt (v := .bool true) rfl rfl) ?_; refine rn (qn ?_); exact ⟨⟨true, rfl, hp, hc⟩, (kl rfl kb)⟩
           · clear hp hc; intro vs u w20 hJ; obtain ⟨j17, rfl, hp, hc⟩ := hJ; unfold ref01_Shift.J4 at hp; cases hb21 : j17
             · replace hp := gneg hp (by rw [hb21]; exact Bool.false_ne_true); subst hb21; refine Wcf rfl (Wskip (qn (Wseq (Wreg ?_)))); refine mz (.int .i64 j12) <| az (.int .i64 j12) <| rn (qn (Wret ?_)); obtain rfl := sj hp; refine f1 (v := .int .i64 j12) R53 M53 rfl ?_; exact ⟨_, rfl, k _ hc⟩
             · replace hp := gpos hp hb21; subst hb21; refine Wct rfl (Wreg ?_); refine mz (.int .i64 j12) <| sz (adw rfl rfl) ?_; refine az (.int .i64 (IntKind.i64.wrap (j12 + 1))) <| rn (qn (Wseq (Wreg ?_))); refine mz (.int .i64 (IntKind.i64.wrap (j12 + 1))) <| az (.int .i64 (IntKind.i64.wrap (j12 + 1))) <| rn (qn (Wret ?_)); obtain rfl := sj hp; refine f1 (v := .int .i64 (IntKind.i64.wrap (j12 + 1))) R53 M53 rfl ?_; exact ⟨_, rfl, k _ hc⟩
       · replace hp := gpos hp (of_decide_eq_true hb8); refine Wct rfl (Wskip (qn (Wseq (Wblk (Wreg ?_))))); refine mz (.int .i64 j5) <| sz (mlw rfl rfl) ?_; refine az (.int .i64 (IntKind.i64.wrap (j5 * 2))) <| rn (bn (qn (Wreg ?_))); refine mz (.int .i64 j6) <| sz (adw rfl rfl) ?_; refine az (.int .i64 (IntKind.i64.wrap (j6 + 1))) <| rn (qn ?_); exact ⟨m2, Nat.lt_succ_self _, ⟨(IntKind.i64.wrap (j5 * 2)), (IntKind.i64.wrap (j6 + 1)), rfl, hp, hc⟩, (kl rfl k0)⟩
   · replace hp := gpos hp (of_decide_eq_true hb4); refine Wct rfl (Wseq (Wreg ?_)); refine mz (.int .i64 x0) <| az (.int .i64 x0) <| rn (qn (Wret (qr ?_))); obtain rfl := sj hp; refine f1 (v := .int .i64 x0) R53 M53 rfl ?_; exact ⟨_, rfl, k _ hc⟩

def ref05_Norm.L2 (N : Nat) (x0 : (List Int)) (x1 : (List Int)) (j1 : Int) : Nat → (List Int) → Int → Option ((List Int))
  | 0, _, _ => none
  | m2 + 1, j5, j9 =>
    if j9 < ((x1.length : Nat) : Int) then
      chk ((IntKind.u64.wrap ((x1.length : Nat) : Int)) ≠ 0) <|
      (ref02_Inverse N (IntKind.u64.wrap (Int.tdiv j1 (IntKind.u64.wrap ((x1.length : Nat) : Int))))).bind fun r14 =>
      (idx x1 j9).bind fun y16 =>
      (ref01_Near (IntKind.i64.wrap y16) (-8388608) 8388607).bind fun r25 =>
      (idx x0 j9).bind fun y27 =>
      (ref01_Shift N (IntKind.i64.wrap ((IntKind.i64.wrap (r25 * (IntKind.i64.wrap r14))) * (IntKind.i64.wrap y27))) 23).bind fun r36 =>
      (ref01_Near r36 (-128) 127).bind fun r38 =>
      (app j5 ([(IntKind.i8.wrap r38)])).bind fun z42 =>
      (ref05_Norm.L2 N x0 x1 j1 m2) z42 (IntKind.i64.wrap (j9 + 1))
    else
      some j5

def ref05_Norm.L1 (N : Nat) (x0 : (List Int)) (x1 : (List Int)) : Nat → Int → Int → Option ((List Int))
  | 0, _, _ => none
  | m1 + 1, j1, j2 =>
    if j2 < ((x1.length : Nat) : Int) then
      (idx x1 j2).bind fun y48 =>
      (ref01_Near (IntKind.i64.wrap y48) (-8388608) 8388607).bind fun r57 =>
      (some (IntKind.u64.wrap (j1 + (IntKind.u64.wrap (IntKind.i64.wrap (r57 * r57)))))).bind fun e59 =>
      (ref05_Norm.L1 N x0 x1 m1) e59 (IntKind.i64.wrap (j2 + 1))
    else
      ref05_Norm.L2 N x0 x1 j1 N ([]) 0

def ref05_Norm (N : Nat) (x0 : (List Int)) (x1 : (List Int)) : Option ((List Int)) :=
  ref05_Norm.L1 N x0 x1 N 0 0

theorem ref05_Norm_any {N : Nat} {x0 : (List Int)} {ax0 : Option Addr} {nx0 : Nat} {qx0 : Nat} {P0 : HP} {x1 : (List Int)} {ax1 : Option Addr} {nx1 : Nat} {qx1 : Nat} {P1 : HP} {Fr : List HP} {w : World} {r : (List Int)} {K : Value → World → Prop} (hrd0 : Reads P0 (pInt .i8) (.slice ax0 nx0 qx0) x0) (hrd1 : Reads P1 (pInt .i32) (.slice ax1 nx1 qx1) x1) (hc : Ctx w (P0 :: P1 :: Fr)) (hp : ref05_Norm N x0 x1 = some r)
    (k : ∀ (a60 : Option Addr) (n61 : Nat) (q62 : Nat) w', Ctx w' (Own (pInt .i8) 88 (.slice a60 n61 q62) r :: P0 :: P1 :: Fr) → K (.slice a60 n61 q62) w') : Calls Tryz.prog 19 #[.slice ax0 nx0 qx0, .slice ax1 nx1 qx1] w (Ret K) := by
 unfold ref05_Norm at hp; refine Center2 F19 M19 rfl rfl ?_; obtain ⟨hn0, _⟩ := Ctx.rdLen hc (k := 0) rfl rfl hrd0; subst hn0; obtain ⟨hn1, _⟩ := Ctx.rdLen hc (k := 1) rfl rfl hrd1; subst hn1; refine Wseq (Wreg ?_); refine az (.slice none 0 0) <| rn (qn (Wseq (Wreg ?_))); refine az (.int .u64 0) <| rn (qn (Wseq (Wseq (Wreg ?_)))); refine az (.int .i64 0) <| rn (qn (Wblk ?_)); refine Wloop [5, 6, 7, 12, 13, 14, 15, 16, 17, 18, 19, 20, 21, 22, 23, 24, 25, 26, 27, 28, 29] [5, 6] (fun m vs w' => ∃ j1 : Int, ∃ j2 : Int, vs = [.int .u64 j1, .int .i64 j2] ∧ ref05_Norm.L1 N x0 x1 m j1 j2 = some r ∧ Ctx w' (P0 :: P1 :: Fr)) N ?_ ?_
 · exact ⟨0, 0, rfl, hp, hc⟩
 · clear hp hc; intro m vs u w3 hJ; obtain ⟨j1, j2, rfl, hp, hc⟩ := hJ; rcases m with _ | m1
   · cases (show none = some r from hp)
   rw [ref05_Norm.L1] at hp; refine Wseq (Wseq (Wreg ?_)); refine mz (.int .i64 j2) <| mz (.slice ax1 x1.length qx1) <| sz (ln rfl U51) <| sz (lt' rfl rfl) <| rn (qn ?_); cases hb4 : (decide (j2 < ((x1.length : Nat) : Int)))
   · replace hp := gneg hp (of_decide_eq_false hb4); refine Wcf rfl (Wexit (qx (qx (be (qn (Wseq (Wreg ?_))))))); refine az (.slice none 0 0) <| rn (qn (Wseq (Wseq (Wreg ?_)))); refine az (.int .i64 0) <| rn (qn (Wblk ?_)); replace hc := hc.nilOwn (pInt .i8) 88; replace hc := Ctx.p2 (Ctx.p2 hc); refine Wloop (8 :: 9 :: 10 :: 11 :: 30 :: 31 :: 32 :: 33 :: 34 :: 35 :: 36 :: 37 :: 38 :: 39 :: 40 :: 41 :: 42 :: 43 :: 44 :: 45 :: 46 :: 47 :: 48 :: 49 :: 50 :: 51 :: 52 :: 53 :: 54 :: 55 :: 56 :: 57 :: 58 :: 59 :: 60 :: 61 :: 62 :: 63 :: []) [8, 9] (fun m vs w' => ∃ j5 : (List Int), ∃ j9 : Int, ∃ a6 : Option Addr, ∃ n7 : Nat, ∃ q8 : Nat, vs = [.slice a6 n7 q8, .int .i64 j9] ∧ ref05_Norm.L2 N x0 x1 j1 m j5 j9 = some r ∧ Ctx w' (P0 :: P1 :: Own (pInt .i8) 88 (.slice a6 n7 q8) j5 :: Fr)) N ?_ ?_
     · exact ⟨[], 0, none, 0, 0, rfl, hp, hc⟩
     · clear hp hc; intro m vs u w10 hJ; obtain ⟨j5, j9, a6, n7, q8, rfl, hp, hc⟩ := hJ; obtain rfl := hc.rz 2 reads_own; rcases m with _ | m2
       · cases (show none = some r from hp)
       rw [ref05_Norm.L2] at hp; refine Wseq (Wseq (Wreg ?_)); refine mz (.int .i64 j9) <| mz (.slice ax1 x1.length qx1) <| sz (ln rfl U51) <| sz (lt' rfl rfl) <| rn (qn ?_); cases hb12 : (decide (j9 < ((x1.length : Nat) : Int)))
       · replace hp := gneg hp (of_decide_eq_false hb12); refine Wcf rfl (Wexit (qx (qx (be (qn (Wseq (Wreg ?_))))))); refine mz (.slice a6 j5.length q8) <| az (.slice a6 j5.length q8) <| rn (qn (Wret ?_)); replace hc := Ctx.p2 (Ctx.p1 (Ctx.p1 hc)); obtain rfl := sj hp; refine f1 (v := .slice a6 j5.length q8) R19 M19 rfl ?_; exact ⟨_, rfl, k _ _ _ _ hc⟩
       · replace hp := gpos hp (of_decide_eq_true hb12); refine Wct rfl (Wskip (qn (Wseq (Wblk (Wseq (Wreg ?_)))))); refine mz (.int .u64 j1) <| mz (.slice ax1 x1.length qx1) <| sz (ln rfl U51) <| sz (cvi rfl U3 U23) ?_; replace hp := chk_some hp; obtain ⟨hg13, hp⟩ := hp; refine sz (quw rfl rfl hg13) ?_; obtain ⟨r14, hr14, hp⟩ := bind_some hp; refine kz C52 ?_; refine ref02_Inverse_any hc hr14 ?_; clear hc; intro w15 hc; refine sz (cvi rfl U23 U2) ?_; refine az (.int .i64 (IntKind.i64.wrap r14)) <| rn (qn (Wseq (Wreg ?_))); refine mz (.slice ax1 x1.length qx1) <| mz (.int .i64 j9) ?_; replace hp := bind_some hp; obtain ⟨y16, hy16, hp⟩ := hp; obtain ⟨b19, o20, u21, hi17, hi18⟩ := Ctx.rdAt hc (k := 1) rfl rfl hrd1 hy16; subst u21; refine sz (ixx rfl rfl U51 Z21 hi17 hi18 rfl) ?_; replace hc := Ctx.rdCell hc (k := 1) rfl rfl hrd1 hy16; obtain ⟨cs22, hc, hcell23⟩ := hc; replace hc := Ctx.holdC hc; obtain ⟨u24, hc⟩ := hc; subst u24; refine sz (ld rfl G21 (hcell23 0 _ rfl)) ?_; refine sz (cvi rfl U21 U2) ?_; obtain ⟨r25, hr25, hp⟩ := bind_some hp; refine kz C51 ?_; refine ref01_Near_any hc hr25 ?_; clear hc; intro w26 hc; refine az (.int .i64 r25) <| rn (qn (Wreg ?_)); refine mz (.slice a6 j5.length q8) <| mz (.int .i64 r25) <| mz (.int .i64 (IntKind.i64.wrap r14)) <| sz (mlw rfl rfl) <| mz (.slice ax0 x0.length qx0) <| mz (.int .i64 j9) ?_; replace hp := bind_some hp; obtain ⟨y27, hy27, hp⟩ := hp; obtain ⟨b30, o31, u32, hi28, hi29⟩ := Ctx.rdAt hc (k := 0) rfl rfl hrd0 hy27; subst u32; refine sz (ixx rfl rfl U30 Z88 hi28 hi29 rfl) ?_; replace hc := Ctx.rdCell hc (k := 0) rfl rfl hrd0 hy27; obtain ⟨cs33, hc, hcell34⟩ := hc; replace hc := Ctx.holdC hc; obtain ⟨u35, hc⟩ := hc; subst u35; refine sz (ld rfl G88 (hcell34 0 _ rfl)) ?_; refine sz (cvi rfl U88 U2) ?_; refine sz (mlw rfl rfl) ?_; obtain ⟨r36, hr36, hp⟩ := bind_some hp; refine kz C53 ?_; refine ref01_Shift_any hc hr36 ?_; clear hc; intro w37 hc; obtain ⟨r38, hr38, hp⟩ := bind_some hp; refine kz C51 ?_; refine ref01_Near_any hc hr38 ?_; clear hc; intro w39 hc; refine sz (cvi rfl U2 U88) ?_; refine rsE (Ctx.builtOp (css := [[.int .i8 (IntKind.i8.wrap r38)]]) (xs := ([(IntKind.i8.wrap r38)] : List Int)) (E := (pInt .i8)) (Ctx.holdsC (f := fun x : Int => [.int .i8 x]) (fun _ _ _ => rfl) hc ([(IntKind.i8.wrap r38)] : List Int)) U30 Z88 V88 rfl rfl rfl rfl rfl rfl rfl rfl) rfl ?_; clear hc; rintro _ w41 ⟨a40, rfl, hc⟩; replace hp := bind_some hp; obtain ⟨z42, hz42, hp⟩ := hp; obtain ⟨hg43, e44⟩ := app_some hz42; refine rsE (Ctx.append hc (k := 3) rfl rfl (k2 := 0) rfl rfl reads_own U30 (i := Tryz.t88) rfl rfl rfl rfl rfl rfl rfl rfl hg43) rfl ?_; clear hc; rintro _ w47 ⟨a45, q46, rfl, hc⟩; rw [← e44] at hc ⊢; replace hc := Ctx.n3 hc; refine az (.slice a45 z42.length q46) <| rn (bn (qn (Wreg ?_))); refine mz (.int .i64 j9) <| sz (adw rfl rfl) ?_; refine az (.int .i64 (IntKind.i64.wrap (j9 + 1))) <| rn (qn ?_); replace hc := Ctx.r0 hc; exact ⟨m2, Nat.lt_succ_self _, ⟨z42, (IntKind.i64.wrap (j9 + 1)), a45, z42.length, q46, rfl, hp, hc⟩, (kl rfl k0)⟩
   · replace hp := gpos hp (of_decide_eq_true hb4); refine Wct rfl (Wskip (qn (Wseq (Wblk (Wseq (Wreg ?_)))))); refine mz (.slice ax1 x1.length qx1) <| mz (.int .i64 j2) ?_; replace hp := bind_some hp; obtain ⟨y48, hy48, hp⟩ := hp; obtain ⟨b51, o52, u53, hi49, hi50⟩ := Ctx.rdAt hc (k := 1) rfl rfl hrd1 hy48; subst u53; refine sz (ixx rfl rfl U51 Z21 hi49 hi50 rfl) ?_; replace hc := Ctx.rdCell hc (k := 1) rfl rfl hrd1 hy48; obtain ⟨cs54, hc, hcell55⟩ := hc; replace hc := Ctx.holdC hc; obtain ⟨u56, hc⟩ := hc; subst u56; refine sz (ld rfl G21 (hcell55 0 _ rfl)) ?_; refine sz (cvi rfl U21 U2) ?_; obtain ⟨r57, hr57, hp⟩ := bind_some hp; refine kz C51 ?_; refine ref01_Near_any hc hr57 ?_; clear hc; intro w58 hc; refine az (.int .i64 r57) <| rn (qn (Wreg ?_)); refine mz (.int .u64 j1) <| mz (.int .i64 r57) <| mz (.int .i64 r57) <| sz (mlw rfl rfl) <| sz (cvi rfl U2 U23) <| sz (adw rfl rfl) ?_; replace hp := bind_some hp; obtain ⟨e59, he59, hp⟩ := hp; injection he59 with he59; refine sz (v := .int .u64 e59) (av (v := .int .u64 e59) (by rw [← he59]; rfl)) ?_; refine rn (bn (qn (Wreg ?_))); refine mz (.int .i64 j2) <| sz (adw rfl rfl) ?_; refine az (.int .i64 (IntKind.i64.wrap (j2 + 1))) <| rn (qn ?_); exact ⟨m1, Nat.lt_succ_self _, ⟨e59, (IntKind.i64.wrap (j2 + 1)), rfl, hp, hc⟩, (kl rfl k0)⟩

def ref04_Right (x0 : S_api_Mat) : Option (Bool) :=
  if x0.Rows ≥ 0 then
    if x0.Cols ≥ 0 then
      if x0.Rows ≤ 4096 then
        if x0.Cols ≤ 4096 then
          if ((x0.V.length : Nat) : Int) = (IntKind.i64.wrap (x0.Rows * x0.Cols)) then
            some (decide (((x0.V.length : Nat) : Int) ≤ 1048576))
          else
            some false
        else
          some false
      else
        some false
    else
      some false
  else
    some false

theorem ref04_Right_any {x0 : S_api_Mat} {a1 : Option Addr} {n2 : Nat} {q3 : Nat} {Fr : List HP} {w : World} {r : Bool} {K : Value → World → Prop}  (hc : Ctx w (Hold (pRo (pInt .i8)) [.slice a1 n2 q3] x0.V :: Fr)) (hp : ref04_Right x0 = some r)
    (k : ∀ w', Ctx w' (Fr) → K (.bool r) w') : Calls Tryz.prog 49 #[.agg #[.int .i64 x0.Rows, .int .i64 x0.Cols, .slice a1 n2 q3]] w (Ret K) := by
 unfold ref04_Right at hp; refine Center1 F49 M49 rfl rfl ?_; obtain rfl := hc.rz 0 reads_ro; refine Wseq (Wreg ?_); refine rsE (Ctx.boxOp (cs := (S_api_Mat.cz x0 a1 q3)) (v := .agg (S_api_Mat.cz x0 a1 q3).toArray) hc rfl rfl) rfl ?_; clear hc; rintro _ w7 ⟨b5, rfl, hc⟩; refine az (.bool false) <| rn (qn (Wseq (Wreg ?_))); refine fl 0 U32 Z3 G3 (Ctx.cell hc (k := 0) rfl rfl rfl) rfl rfl rfl rfl rfl rfl rfl rfl ?_; refine sz (ge' rfl rfl) ?_; refine mz (.bool (decide (x0.Rows ≥ 0))) ?_; cases hb8 : (decide (x0.Rows ≥ 0))
 · replace hp := gneg hp (of_decide_eq_false hb8); (iterate 3 refine r0 rfl ?_); refine sz (v := .bool false) (pkf (v := .bool false) rfl rfl) ?_; refine mz (.bool false) ?_; (iterate 3 refine r0 rfl ?_); refine sz (v := .bool false) (pkf (v := .bool false) rfl rfl) ?_; refine mz (.bool false) ?_; (iterate 3 refine r0 rfl ?_); refine sz (v := .bool false) (pkf (v := .bool false) rfl rfl) ?_; refine mz (.bool false) ?_; (iterate 9 refine r0 rfl ?_); refine sz (v := .bool false) (pkf (v := .bool false) rfl rfl) ?_; refine mz (.bool false) ?_; (iterate 4 refine r0 rfl ?_); refine sz (v := .bool false) (pkf (v := .bool false) rfl rfl) ?_; refine az (.bool false) <| rn (qn (Wret ?_)); replace hc := Ctx.r0 (Ctx.r1 hc); obtain rfl := sj hp; refine f1 (v := .bool false) R49 M49 rfl ?_; exact ⟨_, rfl, k _ hc⟩
 · replace hp := gpos hp (of_decide_eq_true hb8); refine fl 1 U32 Z3 G3 (Ctx.cell hc (k := 0) rfl rfl rfl) rfl rfl rfl rfl rfl rfl rfl rfl ?_; refine sz (ge' rfl rfl) ?_; refine sz (v := .bool (decide (x0.Cols ≥ 0))) (pkt (v := .bool (decide (x0.Cols ≥ 0))) rfl rfl) ?_; refine mz (.bool (decide (x0.Cols ≥ 0))) ?_; cases hb9 : (decide (x0.Cols ≥ 0))
   · replace hp := gneg hp (of_decide_eq_false hb9); (iterate 3 refine r0 rfl ?_); refine sz (v := .bool false) (pkf (v := .bool false) rfl rfl) ?_; refine mz (.bool false) ?_; (iterate 3 refine r0 rfl ?_); refine sz (v := .bool false) (pkf (v := .bool false) rfl rfl) ?_; refine mz (.bool false) ?_; (iterate 9 refine r0 rfl ?_); refine sz (v := .bool false) (pkf (v := .bool false) rfl rfl) ?_; refine mz (.bool false) ?_; (iterate 4 refine r0 rfl ?_); refine sz (v := .bool false) (pkf (v := .bool false) rfl rfl) ?_; refine az (.bool false) <| rn (qn (Wret ?_)); replace hc := Ctx.r0 (Ctx.r1 hc); obtain rfl := sj hp; refine f1 (v := .bool false) R49 M49 rfl ?_; exact ⟨_, rfl, k _ hc⟩
   · replace hp := gpos hp (of_decide_eq_true hb9); refine fl 0 U32 Z3 G3 (Ctx.cell hc (k := 0) rfl rfl rfl) rfl rfl rfl rfl rfl rfl rfl rfl ?_; refine sz (le' rfl rfl) ?_; refine sz (v := .bool (decide (x0.Rows ≤ 4096))) (pkt (v := .bool (decide (x0.Rows ≤ 4096))) rfl rfl) ?_; refine mz (.bool (decide (x0.Rows ≤ 4096))) ?_; cases hb10 : (decide (x0.Rows ≤ 4096))
     · replace hp := gneg hp (of_decide_eq_false hb10); (iterate 3 refine r0 rfl ?_); refine sz (v := .bool false) (pkf (v := .bool false) rfl rfl) ?_; refine mz (.bool false) ?_; (iterate 9 refine r0 rfl ?_); refine sz (v := .bool false) (pkf (v := .bool false) rfl rfl) ?_; refine mz (.bool false) ?_; (iterate 4 refine r0 rfl ?_); refine sz (v := .bool false) (pkf (v := .bool false) rfl rfl) ?_; refine az (.bool false) <| rn (qn (Wret ?_)); replace hc := Ctx.r0 (Ctx.r1 hc); obtain rfl := sj hp; refine f1 (v := .bool false) R49 M49 rfl ?_; exact ⟨_, rfl, k _ hc⟩
     · replace hp := gpos hp (of_decide_eq_true hb10); refine fl 1 U32 Z3 G3 (Ctx.cell hc (k := 0) rfl rfl rfl) rfl rfl rfl rfl rfl rfl rfl rfl ?_; refine sz (le' rfl rfl) ?_; refine sz (v := .bool (decide (x0.Cols ≤ 4096))) (pkt (v := .bool (decide (x0.Cols ≤ 4096))) rfl rfl) ?_; refine mz (.bool (decide (x0.Cols ≤ 4096))) ?_; cases hb11 : (decide (x0.Cols ≤ 4096))
       · replace hp := gneg hp (of_decide_eq_false hb11); (iterate 9 refine r0 rfl ?_); refine sz (v := .bool false) (pkf (v := .bool false) rfl rfl) ?_; refine mz (.bool false) ?_; (iterate 4 refine r0 rfl ?_); refine sz (v := .bool false) (pkf (v := .bool false) rfl rfl) ?_; refine az (.bool false) <| rn (qn (Wret ?_)); replace hc := Ctx.r0 (Ctx.r1 hc); obtain rfl := sj hp; refine f1 (v := .bool false) R49 M49 rfl ?_; exact ⟨_, rfl, k _ hc⟩
       · replace hp := gpos hp (of_decide_eq_true hb11); refine fl 2 U32 Z30 G30 (Ctx.cell hc (k := 0) rfl rfl rfl) rfl rfl rfl rfl rfl rfl rfl rfl ?_; refine sz (ln rfl U30) ?_; refine fl 0 U32 Z3 G3 (Ctx.cell hc (k := 0) rfl rfl rfl) rfl rfl rfl rfl rfl rfl rfl rfl ?_; refine fl 1 U32 Z3 G3 (Ctx.cell hc (k := 0) rfl rfl rfl) rfl rfl rfl rfl rfl rfl rfl rfl ?_; refine sz (mlw rfl rfl) ?_; refine sz (eqd rfl rfl) ?_; refine sz (v := .bool (decide (((x0.V.length : Nat) : Int) = (IntKind.i64.wrap (x0.Rows * x0.Cols))))) (pkt (v := .bool (decide (((x0.V.length : Nat) : Int) = (IntKind.i64.wrap (x0.Rows * x0.Cols))))) rfl rfl) ?_; refine mz (.bool (decide (((x0.V.length : Nat) : Int) = (IntKind.i64.wrap (x0.Rows * x0.Cols))))) ?_; cases hb12 : (decide (((x0.V.length : Nat) : Int) = (IntKind.i64.wrap (x0.Rows * x0.Cols))))
         · replace hp := gneg hp (of_decide_eq_false hb12); (iterate 4 refine r0 rfl ?_); refine sz (v := .bool false) (pkf (v := .bool false) rfl rfl) ?_; refine az (.bool false) <| rn (qn (Wret ?_)); replace hc := Ctx.r0 (Ctx.r1 hc); obtain rfl := sj hp; refine f1 (v := .bool false) R49 M49 rfl ?_; exact ⟨_, rfl, k _ hc⟩
         · replace hp := gpos hp (of_decide_eq_true hb12); refine fl 2 U32 Z30 G30 (Ctx.cell hc (k := 0) rfl rfl rfl) rfl rfl rfl rfl rfl rfl rfl rfl ?_; refine sz (ln rfl U30) ?_; refine sz (le' rfl rfl) ?_; refine sz (v := .bool (decide (((x0.V.length : Nat) : Int) ≤ 1048576))) (pkt (v := .bool (decide (((x0.V.length : Nat) : Int) ≤ 1048576))) rfl rfl) ?_; refine az (.bool (decide (((x0.V.length : Nat) : Int) ≤ 1048576))) <| rn (qn (Wret ?_)); replace hc := Ctx.r0 (Ctx.r1 hc); obtain rfl := sj hp; refine f1 (v := .bool (decide (((x0.V.length : Nat) : Int) ≤ 1048576))) R49 M49 rfl ?_; exact ⟨_, rfl, k _ hc⟩

def ref01_Mod.J1 (j1 : Int) : Option (Int) :=
  if j1 ≥ 2147483648 then
    (some (IntKind.i64.wrap (j1 - 4294967296))).bind fun e6 =>
    some (IntKind.i32.wrap e6)
  else
    some (IntKind.i32.wrap j1)

def ref01_Mod (x0 : Int) : Option (Int) :=
  if (Int.tmod x0 4294967296) < 0 then
    (some (IntKind.i64.wrap ((Int.tmod x0 4294967296) + 4294967296))).bind fun e3 =>
    ref01_Mod.J1 e3
  else
    ref01_Mod.J1 (Int.tmod x0 4294967296)

theorem ref01_Mod_any {x0 : Int} {Fr : List HP} {w : World} {r : Int} {K : Value → World → Prop}  (hc : Ctx w (Fr)) (hp : ref01_Mod x0 = some r)
    (k : ∀ w', Ctx w' (Fr) → K (.int .i32 r) w') : Calls Tryz.prog 87 #[.int .i64 x0] w (Ret K) := by
 unfold ref01_Mod at hp; refine Center1 F87 M87 rfl rfl ?_; refine Wseq (Wreg ?_); refine az (.int .i32 0) <| rn (qn (Wseq (Wreg ?_))); refine mz (.int .i64 x0) <| sz (rm rfl rfl (by decide)) ?_; refine az (.int .i64 (Int.tmod x0 4294967296)) <| rn (qn ?_); refine Wseqm [3, 6, 7, 8, 9] [3] (fun vs w' => ∃ j1 : Int, vs = [.int .i64 j1] ∧ ref01_Mod.J1 j1 = some r ∧ Ctx w' (Fr)) ?_ ?_
 · refine Wseq (Wreg ?_); refine mz (.int .i64 (Int.tmod x0 4294967296)) <| sz (lt' rfl rfl) ?_; refine rn (qn ?_); cases hb2 : (decide ((Int.tmod x0 4294967296) < 0))
   · replace hp := gneg hp (of_decide_eq_false hb2); refine Wcf rfl (Wskip (qn ?_)); exact ⟨⟨(Int.tmod x0 4294967296), rfl, hp, hc⟩, (kl rfl kb)⟩
   · replace hp := gpos hp (of_decide_eq_true hb2); refine Wct rfl (Wreg ?_); refine mz (.int .i64 (Int.tmod x0 4294967296)) <| sz (adw rfl rfl) ?_; replace hp := bind_some hp; obtain ⟨e3, he3, hp⟩ := hp; injection he3 with he3; refine sz (v := .int .i64 e3) (av (v := .int .i64 e3) (by rw [← he3]; rfl)) ?_; refine rn (qn ?_); exact ⟨⟨e3, rfl, hp, hc⟩, (kl rfl kb)⟩
 · clear hp hc; intro vs u w4 hJ; obtain ⟨j1, rfl, hp, hc⟩ := hJ; unfold ref01_Mod.J1 at hp; refine Wseq (Wseq (Wreg ?_)); refine mz (.int .i64 j1) <| sz (ge' rfl rfl) ?_; refine rn (qn ?_); cases hb5 : (decide (j1 ≥ 2147483648))
   · replace hp := gneg hp (of_decide_eq_false hb5); refine Wcf rfl (Wskip (qn (Wseq (Wreg ?_)))); refine mz (.int .i64 j1) <| sz (cvi rfl U2 U21) ?_; refine az (.int .i32 (IntKind.i32.wrap j1)) <| rn (qn (Wret ?_)); obtain rfl := sj hp; refine f1 (v := .int .i32 (IntKind.i32.wrap j1)) R87 M87 rfl ?_; exact ⟨_, rfl, k _ hc⟩
   · replace hp := gpos hp (of_decide_eq_true hb5); refine Wct rfl (Wreg ?_); refine mz (.int .i64 j1) <| sz (sbw rfl rfl) ?_; replace hp := bind_some hp; obtain ⟨e6, he6, hp⟩ := hp; injection he6 with he6; refine sz (v := .int .i64 e6) (av (v := .int .i64 e6) (by rw [← he6]; rfl)) ?_; refine rn (qn (Wseq (Wreg ?_))); refine mz (.int .i64 e6) <| sz (cvi rfl U2 U21) ?_; refine az (.int .i32 (IntKind.i32.wrap e6)) <| rn (qn (Wret ?_)); obtain rfl := sj hp; refine f1 (v := .int .i32 (IntKind.i32.wrap e6)) R87 M87 rfl ?_; exact ⟨_, rfl, k _ hc⟩

def ref01_Wrap.L1 (x0 : (List Int)) : Nat → Int → Int → Option (Int)
  | 0, _, _ => none
  | m1 + 1, j1, j2 =>
    if j2 < ((x0.length : Nat) : Int) then
      (idx x0 j2).bind fun y5 =>
      (ref01_Mod y5).bind fun r14 =>
      (ref01_Mod (IntKind.i64.wrap (j1 + (IntKind.i64.wrap r14)))).bind fun r16 =>
      (ref01_Wrap.L1 x0 m1) (IntKind.i64.wrap r16) (IntKind.i64.wrap (j2 + 1))
    else
      some (IntKind.i32.wrap j1)

def ref01_Wrap (N : Nat) (x0 : (List Int)) : Option (Int) :=
  ref01_Wrap.L1 x0 N 0 0

theorem ref01_Wrap_any {N : Nat} {x0 : (List Int)} {ax0 : Option Addr} {nx0 : Nat} {qx0 : Nat} {P0 : HP} {Fr : List HP} {w : World} {r : Int} {K : Value → World → Prop} (hrd0 : Reads P0 (pInt .i64) (.slice ax0 nx0 qx0) x0) (hc : Ctx w (P0 :: Fr)) (hp : ref01_Wrap N x0 = some r)
    (k : ∀ w', Ctx w' (P0 :: Fr) → K (.int .i32 r) w') : Calls Tryz.prog 50 #[.slice ax0 nx0 qx0] w (Ret K) := by
 unfold ref01_Wrap at hp; refine Center1 F50 M50 rfl rfl ?_; obtain ⟨hn0, _⟩ := Ctx.rdLen hc (k := 0) rfl rfl hrd0; subst hn0; refine Wseq (Wreg ?_); refine az (.int .i32 0) <| rn (qn (Wseq (Wreg ?_))); refine az (.int .i64 0) <| rn (qn (Wseq (Wseq (Wreg ?_)))); refine az (.int .i64 0) <| rn (qn (Wblk ?_)); refine Wloop [3, 4, 5, 6, 7, 8, 9, 10, 11, 12, 13, 14, 15, 16, 17, 18, 19, 20] [3, 4] (fun m vs w' => ∃ j1 : Int, ∃ j2 : Int, vs = [.int .i64 j1, .int .i64 j2] ∧ ref01_Wrap.L1 x0 m j1 j2 = some r ∧ Ctx w' (P0 :: Fr)) N ?_ ?_
 · exact ⟨0, 0, rfl, hp, hc⟩
 · clear hp hc; intro m vs u w3 hJ; obtain ⟨j1, j2, rfl, hp, hc⟩ := hJ; rcases m with _ | m1
   · cases (show none = some r from hp)
   rw [ref01_Wrap.L1] at hp; refine Wseq (Wseq (Wreg ?_)); refine mz (.int .i64 j2) <| mz (.slice ax0 x0.length qx0) <| sz (ln rfl U125) <| sz (lt' rfl rfl) <| rn (qn ?_); cases hb4 : (decide (j2 < ((x0.length : Nat) : Int)))
   · replace hp := gneg hp (of_decide_eq_false hb4); refine Wcf rfl (Wexit (qx (qx (be (qn (Wseq (Wreg ?_))))))); refine mz (.int .i64 j1) <| sz (cvi rfl U2 U21) ?_; refine az (.int .i32 (IntKind.i32.wrap j1)) <| rn (qn (Wret ?_)); obtain rfl := sj hp; refine f1 (v := .int .i32 (IntKind.i32.wrap j1)) R50 M50 rfl ?_; exact ⟨_, rfl, k _ hc⟩
   · replace hp := gpos hp (of_decide_eq_true hb4); refine Wct rfl (Wskip (qn (Wseq (Wblk (Wreg ?_))))); refine mz (.int .i64 j1) <| mz (.slice ax0 x0.length qx0) <| mz (.int .i64 j2) ?_; replace hp := bind_some hp; obtain ⟨y5, hy5, hp⟩ := hp; obtain ⟨b8, o9, u10, hi6, hi7⟩ := Ctx.rdAt hc (k := 0) rfl rfl hrd0 hy5; subst u10; refine sz (ixx rfl rfl U125 Z2 hi6 hi7 rfl) ?_; replace hc := Ctx.rdCell hc (k := 0) rfl rfl hrd0 hy5; obtain ⟨cs11, hc, hcell12⟩ := hc; replace hc := Ctx.holdC hc; obtain ⟨u13, hc⟩ := hc; subst u13; refine sz (ld rfl G2 (hcell12 0 _ rfl)) ?_; obtain ⟨r14, hr14, hp⟩ := bind_some hp; refine kz C87 ?_; refine ref01_Mod_any hc hr14 ?_; clear hc; intro w15 hc; refine sz (cvi rfl U21 U2) ?_; refine sz (adw rfl rfl) ?_; obtain ⟨r16, hr16, hp⟩ := bind_some hp; refine kz C87 ?_; refine ref01_Mod_any hc hr16 ?_; clear hc; intro w17 hc; refine sz (cvi rfl U21 U2) ?_; refine az (.int .i64 (IntKind.i64.wrap r16)) <| rn (bn (qn (Wreg ?_))); refine mz (.int .i64 j2) <| sz (adw rfl rfl) ?_; refine az (.int .i64 (IntKind.i64.wrap (j2 + 1))) <| rn (qn ?_); exact ⟨m1, Nat.lt_succ_self _, ⟨(IntKind.i64.wrap r16), (IntKind.i64.wrap (j2 + 1)), rfl, hp, hc⟩, (kl rfl k0)⟩

def ref04_Apply.L2 (N : Nat) (x0 : S_api_Mat) (x1 : (List Int)) (j12 : (List Int)) (j16 : Int) (k1 : (List Int) → Int → Option ((List Int) × Bool)) : Nat → (List Int) → Int → Option ((List Int) × Bool)
  | 0, _, _ => none
  | m2 + 1, j20, j24 =>
    if j24 < x0.Cols then
      (idx x0.V (IntKind.i64.wrap ((IntKind.i64.wrap (j16 * x0.Cols)) + j24))).bind fun y39 =>
      (idx x1 j24).bind fun y48 =>
      (app j20 ([(IntKind.i64.wrap ((IntKind.i64.wrap y39) * (IntKind.i64.wrap y48)))])).bind fun z59 =>
      (ref04_Apply.L2 N x0 x1 j12 j16 k1 m2) z59 (IntKind.i64.wrap (j24 + 1))
    else
      (ref01_Wrap N j20).bind fun r28 =>
      (app j12 ([r28])).bind fun z32 =>
      k1 z32 (IntKind.i64.wrap (j16 + 1))

def ref04_Apply.L1 (N : Nat) (x0 : S_api_Mat) (x1 : (List Int)) : Nat → (List Int) → Int → Option ((List Int) × Bool)
  | 0, _, _ => none
  | m1 + 1, j12, j16 =>
    if j16 < x0.Rows then
      ref04_Apply.L2 N x0 x1 j12 j16 (ref04_Apply.L1 N x0 x1 m1) N ([]) 0
    else
      some (j12, true)

def ref04_Apply (N : Nat) (x0 : S_api_Mat) (x1 : (List Int)) : Option ((List Int) × Bool) :=
  (ref04_Right (⟨x0.Rows, x0.Cols, x0.V⟩ : S_api_Mat)).bind fun r8 =>
  if r8 = true then
    if ((x1.length : Nat) : Int) ≠ x0.Cols then
      some ([], false)
    else
      ref04_Apply.L1 N x0 x1 N ([]) 0
  else
    some ([], false)

theorem ref04_Apply_any {N : Nat} {x0 : S_api_Mat} {a1 : Option Addr} {n2 : Nat} {q3 : Nat} {x1 : (List Int)} {ax1 : Option Addr} {nx1 : Nat} {qx1 : Nat} {P1 : HP} {Fr : List HP} {w : World} {r : (List Int) × Bool} {K : Value → World → Prop} (hrd1 : Reads P1 (pInt .i8) (.slice ax1 nx1 qx1) x1) (hc : Ctx w (Hold (pRo (pInt .i8)) [.slice a1 n2 q3] x0.V :: P1 :: Fr)) (hp : ref04_Apply N x0 x1 = some r)
    (k : ∀ (a65 : Option Addr) (n66 : Nat) (q67 : Nat) w', Ctx w' (Own (pInt .i32) 21 (.slice a65 n66 q67) r.1 :: P1 :: Fr) → K (.tuple #[.slice a65 n66 q67, .bool r.2]) w') : Calls Tryz.prog 18 #[.agg #[.int .i64 x0.Rows, .int .i64 x0.Cols, .slice a1 n2 q3], .slice ax1 nx1 qx1] w (Ret K) := by
 unfold ref04_Apply at hp; refine Center2 F18 M18 rfl rfl ?_; obtain ⟨hn1, _⟩ := Ctx.rdLen hc (k := 1) rfl rfl hrd1; subst hn1; obtain rfl := hc.rz 0 reads_ro; refine Wseq (Wreg ?_); refine rsE (Ctx.boxOp (cs := (S_api_Mat.cz x0 a1 q3)) (v := .agg (S_api_Mat.cz x0 a1 q3).toArray) hc rfl rfl) rfl ?_; clear hc; rintro _ w7 ⟨b5, rfl, hc⟩; refine az (.slice none 0 0) <| az (.bool false) <| rn (qn (Wseq (Wseq (Wreg ?_)))); refine sz (v := .agg (S_api_Mat.cz x0 a1 q3).toArray) (ldg rfl G32 Z32 rfl (Ctx.cells hc (k := 0) rfl rfl 0 (vs := (S_api_Mat.cz x0 a1 q3)) rfl)) ?_; replace hc := hc.dz 1; obtain ⟨r8, hr8, hp⟩ := bind_some hp; refine kz C49 ?_; refine ref04_Right_any (x0 := x0) hc hr8 ?_; clear hc; intro w9 hc; cases hb10 : r8
 · replace hp := gneg hp (by rw [hb10]; exact Bool.false_ne_true); subst hb10; refine sz (ntf rfl) ?_; refine mz (.bool true) ?_; (iterate 5 refine r0 rfl ?_); refine sz (v := .bool true) (pkt (v := .bool true) rfl rfl) ?_; refine rn (qn (Wct rfl (Wseq (Wreg ?_)))); refine az (.slice none 0 0) <| az (.bool false) <| rn (qn (Wret (qr ?_))); replace hc := hc.nilOwn (pInt .i32) 21; replace hc := Ctx.r1 (Ctx.r2 hc); obtain rfl := sj hp; refine f2 (v := .slice none 0 0) (u := .bool false) R18 M18 rfl rfl ?_; exact ⟨_, rfl, k _ _ _ _ hc⟩
 · replace hp := gpos hp hb10; subst hb10; refine sz (ntt rfl) ?_; refine mz (.bool false) <| mz (.slice ax1 x1.length qx1) <| sz (ln rfl U30) ?_; refine fl 1 U32 Z3 G3 (Ctx.cell hc (k := 0) rfl rfl rfl) rfl rfl rfl rfl rfl rfl rfl rfl ?_; refine sz (ned rfl rfl) ?_; refine sz (v := .bool (decide (((x1.length : Nat) : Int) ≠ x0.Cols))) (pkf (v := .bool (decide (((x1.length : Nat) : Int) ≠ x0.Cols))) rfl rfl) ?_; refine rn (qn ?_); cases hb11 : (decide (((x1.length : Nat) : Int) ≠ x0.Cols))
   · replace hp := gneg hp (of_decide_eq_false hb11); refine Wcf rfl (Wskip (qn (Wseq (Wreg ?_)))); refine az (.slice none 0 0) <| rn (qn (Wseq (Wseq (Wreg ?_)))); refine az (.int .i64 0) <| rn (qn (Wblk ?_)); replace hc := hc.nilOwn (pInt .i32) 21; replace hc := Ctx.p3 (Ctx.p3 (Ctx.p3 hc)); refine Wloop (6 :: 7 :: 8 :: 9 :: 20 :: 21 :: 22 :: 23 :: 24 :: 25 :: 26 :: 27 :: 28 :: 29 :: 30 :: 31 :: 32 :: 33 :: 34 :: 35 :: 36 :: 37 :: 38 :: 39 :: 40 :: 41 :: 42 :: 43 :: 44 :: 45 :: 46 :: 47 :: 48 :: 49 :: 50 :: 51 :: 52 :: 53 :: 54 :: 55 :: 56 :: []) [6, 7] (fun m vs w' => ∃ j12 : (List Int), ∃ j16 : Int, ∃ a13 : Option Addr, ∃ n14 : Nat, ∃ q15 : Nat, vs = [.slice a13 n14 q15, .int .i64 j16] ∧ ref04_Apply.L1 N x0 x1 m j12 j16 = some r ∧ Ctx w' (B b5 (S_api_Mat.cz x0 a1 q3) 32 :: hR .i8 a1 q3 x0.V :: P1 :: Own (pInt .i32) 21 (.slice a13 n14 q15) j12 :: Fr)) N ?_ ?_
     · exact ⟨[], 0, none, 0, 0, rfl, hp, hc⟩
     · clear hp hc; intro m vs u w17 hJ; obtain ⟨j12, j16, a13, n14, q15, rfl, hp, hc⟩ := hJ; obtain rfl := hc.rz 3 reads_own; rcases m with _ | m1
       · cases (show none = some r from hp)
       rw [ref04_Apply.L1] at hp; refine Wseq (Wseq (Wreg ?_)); refine mz (.int .i64 j16) ?_; refine fl 0 U32 Z3 G3 (Ctx.cell hc (k := 0) rfl rfl rfl) rfl rfl rfl rfl rfl rfl rfl rfl ?_; refine sz (lt' rfl rfl) ?_; refine rn (qn ?_); cases hb19 : (decide (j16 < x0.Rows))
       · replace hp := gneg hp (of_decide_eq_false hb19); refine Wcf rfl (Wexit (qx (qx (be (qn (Wseq (Wreg ?_))))))); refine mz (.slice a13 j12.length q15) <| az (.slice a13 j12.length q15) <| az (.bool true) <| rn (qn (Wret ?_)); replace hc := Ctx.p1 (Ctx.r0 (Ctx.r1 hc)); obtain rfl := sj hp; refine f2 (v := .slice a13 j12.length q15) (u := .bool true) R18 M18 rfl rfl ?_; exact ⟨_, rfl, k _ _ _ _ hc⟩
       · replace hp := gpos hp (of_decide_eq_true hb19); refine Wct rfl (Wskip (qn (Wseq (Wblk (Wseq (Wreg ?_)))))); refine az (.slice none 0 0) <| rn (qn (Wseq (Wseq (Wreg ?_)))); refine az (.int .i64 0) <| rn (qn (Wblk ?_)); replace hc := hc.nilOwn (pInt .i64) 2; replace hc := Ctx.p4 (Ctx.p4 (Ctx.p4 (Ctx.p4 hc))); refine Wloop [8, 9, 26, 27, 28, 29, 30, 31, 32, 33, 34, 35, 36, 37, 38, 39, 40, 41, 42, 43, 44, 45, 46, 47, 48, 49, 50, 51] [8, 9] (fun m vs w' => ∃ j20 : (List Int), ∃ j24 : Int, ∃ a21 : Option Addr, ∃ n22 : Nat, ∃ q23 : Nat, vs = [.slice a21 n22 q23, .int .i64 j24] ∧ ref04_Apply.L2 N x0 x1 j12 j16 (ref04_Apply.L1 N x0 x1 m1) m j20 j24 = some r ∧ Ctx w' (B b5 (S_api_Mat.cz x0 a1 q3) 32 :: hR .i8 a1 q3 x0.V :: P1 :: oR .i32 21 a13 q15 j12 :: Own (pInt .i64) 2 (.slice a21 n22 q23) j20 :: Fr)) N ?_ ?_
         · exact ⟨[], 0, none, 0, 0, rfl, hp, hc⟩
         · clear hp hc; intro m vs u w25 hJ; obtain ⟨j20, j24, a21, n22, q23, rfl, hp, hc⟩ := hJ; obtain rfl := hc.rz 4 reads_own; rcases m with _ | m2
           · cases (show none = some r from hp)
           rw [ref04_Apply.L2] at hp; refine Wseq (Wseq (Wreg ?_)); refine mz (.int .i64 j24) ?_; refine fl 1 U32 Z3 G3 (Ctx.cell hc (k := 0) rfl rfl rfl) rfl rfl rfl rfl rfl rfl rfl rfl ?_; refine sz (lt' rfl rfl) ?_; refine rn (qn ?_); cases hb27 : (decide (j24 < x0.Cols))
           · replace hp := gneg hp (of_decide_eq_false hb27); refine Wcf rfl (Wexit (qx (qx (be (qn (Wreg ?_)))))); refine mz (.slice a13 j12.length q15) <| mz (.slice a21 j20.length q23) ?_; obtain ⟨r28, hr28, hp⟩ := bind_some hp; replace hc := Ctx.p4 hc; refine kz C50 ?_; refine ref01_Wrap_any reads_own hc hr28 ?_; clear hc; intro w29 hc; refine rsE (Ctx.builtOp (css := [[.int .i32 r28]]) (xs := ([r28] : List Int)) (E := (pInt .i32)) (Ctx.holdsC (f := fun x : Int => [.int .i32 x]) (fun _ _ _ => rfl) hc ([r28] : List Int)) U51 Z21 V21 rfl rfl rfl rfl rfl rfl rfl rfl) rfl ?_; clear hc; rintro _ w31 ⟨a30, rfl, hc⟩; replace hp := bind_some hp; obtain ⟨z32, hz32, hp⟩ := hp; obtain ⟨hg33, e34⟩ := app_some hz32; refine rsE (Ctx.append hc (k := 5) rfl rfl (k2 := 0) rfl rfl reads_own U51 (i := Tryz.t21) rfl rfl rfl rfl rfl rfl rfl rfl hg33) rfl ?_; clear hc; rintro _ w37 ⟨a35, q36, rfl, hc⟩; rw [← e34] at hc ⊢; replace hc := Ctx.n5 hc; refine az (.slice a35 z32.length q36) <| rn (bn (qn (Wreg ?_))); refine mz (.int .i64 j16) <| sz (adw rfl rfl) ?_; refine az (.int .i64 (IntKind.i64.wrap (j16 + 1))) <| rn (qn ?_); replace hc := Ctx.r0 (Ctx.r1 hc); exact ⟨m1, Nat.lt_succ_self _, ⟨z32, (IntKind.i64.wrap (j16 + 1)), a35, z32.length, q36, rfl, hp, hc⟩, (kl rfl (km rfl (kl rfl k0)))⟩
           · replace hp := gpos hp (of_decide_eq_true hb27); refine Wct rfl (Wskip (qn (Wseq (Wblk ?_)))); replace hc := hc.drew; refine Wdrw (fun j w' => True) [0, 0, 2, 0, 0, 16, 56, 0, 248, 510, 1022, 2046, 0, 0, 12288, 28672, 61440, 131070, 262142, 524287, 1048575] 0 33828 rfl (by kernel_rfl) (fun _ _ => trivial) ?_; generalize hw : World.drew w25 = w38 at *; clear hw; refine dM (.slice a21 j20.length q23) rfl rfl rfl ?_; refine ds (v := pt b5 2) rfl (fun w' hF => fax 2 rfl U32 rfl Z30 rfl rfl rfl) rfl ?_; refine dx rfl (ld rfl G30 (Ctx.cell hc (k := 0) rfl rfl rfl)) rfl rfl ?_; refine dM (.int .i64 j16) rfl rfl rfl ?_; refine ds (v := pt b5 1) rfl (fun w' hF => fax 1 rfl U32 rfl Z3 rfl rfl rfl) rfl ?_; refine dx rfl (ld rfl G3 (Ctx.cell hc (k := 0) rfl rfl rfl)) rfl rfl ?_; refine ds rfl (fun w' hF => mlw rfl rfl) rfl ?_; refine dM (.int .i64 j24) rfl rfl rfl ?_; refine ds rfl (fun w' hF => adw rfl rfl) rfl ?_; replace hp := bind_some hp; obtain ⟨y39, hy39, hp⟩ := hp; obtain ⟨b42, o43, u44, hi40, hi41⟩ := Ctx.rdAt hc (k := 1) rfl rfl reads_ro hy39; subst u44; refine ds rfl (fun w' hF => ixx rfl rfl U30 Z88 hi40 hi41 rfl) rfl ?_; replace hc := Ctx.rdCell hc (k := 1) rfl rfl reads_ro hy39; obtain ⟨cs45, hc, hcell46⟩ := hc; replace hc := Ctx.holdC hc; obtain ⟨u47, hc⟩ := hc; subst u47; refine dx rfl (ld rfl G88 (hcell46 0 _ rfl)) rfl rfl ?_; refine ds rfl (fun w' hF => cvi rfl U88 U2) rfl ?_; refine dM (.slice ax1 x1.length qx1) rfl rfl rfl ?_; refine dM (.int .i64 j24) rfl rfl rfl ?_; replace hp := bind_some hp; obtain ⟨y48, hy48, hp⟩ := hp; obtain ⟨b51, o52, u53, hi49, hi50⟩ := Ctx.rdAt hc (k := 2) rfl rfl hrd1 hy48; subst u53; refine ds rfl (fun w' hF => ixx rfl rfl U30 Z88 hi49 hi50 rfl) rfl ?_; replace hc := Ctx.rdCell hc (k := 2) rfl rfl hrd1 hy48; obtain ⟨cs54, hc, hcell55⟩ := hc; replace hc := Ctx.holdC hc; obtain ⟨u56, hc⟩ := hc; subst u56; refine dx rfl (ld rfl G88 (hcell55 0 _ rfl)) rfl rfl ?_; refine ds rfl (fun w' hF => cvi rfl U88 U2) rfl ?_; refine ds rfl (fun w' hF => mlw rfl rfl) rfl ?_; refine deE (Ctx.builtOp (css := [[.int .i64 (IntKind.i64.wrap ((IntKind.i64.wrap y39) * (IntKind.i64.wrap y48)))]]) (xs := ([(IntKind.i64.wrap ((IntKind.i64.wrap y39) * (IntKind.i64.wrap y48)))] : List Int)) (E := (pInt .i64)) (Ctx.holdsC (f := fun x : Int => [.int .i64 x]) (fun _ _ _ => rfl) hc ([(IntKind.i64.wrap ((IntKind.i64.wrap y39) * (IntKind.i64.wrap y48)))] : List Int)) U125 Z2 V2 rfl rfl rfl rfl rfl rfl rfl rfl) rfl rfl ?_; clear hc; rintro _ w58 ⟨a57, rfl, hc⟩; refine ⟨fun j hj hb => trivial, ?_⟩; replace hp := bind_some hp; obtain ⟨z59, hz59, hp⟩ := hp; obtain ⟨hg60, e61⟩ := app_some hz59; refine deE (Ctx.append hc (k := 5) rfl rfl (k2 := 0) rfl rfl reads_own U125 (i := Tryz.t2) rfl rfl rfl rfl rfl rfl rfl rfl hg60) rfl rfl ?_; clear hc; rintro _ w64 ⟨a62, q63, rfl, hc⟩; rw [← e61] at hc ⊢; replace hc := Ctx.n5 hc; refine ⟨fun j hj hb => trivial, ?_⟩; refine dA (.slice a62 z59.length q63) rfl rfl rfl ?_; refine dn (bn (qn (Wreg ?_))); refine mz (.int .i64 j24) <| sz (adw rfl rfl) ?_; refine az (.int .i64 (IntKind.i64.wrap (j24 + 1))) <| rn (qn ?_); replace hc := Ctx.r0 hc; exact ⟨m2, Nat.lt_succ_self _, ⟨z59, (IntKind.i64.wrap (j24 + 1)), a62, z59.length, q63, rfl, hp, hc⟩, (kl rfl k0)⟩
   · replace hp := gpos hp (of_decide_eq_true hb11); refine Wct rfl (Wseq (Wreg ?_)); refine az (.slice none 0 0) <| az (.bool false) <| rn (qn (Wret (qr ?_))); replace hc := hc.nilOwn (pInt .i32) 21; replace hc := Ctx.r1 (Ctx.r2 hc); obtain rfl := sj hp; refine f2 (v := .slice none 0 0) (u := .bool false) R18 M18 rfl rfl ?_; exact ⟨_, rfl, k _ _ _ _ hc⟩

def ref01_Scale (N : Nat) (x0 : Int) (x1 : Int) (x2 : Int) (x3 : Int) (x4 : Int) : Option (Int) :=
  (ref01_Shift N (IntKind.i64.wrap ((IntKind.i64.wrap x0) * (IntKind.i64.wrap x1))) x2).bind fun r1 =>
  (ref01_Near r1 x3 x4).bind fun r3 =>
  some r3

theorem ref01_Scale_any {N : Nat} {x0 : Int} {x1 : Int} {x2 : Int} {x3 : Int} {x4 : Int} {Fr : List HP} {w : World} {r : Int} {K : Value → World → Prop}  (hc : Ctx w (Fr)) (hp : ref01_Scale N x0 x1 x2 x3 x4 = some r)
    (k : ∀ w', Ctx w' (Fr) → K (.int .i64 r) w') : Calls Tryz.prog 84 #[.int .i32 x0, .int .i32 x1, .int .i64 x2, .int .i64 x3, .int .i64 x4] w (Ret K) := by
 unfold ref01_Scale at hp; refine Center (args := [.int .i32 x0, .int .i32 x1, .int .i64 x2, .int .i64 x3, .int .i64 x4]) (l := [(0, .int .i32 x0), (1, .int .i32 x1), (2, .int .i64 x2), (3, .int .i64 x3), (4, .int .i64 x4)]) F84 M84 rfl rfl rfl ?_; refine Wseq (Wreg ?_); refine az (.int .i64 0) <| rn (qn (Wseq (Wreg ?_))); refine mz (.int .i32 x0) <| sz (cvi rfl U21 U2) ?_; refine mz (.int .i32 x1) <| sz (cvi rfl U21 U2) ?_; refine sz (mlw rfl rfl) ?_; refine mz (.int .i64 x2) ?_; obtain ⟨r1, hr1, hp⟩ := bind_some hp; refine kz C53 ?_; refine ref01_Shift_any hc hr1 ?_; clear hc; intro w2 hc; refine mz (.int .i64 x3) <| mz (.int .i64 x4) ?_; obtain ⟨r3, hr3, hp⟩ := bind_some hp; refine kz C51 ?_; refine ref01_Near_any hc hr3 ?_; clear hc; intro w4 hc; refine az (.int .i64 r3) <| rn (qn (Wret ?_)); obtain rfl := sj hp; refine f1 (v := .int .i64 r3) R84 M84 rfl ?_; exact ⟨_, rfl, k _ hc⟩

def ref08_quants.L1 (N : Nat) (r8 : ((List Int) × Bool)) : Nat → (List Int) → Int → Option ((List Int))
  | 0, _, _ => none
  | m1 + 1, j14, j18 =>
    if j18 < ((r8.1.length : Nat) : Int) then
      (idx r8.1 j18).bind fun y22 =>
      (ref01_Scale N y22 1 7 (-128) 127).bind fun r31 =>
      (app j14 ([(IntKind.i8.wrap r31)])).bind fun z35 =>
      (ref08_quants.L1 N r8 m1) z35 (IntKind.i64.wrap (j18 + 1))
    else
      some j14

def ref08_quants (N : Nat) (x0 : S_api_Mat) (x1 : (List Int)) : Option ((List Int)) :=
  (ref04_Apply N (⟨x0.Rows, x0.Cols, x0.V⟩ : S_api_Mat) x1).bind fun r8 =>
  ref08_quants.L1 N r8 N ([]) 0

theorem ref08_quants_any {N : Nat} {x0 : S_api_Mat} {a1 : Option Addr} {n2 : Nat} {q3 : Nat} {x1 : (List Int)} {ax1 : Option Addr} {nx1 : Nat} {qx1 : Nat} {P1 : HP} {Fr : List HP} {w : World} {r : (List Int)} {K : Value → World → Prop} (hrd1 : Reads P1 (pInt .i8) (.slice ax1 nx1 qx1) x1) (hc : Ctx w (Hold (pRo (pInt .i8)) [.slice a1 n2 q3] x0.V :: P1 :: Fr)) (hp : ref08_quants N x0 x1 = some r)
    (k : ∀ (a41 : Option Addr) (n42 : Nat) (q43 : Nat) w', Ctx w' (Own (pInt .i8) 88 (.slice a41 n42 q43) r :: P1 :: Fr) → K (.slice a41 n42 q43) w') : Calls Tryz.prog 56 #[.agg #[.int .i64 x0.Rows, .int .i64 x0.Cols, .slice a1 n2 q3], .slice ax1 nx1 qx1] w (Ret K) := by
 unfold ref08_quants at hp; refine Center2 F56 M56 rfl rfl ?_; obtain ⟨hn1, _⟩ := Ctx.rdLen hc (k := 1) rfl rfl hrd1; subst hn1; obtain rfl := hc.rz 0 reads_ro; refine Wseq (Wreg ?_); refine rsE (Ctx.boxOp (cs := (S_api_Mat.cz x0 a1 q3)) (v := .agg (S_api_Mat.cz x0 a1 q3).toArray) hc rfl rfl) rfl ?_; clear hc; rintro _ w7 ⟨b5, rfl, hc⟩; refine az (.slice none 0 0) <| rn (qn (Wseq (Wreg ?_))); refine sz (v := .agg (S_api_Mat.cz x0 a1 q3).toArray) (ldg rfl G32 Z32 rfl (Ctx.cells hc (k := 0) rfl rfl 0 (vs := (S_api_Mat.cz x0 a1 q3)) rfl)) ?_; refine mz (.slice ax1 x1.length qx1) ?_; replace hc := hc.dz 1; obtain ⟨r8, hr8, hp⟩ := bind_some hp; replace hc := Ctx.p1 (Ctx.p3 hc); refine kz C18 ?_; refine ref04_Apply_any (x0 := x0) hrd1 hc hr8 ?_; clear hc; intro a9 n10 q11 w12 hc; obtain rfl := hc.rz 0 reads_own; refine mz (.tuple #[.slice a9 r8.1.length q11, .bool r8.2]) <| sz (ext (v := .slice a9 r8.1.length q11) rfl rfl) ?_; refine sz (ext (v := .bool r8.2) rfl rfl) ?_; refine az (.slice a9 r8.1.length q11) <| az (.bool r8.2) <| rn (qn (Wseq (Wreg ?_))); refine az (.slice none 0 0) <| rn (qn (Wseq (Wseq (Wreg ?_)))); refine az (.int .i64 0) <| rn (qn (Wblk ?_)); replace hc := hc.nilOwn (pInt .i8) 88; replace hc := Ctx.p2 (Ctx.p2 (Ctx.r3 (Ctx.r4 hc))); refine Wloop [7, 8, 15, 16, 17, 18, 19, 20, 21, 22, 23, 24, 25, 26, 27, 28, 29] [7, 8] (fun m vs w' => ∃ j14 : (List Int), ∃ j18 : Int, ∃ a15 : Option Addr, ∃ n16 : Nat, ∃ q17 : Nat, vs = [.slice a15 n16 q17, .int .i64 j18] ∧ ref08_quants.L1 N r8 m j14 j18 = some r ∧ Ctx w' (oR .i32 21 a9 q11 r8.1 :: P1 :: Own (pInt .i8) 88 (.slice a15 n16 q17) j14 :: Fr)) N ?_ ?_
 · exact ⟨[], 0, none, 0, 0, rfl, hp, hc⟩
 · clear hp hc; intro m vs u w19 hJ; obtain ⟨j14, j18, a15, n16, q17, rfl, hp, hc⟩ := hJ; obtain rfl := hc.rz 2 reads_own; rcases m with _ | m1
   · cases (show none = some r from hp)
   rw [ref08_quants.L1] at hp; refine Wseq (Wseq (Wreg ?_)); refine mz (.int .i64 j18) <| mz (.slice a9 r8.1.length q11) <| sz (ln rfl U51) <| sz (lt' rfl rfl) <| rn (qn ?_); cases hb21 : (decide (j18 < ((r8.1.length : Nat) : Int)))
   · replace hp := gneg hp (of_decide_eq_false hb21); refine Wcf rfl (Wexit (qx (qx (be (qn (Wseq (Wreg ?_))))))); refine mz (.slice a15 j14.length q17) <| az (.slice a15 j14.length q17) <| rn (qn (Wret ?_)); replace hc := Ctx.p1 (Ctx.r0 hc); obtain rfl := sj hp; refine f1 (v := .slice a15 j14.length q17) R56 M56 rfl ?_; exact ⟨_, rfl, k _ _ _ _ hc⟩
   · replace hp := gpos hp (of_decide_eq_true hb21); refine Wct rfl (Wskip (qn (Wseq (Wblk (Wreg ?_))))); refine mz (.slice a15 j14.length q17) <| mz (.slice a9 r8.1.length q11) <| mz (.int .i64 j18) ?_; replace hp := bind_some hp; obtain ⟨y22, hy22, hp⟩ := hp; obtain ⟨b25, o26, u27, hi23, hi24⟩ := Ctx.rdAt hc (k := 0) rfl rfl reads_own hy22; subst u27; refine sz (ixx rfl rfl U51 Z21 hi23 hi24 rfl) ?_; replace hc := Ctx.rdCell hc (k := 0) rfl rfl reads_own hy22; obtain ⟨cs28, hc, hcell29⟩ := hc; replace hc := Ctx.holdC hc; obtain ⟨u30, hc⟩ := hc; subst u30; refine sz (ld rfl G21 (hcell29 0 _ rfl)) ?_; obtain ⟨r31, hr31, hp⟩ := bind_some hp; refine kz C84 ?_; refine ref01_Scale_any hc hr31 ?_; clear hc; intro w32 hc; refine sz (cvi rfl U2 U88) ?_; refine rsE (Ctx.builtOp (css := [[.int .i8 (IntKind.i8.wrap r31)]]) (xs := ([(IntKind.i8.wrap r31)] : List Int)) (E := (pInt .i8)) (Ctx.holdsC (f := fun x : Int => [.int .i8 x]) (fun _ _ _ => rfl) hc ([(IntKind.i8.wrap r31)] : List Int)) U30 Z88 V88 rfl rfl rfl rfl rfl rfl rfl rfl) rfl ?_; clear hc; rintro _ w34 ⟨a33, rfl, hc⟩; replace hp := bind_some hp; obtain ⟨z35, hz35, hp⟩ := hp; obtain ⟨hg36, e37⟩ := app_some hz35; refine rsE (Ctx.append hc (k := 3) rfl rfl (k2 := 0) rfl rfl reads_own U30 (i := Tryz.t88) rfl rfl rfl rfl rfl rfl rfl rfl hg36) rfl ?_; clear hc; rintro _ w40 ⟨a38, q39, rfl, hc⟩; rw [← e37] at hc ⊢; replace hc := Ctx.n3 hc; refine az (.slice a38 z35.length q39) <| rn (bn (qn (Wreg ?_))); refine mz (.int .i64 j18) <| sz (adw rfl rfl) ?_; refine az (.int .i64 (IntKind.i64.wrap (j18 + 1))) <| rn (qn ?_); replace hc := Ctx.r0 hc; exact ⟨m1, Nat.lt_succ_self _, ⟨z35, (IntKind.i64.wrap (j18 + 1)), a38, z35.length, q39, rfl, hp, hc⟩, (kl rfl k0)⟩

def ref06_rest (x0 : Int) : Option (Int) :=
  if (Int.tmod x0 65536) < 0 then
    (some (IntKind.i64.wrap ((Int.tmod x0 65536) + 65536))).bind fun e2 =>
    some e2
  else
    some (Int.tmod x0 65536)

theorem ref06_rest_any {x0 : Int} {Fr : List HP} {w : World} {r : Int} {K : Value → World → Prop}  (hc : Ctx w (Fr)) (hp : ref06_rest x0 = some r)
    (k : ∀ w', Ctx w' (Fr) → K (.int .i64 r) w') : Calls Tryz.prog 128 #[.int .i64 x0] w (Ret K) := by
 unfold ref06_rest at hp; refine Center1 F128 M128 rfl rfl ?_; refine Wseq (Wreg ?_); refine az (.int .i64 0) <| rn (qn (Wseq (Wreg ?_))); refine mz (.int .i64 x0) <| sz (rm rfl rfl (by decide)) ?_; refine az (.int .i64 (Int.tmod x0 65536)) <| rn (qn (Wseq (Wseq (Wreg ?_)))); refine mz (.int .i64 (Int.tmod x0 65536)) <| sz (lt' rfl rfl) ?_; refine rn (qn ?_); cases hb1 : (decide ((Int.tmod x0 65536) < 0))
 · replace hp := gneg hp (of_decide_eq_false hb1); refine Wcf rfl (Wskip (qn (Wseq (Wreg ?_)))); refine mz (.int .i64 (Int.tmod x0 65536)) <| az (.int .i64 (Int.tmod x0 65536)) <| rn (qn (Wret ?_)); obtain rfl := sj hp; refine f1 (v := .int .i64 (Int.tmod x0 65536)) R128 M128 rfl ?_; exact ⟨_, rfl, k _ hc⟩
 · replace hp := gpos hp (of_decide_eq_true hb1); refine Wct rfl (Wreg ?_); refine mz (.int .i64 (Int.tmod x0 65536)) <| sz (adw rfl rfl) ?_; replace hp := bind_some hp; obtain ⟨e2, he2, hp⟩ := hp; injection he2 with he2; refine sz (v := .int .i64 e2) (av (v := .int .i64 e2) (by rw [← he2]; rfl)) ?_; refine rn (qn (Wseq (Wreg ?_))); refine mz (.int .i64 e2) <| az (.int .i64 e2) <| rn (qn (Wret ?_)); obtain rfl := sj hp; refine f1 (v := .int .i64 e2) R128 M128 rfl ?_; exact ⟨_, rfl, k _ hc⟩

def ref06_Angle.J2 (x0 : Int) (j4 : Int) (j5 : Int) (k1 : Int → Int → Option (Int)) (j7 : Bool) : Option (Int) :=
  if j7 = true then
    (some (IntKind.i64.wrap (Int.tdiv j4 2))).bind fun e13 =>
    k1 e13 (IntKind.i64.wrap (j5 + 1))
  else
    (ref06_rest (IntKind.i64.wrap (x0 * j4))).bind fun r11 =>
    some r11

def ref06_Angle.L1 (x0 : Int) (x1 : Int) : Nat → Int → Int → Option (Int)
  | 0, _, _ => none
  | m1 + 1, j4, j5 =>
    if j5 < x1 then
      ref06_Angle.J2 x0 j4 j5 (ref06_Angle.L1 x0 x1 m1) (decide (j4 > 0))
    else
      ref06_Angle.J2 x0 j4 j5 (ref06_Angle.L1 x0 x1 m1) false

def ref06_Angle (N : Nat) (x0 : Int) (x1 : Int) : Option (Int) :=
  if x0 < 0 then
    some 0
  else
    if x0 > 1048576 then
      some 0
    else
      if x1 < 0 then
        some 0
      else
        ref06_Angle.L1 x0 x1 N 8192 0

theorem ref06_Angle_any {N : Nat} {x0 : Int} {x1 : Int} {Fr : List HP} {w : World} {r : Int} {K : Value → World → Prop}  (hc : Ctx w (Fr)) (hp : ref06_Angle N x0 x1 = some r)
    (k : ∀ w', Ctx w' (Fr) → K (.int .i64 r) w') : Calls Tryz.prog 110 #[.int .i64 x0, .int .i64 x1] w (Ret K) := by
 unfold ref06_Angle at hp; refine Center2 F110 M110 rfl rfl ?_; refine Wseq (Wreg ?_); refine az (.int .i64 0) <| rn (qn (Wseq (Wseq (Wreg ?_)))); refine mz (.int .i64 x0) <| sz (lt' rfl rfl) ?_; refine mz (.bool (decide (x0 < 0))) ?_; cases hb1 : (decide (x0 < 0))
 · replace hp := gneg hp (of_decide_eq_false hb1); refine mz (.int .i64 x0) <| sz (gt' rfl rfl) ?_; refine sz (v := .bool (decide (x0 > 1048576))) (pkf (v := .bool (decide (x0 > 1048576))) rfl rfl) ?_; refine mz (.bool (decide (x0 > 1048576))) ?_; cases hb2 : (decide (x0 > 1048576))
   · replace hp := gneg hp (of_decide_eq_false hb2); refine mz (.int .i64 x1) <| sz (lt' rfl rfl) ?_; refine sz (v := .bool (decide (x1 < 0))) (pkf (v := .bool (decide (x1 < 0))) rfl rfl) ?_; refine rn (qn ?_); cases hb3 : (decide (x1 < 0))
     · replace hp := gneg hp (of_decide_eq_false hb3); refine Wcf rfl (Wskip (qn (Wseq (Wreg ?_)))); refine az (.int .i64 8192) <| rn (qn (Wseq (Wseq (Wreg ?_)))); refine az (.int .i64 0) <| rn (qn (Wblk ?_)); refine Wloop [5, 6, 17, 18, 19, 20, 21, 22, 23, 24, 25, 26, 27] [5, 6] (fun m vs w' => ∃ j4 : Int, ∃ j5 : Int, vs = [.int .i64 j4, .int .i64 j5] ∧ ref06_Angle.L1 x0 x1 m j4 j5 = some r ∧ Ctx w' (Fr)) N ?_ ?_
       · exact ⟨8192, 0, rfl, hp, hc⟩
       · clear hp hc; intro m vs u w6 hJ; obtain ⟨j4, j5, rfl, hp, hc⟩ := hJ; rcases m with _ | m1
         · cases (show none = some r from hp)
         rw [ref06_Angle.L1] at hp; refine Wseq ?_; refine Wseqm [17, 18, 19, 20, 21, 22, 23] [23] (fun vs w' => ∃ j7 : Bool, vs = [.bool j7] ∧ ref06_Angle.J2 x0 j4 j5 (ref06_Angle.L1 x0 x1 m1) j7 = some r ∧ Ctx w' (Fr)) ?_ ?_
         · refine Wreg ?_; refine mz (.int .i64 j5) <| mz (.int .i64 x1) <| sz (lt' rfl rfl) <| mz (.bool (decide (j5 < x1))) ?_; cases hb8 : (decide (j5 < x1))
           · replace hp := gneg hp (of_decide_eq_false hb8); (iterate 2 refine r0 rfl ?_); refine sz (v := .bool false) (pkf (v := .bool false) rfl rfl) ?_; refine rn (qn ?_); exact ⟨⟨false, rfl, hp, hc⟩, (kl rfl kb)⟩
           · replace hp := gpos hp (of_decide_eq_true hb8); refine mz (.int .i64 j4) <| sz (gt' rfl rfl) ?_; refine sz (v := .bool (decide (j4 > 0))) (pkt (v := .bool (decide (j4 > 0))) rfl rfl) ?_; refine rn (qn ?_); exact ⟨⟨decide (j4 > 0), rfl, hp, hc⟩, (kl rfl kb)⟩
         · clear hp hc; intro vs u w9 hJ; obtain ⟨j7, rfl, hp, hc⟩ := hJ; unfold ref06_Angle.J2 at hp; cases hb10 : j7
           · replace hp := gneg hp (by rw [hb10]; exact Bool.false_ne_true); subst hb10; refine Wcf rfl (Wexit (qx (qx (be (qn (Wseq (Wreg ?_))))))); refine mz (.int .i64 x0) <| mz (.int .i64 j4) <| sz (mlw rfl rfl) ?_; obtain ⟨r11, hr11, hp⟩ := bind_some hp; refine kz C128 ?_; refine ref06_rest_any hc hr11 ?_; clear hc; intro w12 hc; refine az (.int .i64 r11) <| rn (qn (Wret ?_)); obtain rfl := sj hp; refine f1 (v := .int .i64 r11) R110 M110 rfl ?_; exact ⟨_, rfl, k _ hc⟩
           · replace hp := gpos hp hb10; subst hb10; refine Wct rfl (Wskip (qn (Wseq (Wblk (Wreg ?_))))); refine mz (.int .i64 j4) <| sz (quw rfl rfl (by decide)) ?_; replace hp := bind_some hp; obtain ⟨e13, he13, hp⟩ := hp; injection he13 with he13; refine sz (v := .int .i64 e13) (av (v := .int .i64 e13) (by rw [← he13]; rfl)) ?_; refine rn (bn (qn (Wreg ?_))); refine mz (.int .i64 j5) <| sz (adw rfl rfl) ?_; refine az (.int .i64 (IntKind.i64.wrap (j5 + 1))) <| rn (qn ?_); exact ⟨m1, Nat.lt_succ_self _, ⟨e13, (IntKind.i64.wrap (j5 + 1)), rfl, hp, hc⟩, (kl rfl (km rfl (kl rfl k0)))⟩
     · replace hp := gpos hp (of_decide_eq_true hb3); refine Wct rfl (Wseq (Wreg ?_)); refine az (.int .i64 0) <| rn (qn (Wret (qr ?_))); obtain rfl := sj hp; refine f1 (v := .int .i64 0) R110 M110 rfl ?_; exact ⟨_, rfl, k _ hc⟩
   · replace hp := gpos hp (of_decide_eq_true hb2); (iterate 2 refine r0 rfl ?_); refine sz (v := .bool true) (pkt (v := .bool true) rfl rfl) ?_; refine rn (qn (Wct rfl (Wseq (Wreg ?_)))); refine az (.int .i64 0) <| rn (qn (Wret (qr ?_))); obtain rfl := sj hp; refine f1 (v := .int .i64 0) R110 M110 rfl ?_; exact ⟨_, rfl, k _ hc⟩
 · replace hp := gpos hp (of_decide_eq_true hb1); (iterate 2 refine r0 rfl ?_); refine sz (v := .bool true) (pkt (v := .bool true) rfl rfl) ?_; refine mz (.bool true) ?_; (iterate 2 refine r0 rfl ?_); refine sz (v := .bool true) (pkt (v := .bool true) rfl rfl) ?_; refine rn (qn (Wct rfl (Wseq (Wreg ?_)))); refine az (.int .i64 0) <| rn (qn (Wret (qr ?_))); obtain rfl := sj hp; refine f1 (v := .int .i64 0) R110 M110 rfl ?_; exact ⟨_, rfl, k _ hc⟩

def ref06_S (x0 : Int) : Option (Int) :=
  (idx ((0 :: 804 :: 1606 :: 2404 :: 3196 :: 3981 :: 4756 :: 5520 :: 6270 :: 7005 :: 7723 :: 8423 :: 9102 :: 9760 :: 10394 :: 11003 :: 11585 :: 12140 :: 12665 :: 13160 :: 13623 :: 14053 :: 14449 :: 14811 :: 15137 :: 15426 :: 15679 :: 15893 :: 16069 :: 16207 :: 16305 :: 16364 :: 16384 :: [])) x0).bind fun y3 =>
  some y3

theorem ref06_S_any {x0 : Int} {Fr : List HP} {w : World} {r : Int} {K : Value → World → Prop}  (hc : Ctx w (Fr)) (hp : ref06_S x0 = some r)
    (k : ∀ w', Ctx w' (Fr) → K (.int .i64 r) w') : Calls Tryz.prog 129 #[.int .i64 x0] w (Ret K) := by
 unfold ref06_S at hp; refine Center1 F129 M129 rfl rfl ?_; refine Wseq (Wreg ?_); refine az (.int .i64 0) <| rn (qn (Wseq (Wreg ?_))); refine rsE (Ctx.builtOp (css := [[.int .i64 0], [.int .i64 804], [.int .i64 1606], [.int .i64 2404], [.int .i64 3196], [.int .i64 3981], [.int .i64 4756], [.int .i64 5520], [.int .i64 6270], [.int .i64 7005], [.int .i64 7723], [.int .i64 8423], [.int .i64 9102], [.int .i64 9760], [.int .i64 10394], [.int .i64 11003], [.int .i64 11585], [.int .i64 12140], [.int .i64 12665], [.int .i64 13160], [.int .i64 13623], [.int .i64 14053], [.int .i64 14449], [.int .i64 14811], [.int .i64 15137], [.int .i64 15426], [.int .i64 15679], [.int .i64 15893], [.int .i64 16069], [.int .i64 16207], [.int .i64 16305], [.int .i64 16364], [.int .i64 16384]]) (xs := ((0 :: 804 :: 1606 :: 2404 :: 3196 :: 3981 :: 4756 :: 5520 :: 6270 :: 7005 :: 7723 :: 8423 :: 9102 :: 9760 :: 10394 :: 11003 :: 11585 :: 12140 :: 12665 :: 13160 :: 13623 :: 14053 :: 14449 :: 14811 :: 15137 :: 15426 :: 15679 :: 15893 :: 16069 :: 16207 :: 16305 :: 16364 :: 16384 :: []) : List Int)) (E := (pInt .i64)) (Ctx.holdsC (f := fun x : Int => [.int .i64 x]) (fun _ _ _ => rfl) hc ((0 :: 804 :: 1606 :: 2404 :: 3196 :: 3981 :: 4756 :: 5520 :: 6270 :: 7005 :: 7723 :: 8423 :: 9102 :: 9760 :: 10394 :: 11003 :: 11585 :: 12140 :: 12665 :: 13160 :: 13623 :: 14053 :: 14449 :: 14811 :: 15137 :: 15426 :: 15679 :: 15893 :: 16069 :: 16207 :: 16305 :: 16364 :: 16384 :: []) : List Int)) U125 Z2 V2 rfl rfl rfl rfl rfl rfl rfl rfl) rfl ?_; clear hc; rintro _ w2 ⟨a1, rfl, hc⟩; refine az (.slice a1 33 33) <| rn (qn (Wseq (Wreg ?_))); refine mz (.slice a1 33 33) <| mz (.int .i64 x0) ?_; replace hp := bind_some hp; obtain ⟨y3, hy3, hp⟩ := hp; obtain ⟨b6, o7, u8, hi4, hi5⟩ := Ctx.rdAt hc (k := 0) rfl rfl reads_own hy3; subst u8; refine sz (ixx rfl rfl U125 Z2 hi4 hi5 rfl) ?_; replace hc := Ctx.rdCell hc (k := 0) rfl rfl reads_own hy3; obtain ⟨cs9, hc, hcell10⟩ := hc; replace hc := Ctx.holdC hc; obtain ⟨u11, hc⟩ := hc; subst u11; refine sz (ld rfl G2 (hcell10 0 _ rfl)) ?_; refine az (.int .i64 y3) <| rn (qn (Wret ?_)); replace hc := Ctx.r0 hc; obtain rfl := sj hp; refine f1 (v := .int .i64 y3) R129 M129 rfl ?_; exact ⟨_, rfl, k _ hc⟩

def ref06_Sin.J4 (j14 : Int) (j23 : Bool) : Option (Int) :=
  if j23 = true then
    (some (IntKind.i32.wrap (IntKind.i64.wrap (0 - j14)))).bind fun e27 =>
    some e27
  else
    some (IntKind.i32.wrap j14)

def ref06_Sin.J3 (e3 : Int) (j14 : Int) : Option (Int) :=
  if e3 = 2 then
    ref06_Sin.J4 j14 true
  else
    ref06_Sin.J4 j14 (decide (e3 = 3))

def ref06_Sin.J1 (N : Nat) (e3 : Int) (j4 : Int) : Option (Int) :=
  (some (IntKind.i64.wrap (Int.tdiv j4 512))).bind fun e11 =>
  (ref06_S e11).bind fun r12 =>
  if e11 < 32 then
    (ref06_S (IntKind.i64.wrap (e11 + 1))).bind fun r16 =>
    (ref06_S e11).bind fun r18 =>
    (ref01_Shift N (IntKind.i64.wrap ((IntKind.i64.wrap (r16 - r18)) * (Int.tmod j4 512))) 9).bind fun r20 =>
    ref06_Sin.J3 e3 (IntKind.i64.wrap (r12 + r20))
  else
    ref06_Sin.J3 e3 r12

def ref06_Sin.J2 (N : Nat) (r1 : (Int)) (e3 : Int) (j5 : Bool) : Option (Int) :=
  if j5 = true then
    (some (IntKind.i64.wrap (16384 - (Int.tmod r1 16384)))).bind fun e9 =>
    ref06_Sin.J1 N e3 e9
  else
    ref06_Sin.J1 N e3 (Int.tmod r1 16384)

def ref06_Sin (N : Nat) (x0 : Int) : Option (Int) :=
  (ref06_rest x0).bind fun r1 =>
  (some (IntKind.i64.wrap (Int.tdiv r1 16384))).bind fun e3 =>
  if e3 = 1 then
    ref06_Sin.J2 N r1 e3 true
  else
    ref06_Sin.J2 N r1 e3 (decide (e3 = 3))

theorem ref06_Sin_any {N : Nat} {x0 : Int} {Fr : List HP} {w : World} {r : Int} {K : Value → World → Prop}  (hc : Ctx w (Fr)) (hp : ref06_Sin N x0 = some r)
    (k : ∀ w', Ctx w' (Fr) → K (.int .i32 r) w') : Calls Tryz.prog 112 #[.int .i64 x0] w (Ret K) := by
 unfold ref06_Sin at hp; refine Center1 F112 M112 rfl rfl ?_; refine Wseq (Wreg ?_); refine az (.int .i32 0) <| rn (qn (Wseq (Wreg ?_))); refine mz (.int .i64 x0) ?_; obtain ⟨r1, hr1, hp⟩ := bind_some hp; refine kz C128 ?_; refine ref06_rest_any hc hr1 ?_; clear hc; intro w2 hc; refine az (.int .i64 r1) <| rn (qn (Wseq (Wreg ?_))); refine mz (.int .i64 r1) <| sz (quw rfl rfl (by decide)) ?_; replace hp := bind_some hp; obtain ⟨e3, he3, hp⟩ := hp; injection he3 with he3; refine sz (v := .int .i64 e3) (av (v := .int .i64 e3) (by rw [← he3]; rfl)) ?_; refine rn (qn (Wseq (Wreg ?_))); refine mz (.int .i64 r1) <| sz (rm rfl rfl (by decide)) ?_; refine az (.int .i64 (Int.tmod r1 16384)) <| rn (qn ?_); refine Wseqm [5, 14, 15, 16, 17, 18, 19, 20, 21] [5] (fun vs w' => ∃ j4 : Int, vs = [.int .i64 j4] ∧ ref06_Sin.J1 N e3 j4 = some r ∧ Ctx w' (Fr)) ?_ ?_
 · refine Wseqm [14, 15, 16, 17, 18, 19] [19] (fun vs w' => ∃ j5 : Bool, vs = [.bool j5] ∧ ref06_Sin.J2 N r1 e3 j5 = some r ∧ Ctx w' (Fr)) ?_ ?_
   · refine Wreg ?_; refine mz (.int .i64 e3) <| sz (eqd rfl rfl) ?_; refine mz (.bool (decide (e3 = 1))) ?_; cases hb6 : (decide (e3 = 1))
     · replace hp := gneg hp (of_decide_eq_false hb6); refine mz (.int .i64 e3) <| sz (eqd rfl rfl) ?_; refine sz (v := .bool (decide (e3 = 3))) (pkf (v := .bool (decide (e3 = 3))) rfl rfl) ?_; refine rn (qn ?_); exact ⟨⟨decide (e3 = 3), rfl, hp, hc⟩, (kl rfl kb)⟩
     · replace hp := gpos hp (of_decide_eq_true hb6); (iterate 2 refine r0 rfl ?_); refine sz (v := .bool true) (pkt (v := .bool true) rfl rfl) ?_; refine rn (qn ?_); exact ⟨⟨true, rfl, hp, hc⟩, (kl rfl kb)⟩
   · clear hp hc; intro vs u w7 hJ; obtain ⟨j5, rfl, hp, hc⟩ := hJ; unfold ref06_Sin.J2 at hp; cases hb8 : j5
     · replace hp := gneg hp (by rw [hb8]; exact Bool.false_ne_true); subst hb8; refine Wcf rfl (Wskip (qn ?_)); exact ⟨⟨(Int.tmod r1 16384), rfl, hp, hc⟩, (kl rfl (km rfl (kl rfl kb)))⟩
     · replace hp := gpos hp hb8; subst hb8; refine Wct rfl (Wreg ?_); refine mz (.int .i64 (Int.tmod r1 16384)) <| sz (sbw rfl rfl) ?_; replace hp := bind_some hp; obtain ⟨e9, he9, hp⟩ := hp; injection he9 with he9; refine sz (v := .int .i64 e9) (av (v := .int .i64 e9) (by rw [← he9]; rfl)) ?_; refine rn (qn ?_); exact ⟨⟨e9, rfl, hp, hc⟩, (kl rfl (km rfl (kl rfl kb)))⟩
 · clear hp hc; intro vs u w10 hJ; obtain ⟨j4, rfl, hp, hc⟩ := hJ; unfold ref06_Sin.J1 at hp; refine Wseq (Wreg ?_); refine mz (.int .i64 j4) <| sz (quw rfl rfl (by decide)) ?_; replace hp := bind_some hp; obtain ⟨e11, he11, hp⟩ := hp; injection he11 with he11; refine sz (v := .int .i64 e11) (av (v := .int .i64 e11) (by rw [← he11]; rfl)) ?_; refine rn (qn (Wseq (Wreg ?_))); refine mz (.int .i64 e11) ?_; obtain ⟨r12, hr12, hp⟩ := bind_some hp; refine kz C129 ?_; refine ref06_S_any hc hr12 ?_; clear hc; intro w13 hc; refine az (.int .i64 r12) <| rn (qn ?_); refine Wseqm [7, 26, 27, 28, 29, 30, 31, 32, 33, 34, 35, 36, 37, 38, 39] [7] (fun vs w' => ∃ j14 : Int, vs = [.int .i64 j14] ∧ ref06_Sin.J3 e3 j14 = some r ∧ Ctx w' (Fr)) ?_ ?_
   · refine Wseq (Wreg ?_); refine mz (.int .i64 e11) <| sz (lt' rfl rfl) ?_; refine rn (qn ?_); cases hb15 : (decide (e11 < 32))
     · replace hp := gneg hp (of_decide_eq_false hb15); refine Wcf rfl (Wskip (qn ?_)); exact ⟨⟨r12, rfl, hp, hc⟩, (kl rfl kb)⟩
     · replace hp := gpos hp (of_decide_eq_true hb15); refine Wct rfl (Wreg ?_); refine mz (.int .i64 r12) <| mz (.int .i64 e11) <| sz (adw rfl rfl) ?_; obtain ⟨r16, hr16, hp⟩ := bind_some hp; refine kz C129 ?_; refine ref06_S_any hc hr16 ?_; clear hc; intro w17 hc; refine mz (.int .i64 e11) ?_; obtain ⟨r18, hr18, hp⟩ := bind_some hp; refine kz C129 ?_; refine ref06_S_any hc hr18 ?_; clear hc; intro w19 hc; refine sz (sbw rfl rfl) ?_; refine mz (.int .i64 j4) <| sz (rm rfl rfl (by decide)) ?_; refine sz (mlw rfl rfl) ?_; obtain ⟨r20, hr20, hp⟩ := bind_some hp; refine kz C53 ?_; refine ref01_Shift_any hc hr20 ?_; clear hc; intro w21 hc; refine sz (adw rfl rfl) ?_; refine az (.int .i64 (IntKind.i64.wrap (r12 + r20))) <| rn (qn ?_); exact ⟨⟨(IntKind.i64.wrap (r12 + r20)), rfl, hp, hc⟩, (kl rfl kb)⟩
   · clear hp hc; intro vs u w22 hJ; obtain ⟨j14, rfl, hp, hc⟩ := hJ; unfold ref06_Sin.J3 at hp; refine Wseq ?_; refine Wseqm [40, 41, 42, 43, 44, 45] [45] (fun vs w' => ∃ j23 : Bool, vs = [.bool j23] ∧ ref06_Sin.J4 j14 j23 = some r ∧ Ctx w' (Fr)) ?_ ?_
     · refine Wreg ?_; refine mz (.int .i64 e3) <| sz (eqd rfl rfl) ?_; refine mz (.bool (decide (e3 = 2))) ?_; cases hb24 : (decide (e3 = 2))
       · replace hp := gneg hp (of_decide_eq_false hb24); refine mz (.int .i64 e3) <| sz (eqd rfl rfl) ?_; refine sz (v := .bool (decide (e3 = 3))) (pkf (v := .bool (decide (e3 = 3))) rfl rfl) ?_; refine rn (qn ?_); exact ⟨⟨decide (e3 = 3), rfl, hp, hc⟩, (kl rfl kb)⟩
       · replace hp := gpos hp (of_decide_eq_true hb24); (iterate 2 refine r0 rfl ?_); refine sz (v := .bool true) (pkt (v := .bool true) rfl rfl) ?_; refine rn (qn ?_); exact ⟨⟨true, rfl, hp, hc⟩, (kl rfl kb)⟩
     · clear hp hc; intro vs u w25 hJ; obtain ⟨j23, rfl, hp, hc⟩ := hJ; unfold ref06_Sin.J4 at hp; cases hb26 : j23
       · replace hp := gneg hp (by rw [hb26]; exact Bool.false_ne_true); subst hb26; refine Wcf rfl (Wskip (qn (Wseq (Wreg ?_)))); refine mz (.int .i64 j14) <| sz (cvi rfl U2 U21) ?_; refine az (.int .i32 (IntKind.i32.wrap j14)) <| rn (qn (Wret ?_)); obtain rfl := sj hp; refine f1 (v := .int .i32 (IntKind.i32.wrap j14)) R112 M112 rfl ?_; exact ⟨_, rfl, k _ hc⟩
       · replace hp := gpos hp hb26; subst hb26; refine Wct rfl (Wreg ?_); refine mz (.int .i64 j14) <| sz (neg_ rfl) ?_; refine az (.int .i64 (IntKind.i64.wrap (0 - j14))) <| rn (qn (Wseq (Wreg ?_))); refine mz (.int .i64 (IntKind.i64.wrap (0 - j14))) <| sz (cvi rfl U2 U21) ?_; replace hp := bind_some hp; obtain ⟨e27, he27, hp⟩ := hp; injection he27 with he27; refine sz (v := .int .i32 e27) (av (v := .int .i32 e27) (by rw [← he27]; rfl)) ?_; refine rn (qn (Wret ?_)); obtain rfl := sj hp; refine f1 (v := .int .i32 e27) R112 M112 rfl ?_; exact ⟨_, rfl, k _ hc⟩

def ref06_Cos (N : Nat) (x0 : Int) : Option (Int) :=
  (ref06_rest x0).bind fun r1 =>
  (ref06_Sin N (IntKind.i64.wrap (r1 + 16384))).bind fun r3 =>
  some r3

theorem ref06_Cos_any {N : Nat} {x0 : Int} {Fr : List HP} {w : World} {r : Int} {K : Value → World → Prop}  (hc : Ctx w (Fr)) (hp : ref06_Cos N x0 = some r)
    (k : ∀ w', Ctx w' (Fr) → K (.int .i32 r) w') : Calls Tryz.prog 111 #[.int .i64 x0] w (Ret K) := by
 unfold ref06_Cos at hp; refine Center1 F111 M111 rfl rfl ?_; refine Wseq (Wreg ?_); refine az (.int .i32 0) <| rn (qn (Wseq (Wreg ?_))); refine mz (.int .i64 x0) ?_; obtain ⟨r1, hr1, hp⟩ := bind_some hp; refine kz C128 ?_; refine ref06_rest_any hc hr1 ?_; clear hc; intro w2 hc; refine sz (adw rfl rfl) ?_; obtain ⟨r3, hr3, hp⟩ := bind_some hp; refine kz C112 ?_; refine ref06_Sin_any hc hr3 ?_; clear hc; intro w4 hc; refine az (.int .i32 r3) <| rn (qn (Wret ?_)); obtain rfl := sj hp; refine f1 (v := .int .i32 r3) R111 M111 rfl ?_; exact ⟨_, rfl, k _ hc⟩

def ref06_Turn.L1 (N : Nat) (x0 : Int) (x1 : (List Int)) : Nat → (List Int) → Int → Option ((List Int))
  | 0, _, _ => none
  | m1 + 1, j1, j5 =>
    if (IntKind.i64.wrap (j5 + 1)) < ((x1.length : Nat) : Int) then
      (ref06_Angle N x0 (IntKind.i64.wrap (Int.tdiv j5 2))).bind fun r9 =>
      (ref06_Cos N r9).bind fun r11 =>
      (ref06_Sin N r9).bind fun r13 =>
      (idx x1 j5).bind fun y15 =>
      (idx x1 (IntKind.i64.wrap (j5 + 1))).bind fun y24 =>
      (ref01_Shift N (IntKind.i64.wrap ((IntKind.i64.wrap ((IntKind.i64.wrap y15) * (IntKind.i64.wrap r11))) - (IntKind.i64.wrap ((IntKind.i64.wrap y24) * (IntKind.i64.wrap r13))))) 14).bind fun r33 =>
      (ref01_Near r33 (-128) 127).bind fun r35 =>
      (app j1 ([(IntKind.i8.wrap r35)])).bind fun z39 =>
      (ref01_Shift N (IntKind.i64.wrap ((IntKind.i64.wrap ((IntKind.i64.wrap y15) * (IntKind.i64.wrap r13))) + (IntKind.i64.wrap ((IntKind.i64.wrap y24) * (IntKind.i64.wrap r11))))) 14).bind fun r45 =>
      (ref01_Near r45 (-128) 127).bind fun r47 =>
      (app z39 ([(IntKind.i8.wrap r47)])).bind fun z51 =>
      (ref06_Turn.L1 N x0 x1 m1) z51 (IntKind.i64.wrap (j5 + 2))
    else
      some j1

def ref06_Turn (N : Nat) (x0 : Int) (x1 : (List Int)) : Option ((List Int)) :=
  ref06_Turn.L1 N x0 x1 N ([]) 0

theorem ref06_Turn_any {N : Nat} {x0 : Int} {x1 : (List Int)} {ax1 : Option Addr} {nx1 : Nat} {qx1 : Nat} {P1 : HP} {Fr : List HP} {w : World} {r : (List Int)} {K : Value → World → Prop} (hrd1 : Reads P1 (pInt .i8) (.slice ax1 nx1 qx1) x1) (hc : Ctx w (P1 :: Fr)) (hp : ref06_Turn N x0 x1 = some r)
    (k : ∀ (a57 : Option Addr) (n58 : Nat) (q59 : Nat) w', Ctx w' (Own (pInt .i8) 88 (.slice a57 n58 q59) r :: P1 :: Fr) → K (.slice a57 n58 q59) w') : Calls Tryz.prog 83 #[.int .i64 x0, .slice ax1 nx1 qx1] w (Ret K) := by
 unfold ref06_Turn at hp; refine Center2 F83 M83 rfl rfl ?_; obtain ⟨hn1, _⟩ := Ctx.rdLen hc (k := 0) rfl rfl hrd1; subst hn1; refine Wseq (Wreg ?_); refine az (.slice none 0 0) <| rn (qn (Wseq (Wreg ?_))); refine az (.slice none 0 0) <| rn (qn (Wseq (Wseq (Wreg ?_)))); refine az (.int .i64 0) <| rn (qn (Wblk ?_)); replace hc := hc.nilOwn (pInt .i8) 88; replace hc := Ctx.p1 hc; refine Wloop (5 :: 6 :: 7 :: 8 :: 9 :: 10 :: 11 :: 12 :: 13 :: 14 :: 15 :: 16 :: 17 :: 18 :: 19 :: 20 :: 21 :: 22 :: 23 :: 24 :: 25 :: 26 :: 27 :: 28 :: 29 :: 30 :: 31 :: 32 :: 33 :: 34 :: 35 :: 36 :: 37 :: 38 :: 39 :: 40 :: 41 :: 42 :: 43 :: 44 :: 45 :: 46 :: 47 :: 48 :: 49 :: 50 :: 51 :: 52 :: 53 :: 54 :: 55 :: 56 :: 57 :: 58 :: 59 :: 60 :: 61 :: 62 :: 63 :: 64 :: 65 :: []) [5, 6] (fun m vs w' => ∃ j1 : (List Int), ∃ j5 : Int, ∃ a2 : Option Addr, ∃ n3 : Nat, ∃ q4 : Nat, vs = [.slice a2 n3 q4, .int .i64 j5] ∧ ref06_Turn.L1 N x0 x1 m j1 j5 = some r ∧ Ctx w' (P1 :: Own (pInt .i8) 88 (.slice a2 n3 q4) j1 :: Fr)) N ?_ ?_
 · exact ⟨[], 0, none, 0, 0, rfl, hp, hc⟩
 · clear hp hc; intro m vs u w6 hJ; obtain ⟨j1, j5, a2, n3, q4, rfl, hp, hc⟩ := hJ; obtain rfl := hc.rz 1 reads_own; rcases m with _ | m1
   · cases (show none = some r from hp)
   rw [ref06_Turn.L1] at hp; refine Wseq (Wseq (Wreg ?_)); refine mz (.int .i64 j5) <| sz (adw rfl rfl) ?_; refine mz (.slice ax1 x1.length qx1) <| sz (ln rfl U30) ?_; refine sz (lt' rfl rfl) ?_; refine rn (qn ?_); cases hb8 : (decide ((IntKind.i64.wrap (j5 + 1)) < ((x1.length : Nat) : Int)))
   · replace hp := gneg hp (of_decide_eq_false hb8); refine Wcf rfl (Wexit (qx (qx (be (qn (Wseq (Wreg ?_))))))); refine mz (.slice a2 j1.length q4) <| az (.slice a2 j1.length q4) <| rn (qn (Wret ?_)); replace hc := Ctx.p1 hc; obtain rfl := sj hp; refine f1 (v := .slice a2 j1.length q4) R83 M83 rfl ?_; exact ⟨_, rfl, k _ _ _ _ hc⟩
   · replace hp := gpos hp (of_decide_eq_true hb8); refine Wct rfl (Wskip (qn (Wseq (Wblk (Wseq (Wreg ?_)))))); refine mz (.int .i64 x0) <| mz (.int .i64 j5) <| sz (quw rfl rfl (by decide)) ?_; obtain ⟨r9, hr9, hp⟩ := bind_some hp; refine kz C110 ?_; refine ref06_Angle_any hc hr9 ?_; clear hc; intro w10 hc; refine az (.int .i64 r9) <| rn (qn (Wseq (Wreg ?_))); refine mz (.int .i64 r9) ?_; obtain ⟨r11, hr11, hp⟩ := bind_some hp; refine kz C111 ?_; refine ref06_Cos_any hc hr11 ?_; clear hc; intro w12 hc; refine sz (cvi rfl U21 U2) ?_; refine az (.int .i64 (IntKind.i64.wrap r11)) <| rn (qn (Wseq (Wreg ?_))); refine mz (.int .i64 r9) ?_; obtain ⟨r13, hr13, hp⟩ := bind_some hp; refine kz C112 ?_; refine ref06_Sin_any hc hr13 ?_; clear hc; intro w14 hc; refine sz (cvi rfl U21 U2) ?_; refine az (.int .i64 (IntKind.i64.wrap r13)) <| rn (qn (Wseq (Wreg ?_))); refine mz (.slice ax1 x1.length qx1) <| mz (.int .i64 j5) ?_; replace hp := bind_some hp; obtain ⟨y15, hy15, hp⟩ := hp; obtain ⟨b18, o19, u20, hi16, hi17⟩ := Ctx.rdAt hc (k := 0) rfl rfl hrd1 hy15; subst u20; refine sz (ixx rfl rfl U30 Z88 hi16 hi17 rfl) ?_; replace hc := Ctx.rdCell hc (k := 0) rfl rfl hrd1 hy15; obtain ⟨cs21, hc, hcell22⟩ := hc; replace hc := Ctx.holdC hc; obtain ⟨u23, hc⟩ := hc; subst u23; refine sz (ld rfl G88 (hcell22 0 _ rfl)) ?_; refine sz (cvi rfl U88 U2) ?_; refine az (.int .i64 (IntKind.i64.wrap y15)) <| rn (qn (Wseq (Wreg ?_))); refine mz (.slice (some ⟨b18, o19, none⟩) x1.length qx1) <| mz (.int .i64 j5) <| sz (adw rfl rfl) ?_; replace hp := bind_some hp; obtain ⟨y24, hy24, hp⟩ := hp; obtain ⟨b27, o28, u29, hi25, hi26⟩ := Ctx.rdAt hc (k := 0) rfl rfl hrd1 hy24; clear u29; refine sz (ixx rfl rfl U30 Z88 hi25 hi26 rfl) ?_; replace hc := Ctx.rdCell hc (k := 0) rfl rfl hrd1 hy24; obtain ⟨cs30, hc, hcell31⟩ := hc; replace hc := Ctx.holdC hc; obtain ⟨u32, hc⟩ := hc; subst u32; refine sz (ld rfl G88 (hcell31 0 _ rfl)) ?_; refine sz (cvi rfl U88 U2) ?_; refine az (.int .i64 (IntKind.i64.wrap y24)) <| rn (qn (Wseq (Wreg ?_))); refine mz (.slice a2 j1.length q4) <| mz (.int .i64 (IntKind.i64.wrap y15)) <| mz (.int .i64 (IntKind.i64.wrap r11)) <| sz (mlw rfl rfl) <| mz (.int .i64 (IntKind.i64.wrap y24)) <| mz (.int .i64 (IntKind.i64.wrap r13)) <| sz (mlw rfl rfl) <| sz (sbw rfl rfl) ?_; obtain ⟨r33, hr33, hp⟩ := bind_some hp; refine kz C53 ?_; refine ref01_Shift_any hc hr33 ?_; clear hc; intro w34 hc; obtain ⟨r35, hr35, hp⟩ := bind_some hp; refine kz C51 ?_; refine ref01_Near_any hc hr35 ?_; clear hc; intro w36 hc; refine sz (cvi rfl U2 U88) ?_; refine rsE (Ctx.builtOp (css := [[.int .i8 (IntKind.i8.wrap r35)]]) (xs := ([(IntKind.i8.wrap r35)] : List Int)) (E := (pInt .i8)) (Ctx.holdsC (f := fun x : Int => [.int .i8 x]) (fun _ _ _ => rfl) hc ([(IntKind.i8.wrap r35)] : List Int)) U30 Z88 V88 rfl rfl rfl rfl rfl rfl rfl rfl) rfl ?_; clear hc; rintro _ w38 ⟨a37, rfl, hc⟩; replace hp := bind_some hp; obtain ⟨z39, hz39, hp⟩ := hp; obtain ⟨hg40, e41⟩ := app_some hz39; refine rsE (Ctx.append hc (k := 2) rfl rfl (k2 := 0) rfl rfl reads_own U30 (i := Tryz.t88) rfl rfl rfl rfl rfl rfl rfl rfl hg40) rfl ?_; clear hc; rintro _ w44 ⟨a42, q43, rfl, hc⟩; rw [← e41] at hc ⊢; replace hc := Ctx.n2 hc; refine az (.slice a42 z39.length q43) <| rn (qn (Wreg ?_)); refine mz (.slice a42 z39.length q43) <| mz (.int .i64 (IntKind.i64.wrap y15)) <| mz (.int .i64 (IntKind.i64.wrap r13)) <| sz (mlw rfl rfl) <| mz (.int .i64 (IntKind.i64.wrap y24)) <| mz (.int .i64 (IntKind.i64.wrap r11)) <| sz (mlw rfl rfl) <| sz (adw rfl rfl) ?_; obtain ⟨r45, hr45, hp⟩ := bind_some hp; refine kz C53 ?_; refine ref01_Shift_any hc hr45 ?_; clear hc; intro w46 hc; obtain ⟨r47, hr47, hp⟩ := bind_some hp; refine kz C51 ?_; refine ref01_Near_any hc hr47 ?_; clear hc; intro w48 hc; refine sz (cvi rfl U2 U88) ?_; refine rsE (Ctx.builtOp (css := [[.int .i8 (IntKind.i8.wrap r47)]]) (xs := ([(IntKind.i8.wrap r47)] : List Int)) (E := (pInt .i8)) (Ctx.holdsC (f := fun x : Int => [.int .i8 x]) (fun _ _ _ => rfl) hc ([(IntKind.i8.wrap r47)] : List Int)) U30 Z88 V88 rfl rfl rfl rfl rfl rfl rfl rfl) rfl ?_; clear hc; rintro _ w50 ⟨a49, rfl, hc⟩; replace hp := bind_some hp; obtain ⟨z51, hz51, hp⟩ := hp; obtain ⟨hg52, e53⟩ := app_some hz51; refine rsE (Ctx.append hc (k := 3) rfl rfl (k2 := 0) rfl rfl reads_own U30 (i := Tryz.t88) rfl rfl rfl rfl rfl rfl rfl rfl hg52) rfl ?_; clear hc; rintro _ w56 ⟨a54, q55, rfl, hc⟩; rw [← e53] at hc ⊢; replace hc := Ctx.n3 hc; refine az (.slice a54 z51.length q55) <| rn (bn (qn (Wreg ?_))); refine mz (.int .i64 j5) <| sz (adw rfl rfl) ?_; refine az (.int .i64 (IntKind.i64.wrap (j5 + 2))) <| rn (qn ?_); replace hc := Ctx.r0 (Ctx.r1 hc); exact ⟨m1, Nat.lt_succ_self _, ⟨z51, (IntKind.i64.wrap (j5 + 2)), a54, z51.length, q55, rfl, hp, hc⟩, (kl rfl k0)⟩

def ref08_turned.L1 (N : Nat) (x0 : Int) (x1 : Int) (x2 : (List Int)) : Nat → (List Int) → Int → Option ((List Int))
  | 0, _, _ => none
  | m1 + 1, j1, j5 =>
    if j5 < ((x2.length : Nat) : Int) then
      chk (0 ≤ j5 ∧ j5 ≤ (IntKind.i64.wrap (j5 + x1)) ∧ (IntKind.i64.wrap (j5 + x1)) ≤ ((x2.length : Nat) : Int)) <|
      (ref06_Turn N x0 ((x2.take ((IntKind.i64.wrap (j5 + x1))).toNat).drop (j5).toNat)).bind fun r15 =>
      (app j1 r15).bind fun z21 =>
      (ref08_turned.L1 N x0 x1 x2 m1) z21 (IntKind.i64.wrap (j5 + x1))
    else
      some j1

def ref08_turned (N : Nat) (x0 : Int) (x1 : Int) (x2 : (List Int)) : Option ((List Int)) :=
  ref08_turned.L1 N x0 x1 x2 N ([]) 0

theorem ref08_turned_any {N : Nat} {x0 : Int} {x1 : Int} {x2 : (List Int)} {ax2 : Option Addr} {nx2 : Nat} {qx2 : Nat} {P2 : HP} {Fr : List HP} {w : World} {r : (List Int)} {K : Value → World → Prop} (hrd2 : Reads P2 (pInt .i8) (.slice ax2 nx2 qx2) x2) (hc : Ctx w (P2 :: Fr)) (hp : ref08_turned N x0 x1 x2 = some r)
    (k : ∀ (a27 : Option Addr) (n28 : Nat) (q29 : Nat) w', Ctx w' (Own (pInt .i8) 88 (.slice a27 n28 q29) r :: P2 :: Fr) → K (.slice a27 n28 q29) w') : Calls Tryz.prog 55 #[.int .i64 x0, .int .i64 x1, .slice ax2 nx2 qx2] w (Ret K) := by
 unfold ref08_turned at hp; refine Center3 F55 M55 rfl rfl ?_; obtain ⟨hn2, _⟩ := Ctx.rdLen hc (k := 0) rfl rfl hrd2; subst hn2; refine Wseq (Wreg ?_); refine az (.slice none 0 0) <| rn (qn (Wseq (Wreg ?_))); refine az (.slice none 0 0) <| rn (qn (Wseq (Wseq (Wreg ?_)))); refine az (.int .i64 0) <| rn (qn (Wblk ?_)); replace hc := hc.nilOwn (pInt .i8) 88; replace hc := Ctx.p1 hc; refine Wloop [7, 8, 9, 10, 11, 12, 13, 14, 15, 16, 17, 18, 19, 20, 21, 22, 23, 24, 25] [7, 8] (fun m vs w' => ∃ j1 : (List Int), ∃ j5 : Int, ∃ a2 : Option Addr, ∃ n3 : Nat, ∃ q4 : Nat, vs = [.slice a2 n3 q4, .int .i64 j5] ∧ ref08_turned.L1 N x0 x1 x2 m j1 j5 = some r ∧ Ctx w' (P2 :: Own (pInt .i8) 88 (.slice a2 n3 q4) j1 :: Fr)) N ?_ ?_
 · exact ⟨[], 0, none, 0, 0, rfl, hp, hc⟩
 · clear hp hc; intro m vs u w6 hJ; obtain ⟨j1, j5, a2, n3, q4, rfl, hp, hc⟩ := hJ; obtain rfl := hc.rz 1 reads_own; rcases m with _ | m1
   · cases (show none = some r from hp)
   rw [ref08_turned.L1] at hp; refine Wseq (Wseq (Wreg ?_)); refine mz (.int .i64 j5) <| mz (.slice ax2 x2.length qx2) <| sz (ln rfl U30) <| sz (lt' rfl rfl) <| rn (qn ?_); cases hb8 : (decide (j5 < ((x2.length : Nat) : Int)))
   · replace hp := gneg hp (of_decide_eq_false hb8); refine Wcf rfl (Wexit (qx (qx (be (qn (Wseq (Wreg ?_))))))); refine mz (.slice a2 j1.length q4) <| az (.slice a2 j1.length q4) <| rn (qn (Wret ?_)); replace hc := Ctx.p1 hc; obtain rfl := sj hp; refine f1 (v := .slice a2 j1.length q4) R55 M55 rfl ?_; exact ⟨_, rfl, k _ _ _ _ hc⟩
   · replace hp := gpos hp (of_decide_eq_true hb8); refine Wct rfl (Wskip (qn (Wseq (Wblk (Wreg ?_))))); refine mz (.slice a2 j1.length q4) <| mz (.int .i64 x0) <| mz (.slice ax2 x2.length qx2) <| mz (.int .i64 j5) <| mz (.int .i64 j5) <| mz (.int .i64 x1) <| sz (adw rfl rfl) ?_; replace hp := chk_some hp; obtain ⟨hg9, hp⟩ := hp; refine rsE (Ctx.subOp (li := some j5) (hi' := some (IntKind.i64.wrap (j5 + x1))) hc (k := 0) rfl rfl hrd2 rfl ⟨_, rfl⟩ ⟨_, rfl⟩ U30 Z88 hg9) rfl ?_; rintro _ _ ⟨rfl, a10, q11, rfl, rd12, ea13, eq14⟩; replace rd12 : Reads (P2) (pInt .i8) (.slice a10 (((IntKind.i64.wrap (j5 + x1))).toNat - (j5).toNat) q11) ((x2.take ((IntKind.i64.wrap (j5 + x1))).toNat).drop (j5).toNat) := rd12; obtain ⟨r15, hr15, hp⟩ := bind_some hp; refine kz C83 ?_; refine ref06_Turn_any rd12 hc hr15 ?_; clear hc; intro a16 n17 q18 w19 hc; obtain rfl := hc.rz 0 reads_own; replace hp := bind_some hp; obtain ⟨z21, hz21, hp⟩ := hp; obtain ⟨hg22, e23⟩ := app_some hz21; refine rsE (Ctx.append hc (k := 2) rfl rfl (k2 := 0) rfl rfl reads_own U30 (i := Tryz.t88) rfl rfl rfl rfl rfl rfl rfl rfl hg22) rfl ?_; clear hc; rintro _ w26 ⟨a24, q25, rfl, hc⟩; rw [← e23] at hc ⊢; replace hc := Ctx.n2 hc; refine az (.slice a24 z21.length q25) <| rn (bn (qn (Wreg ?_))); refine mz (.int .i64 j5) <| mz (.int .i64 x1) <| sz (adw rfl rfl) <| az (.int .i64 (IntKind.i64.wrap (j5 + x1))) <| rn (qn ?_); replace hc := Ctx.r0 hc; exact ⟨m1, Nat.lt_succ_self _, ⟨z21, (IntKind.i64.wrap (j5 + x1)), a24, z21.length, q25, rfl, hp, hc⟩, (kl rfl k0)⟩

def ref01_Dot.J2 (N : Nat) (x0 : (List Int)) (x1 : (List Int)) (j1 : (List Int)) (j5 : Int) (k1 : (List Int) → Int → Option (Int)) (j8 : Bool) : Option (Int) :=
  if j8 = true then
    (idx x0 j5).bind fun y15 =>
    (idx x1 j5).bind fun y24 =>
    (app j1 ([(IntKind.i64.wrap ((IntKind.i64.wrap y15) * (IntKind.i64.wrap y24)))])).bind fun z35 =>
    k1 z35 (IntKind.i64.wrap (j5 + 1))
  else
    (ref01_Wrap N j1).bind fun r12 =>
    some r12

def ref01_Dot.L1 (N : Nat) (x0 : (List Int)) (x1 : (List Int)) : Nat → (List Int) → Int → Option (Int)
  | 0, _, _ => none
  | m1 + 1, j1, j5 =>
    if j5 < ((x0.length : Nat) : Int) then
      ref01_Dot.J2 N x0 x1 j1 j5 (ref01_Dot.L1 N x0 x1 m1) (decide (j5 < ((x1.length : Nat) : Int)))
    else
      ref01_Dot.J2 N x0 x1 j1 j5 (ref01_Dot.L1 N x0 x1 m1) false

def ref01_Dot (N : Nat) (x0 : (List Int)) (x1 : (List Int)) : Option (Int) :=
  ref01_Dot.L1 N x0 x1 N ([]) 0

theorem ref01_Dot_any {N : Nat} {x0 : (List Int)} {ax0 : Option Addr} {nx0 : Nat} {qx0 : Nat} {P0 : HP} {x1 : (List Int)} {ax1 : Option Addr} {nx1 : Nat} {qx1 : Nat} {P1 : HP} {Fr : List HP} {w : World} {r : Int} {K : Value → World → Prop} (hrd0 : Reads P0 (pInt .i8) (.slice ax0 nx0 qx0) x0) (hrd1 : Reads P1 (pInt .i8) (.slice ax1 nx1 qx1) x1) (hc : Ctx w (P0 :: P1 :: Fr)) (hp : ref01_Dot N x0 x1 = some r)
    (k : ∀ w', Ctx w' (P0 :: P1 :: Fr) → K (.int .i32 r) w') : Calls Tryz.prog 45 #[.slice ax0 nx0 qx0, .slice ax1 nx1 qx1] w (Ret K) := by
 unfold ref01_Dot at hp; refine Center2 F45 M45 rfl rfl ?_; obtain ⟨hn0, _⟩ := Ctx.rdLen hc (k := 0) rfl rfl hrd0; subst hn0; obtain ⟨hn1, _⟩ := Ctx.rdLen hc (k := 1) rfl rfl hrd1; subst hn1; refine Wseq (Wreg ?_); refine az (.int .i32 0) <| rn (qn (Wseq (Wreg ?_))); refine az (.slice none 0 0) <| rn (qn (Wseq (Wseq (Wreg ?_)))); refine az (.int .i64 0) <| rn (qn (Wblk ?_)); replace hc := hc.nilOwn (pInt .i64) 2; replace hc := Ctx.p2 (Ctx.p2 hc); refine Wloop [5, 6, 7, 8, 9, 10, 11, 12, 13, 14, 15, 16, 17, 18, 19, 20, 21, 22, 23, 24, 25, 26, 27, 28, 29, 30, 31, 32] [5, 6] (fun m vs w' => ∃ j1 : (List Int), ∃ j5 : Int, ∃ a2 : Option Addr, ∃ n3 : Nat, ∃ q4 : Nat, vs = [.slice a2 n3 q4, .int .i64 j5] ∧ ref01_Dot.L1 N x0 x1 m j1 j5 = some r ∧ Ctx w' (P0 :: P1 :: Own (pInt .i64) 2 (.slice a2 n3 q4) j1 :: Fr)) N ?_ ?_
 · exact ⟨[], 0, none, 0, 0, rfl, hp, hc⟩
 · clear hp hc; intro m vs u w6 hJ; obtain ⟨j1, j5, a2, n3, q4, rfl, hp, hc⟩ := hJ; obtain rfl := hc.rz 2 reads_own; rcases m with _ | m1
   · cases (show none = some r from hp)
   rw [ref01_Dot.L1] at hp; refine Wseq ?_; refine Wseqm [7, 8, 9, 10, 11, 12, 13, 14, 15, 16] [16] (fun vs w' => ∃ j8 : Bool, vs = [.bool j8] ∧ ref01_Dot.J2 N x0 x1 j1 j5 (ref01_Dot.L1 N x0 x1 m1) j8 = some r ∧ Ctx w' (P0 :: P1 :: oR .i64 2 a2 q4 j1 :: Fr)) ?_ ?_
   · refine Wreg ?_; refine mz (.int .i64 j5) <| mz (.slice ax0 x0.length qx0) <| sz (ln rfl U30) <| sz (lt' rfl rfl) <| mz (.bool (decide (j5 < ((x0.length : Nat) : Int)))) ?_; cases hb9 : (decide (j5 < ((x0.length : Nat) : Int)))
     · replace hp := gneg hp (of_decide_eq_false hb9); (iterate 4 refine r0 rfl ?_); refine sz (v := .bool false) (pkf (v := .bool false) rfl rfl) ?_; refine rn (qn ?_); exact ⟨⟨false, rfl, hp, hc⟩, (kl rfl kb)⟩
     · replace hp := gpos hp (of_decide_eq_true hb9); refine mz (.int .i64 j5) <| mz (.slice ax1 x1.length qx1) <| sz (ln rfl U30) <| sz (lt' rfl rfl) <| sz (v := .bool (decide (j5 < ((x1.length : Nat) : Int)))) (pkt (v := .bool (decide (j5 < ((x1.length : Nat) : Int)))) rfl rfl) <| rn (qn ?_); exact ⟨⟨decide (j5 < ((x1.length : Nat) : Int)), rfl, hp, hc⟩, (kl rfl kb)⟩
   · clear hp hc; intro vs u w10 hJ; obtain ⟨j8, rfl, hp, hc⟩ := hJ; unfold ref01_Dot.J2 at hp; cases hb11 : j8
     · replace hp := gneg hp (by rw [hb11]; exact Bool.false_ne_true); subst hb11; refine Wcf rfl (Wexit (qx (qx (be (qn (Wseq (Wreg ?_))))))); refine mz (.slice a2 j1.length q4) ?_; obtain ⟨r12, hr12, hp⟩ := bind_some hp; replace hc := Ctx.p2 hc; refine kz C50 ?_; refine ref01_Wrap_any reads_own hc hr12 ?_; clear hc; intro w13 hc; refine az (.int .i32 r12) <| rn (qn (Wret ?_)); replace hc := Ctx.r0 hc; obtain rfl := sj hp; refine f1 (v := .int .i32 r12) R45 M45 rfl ?_; exact ⟨_, rfl, k _ hc⟩
     · replace hp := gpos hp hb11; subst hb11; refine Wct rfl (Wskip (qn (Wseq (Wblk ?_)))); replace hc := hc.drew; refine Wdrw (fun j w' => True) [0, 0, 0, 6, 14, 30, 0, 0, 192, 448, 960, 2046, 4094, 8191, 16383] 0 528 rfl (by kernel_rfl) (fun _ _ => trivial) ?_; generalize hw : World.drew w10 = w14 at *; clear hw; refine dM (.slice a2 j1.length q4) rfl rfl rfl ?_; refine dM (.slice ax0 x0.length qx0) rfl rfl rfl ?_; refine dM (.int .i64 j5) rfl rfl rfl ?_; replace hp := bind_some hp; obtain ⟨y15, hy15, hp⟩ := hp; obtain ⟨b18, o19, u20, hi16, hi17⟩ := Ctx.rdAt hc (k := 0) rfl rfl hrd0 hy15; subst u20; refine ds rfl (fun w' hF => ixx rfl rfl U30 Z88 hi16 hi17 rfl) rfl ?_; replace hc := Ctx.rdCell hc (k := 0) rfl rfl hrd0 hy15; obtain ⟨cs21, hc, hcell22⟩ := hc; replace hc := Ctx.holdC hc; obtain ⟨u23, hc⟩ := hc; subst u23; refine dx rfl (ld rfl G88 (hcell22 0 _ rfl)) rfl rfl ?_; refine ds rfl (fun w' hF => cvi rfl U88 U2) rfl ?_; refine dM (.slice ax1 x1.length qx1) rfl rfl rfl ?_; refine dM (.int .i64 j5) rfl rfl rfl ?_; replace hp := bind_some hp; obtain ⟨y24, hy24, hp⟩ := hp; obtain ⟨b27, o28, u29, hi25, hi26⟩ := Ctx.rdAt hc (k := 1) rfl rfl hrd1 hy24; subst u29; refine ds rfl (fun w' hF => ixx rfl rfl U30 Z88 hi25 hi26 rfl) rfl ?_; replace hc := Ctx.rdCell hc (k := 1) rfl rfl hrd1 hy24; obtain ⟨cs30, hc, hcell31⟩ := hc; replace hc := Ctx.holdC hc; obtain ⟨u32, hc⟩ := hc; subst u32; refine dx rfl (ld rfl G88 (hcell31 0 _ rfl)) rfl rfl ?_; refine ds rfl (fun w' hF => cvi rfl U88 U2) rfl ?_; refine ds rfl (fun w' hF => mlw rfl rfl) rfl ?_; refine deE (Ctx.builtOp (css := [[.int .i64 (IntKind.i64.wrap ((IntKind.i64.wrap y15) * (IntKind.i64.wrap y24)))]]) (xs := ([(IntKind.i64.wrap ((IntKind.i64.wrap y15) * (IntKind.i64.wrap y24)))] : List Int)) (E := (pInt .i64)) (Ctx.holdsC (f := fun x : Int => [.int .i64 x]) (fun _ _ _ => rfl) hc ([(IntKind.i64.wrap ((IntKind.i64.wrap y15) * (IntKind.i64.wrap y24)))] : List Int)) U125 Z2 V2 rfl rfl rfl rfl rfl rfl rfl rfl) rfl rfl ?_; clear hc; rintro _ w34 ⟨a33, rfl, hc⟩; refine ⟨fun j hj hb => trivial, ?_⟩; replace hp := bind_some hp; obtain ⟨z35, hz35, hp⟩ := hp; obtain ⟨hg36, e37⟩ := app_some hz35; refine deE (Ctx.append hc (k := 3) rfl rfl (k2 := 0) rfl rfl reads_own U125 (i := Tryz.t2) rfl rfl rfl rfl rfl rfl rfl rfl hg36) rfl rfl ?_; clear hc; rintro _ w40 ⟨a38, q39, rfl, hc⟩; rw [← e37] at hc ⊢; replace hc := Ctx.n3 hc; refine ⟨fun j hj hb => trivial, ?_⟩; refine dA (.slice a38 z35.length q39) rfl rfl rfl ?_; refine dn (bn (qn (Wreg ?_))); refine mz (.int .i64 j5) <| sz (adw rfl rfl) ?_; refine az (.int .i64 (IntKind.i64.wrap (j5 + 1))) <| rn (qn ?_); replace hc := Ctx.r0 hc; exact ⟨m1, Nat.lt_succ_self _, ⟨z35, (IntKind.i64.wrap (j5 + 1)), a38, z35.length, q39, rfl, hp, hc⟩, (kl rfl (km rfl (kl rfl k0)))⟩

def ref02_T (x0 : Int) : Option (Int) :=
  (idx ((65536 :: 64132 :: 62757 :: 61413 :: 60097 :: 58809 :: 57549 :: 56316 :: 55109 :: 53928 :: 52773 :: 51642 :: 50535 :: 49452 :: 48393 :: 47356 :: 46341 :: 45348 :: 44376 :: 43425 :: 42495 :: 41584 :: 40693 :: 39821 :: 38968 :: 38133 :: 37316 :: 36516 :: 35734 :: 34968 :: 34219 :: 33486 :: 32768 :: [])) x0).bind fun y3 =>
  some y3

theorem ref02_T_any {x0 : Int} {Fr : List HP} {w : World} {r : Int} {K : Value → World → Prop}  (hc : Ctx w (Fr)) (hp : ref02_T x0 = some r)
    (k : ∀ w', Ctx w' (Fr) → K (.int .i64 r) w') : Calls Tryz.prog 113 #[.int .i64 x0] w (Ret K) := by
 unfold ref02_T at hp; refine Center1 F113 M113 rfl rfl ?_; refine Wseq (Wreg ?_); refine az (.int .i64 0) <| rn (qn (Wseq (Wreg ?_))); refine rsE (Ctx.builtOp (css := [[.int .i64 65536], [.int .i64 64132], [.int .i64 62757], [.int .i64 61413], [.int .i64 60097], [.int .i64 58809], [.int .i64 57549], [.int .i64 56316], [.int .i64 55109], [.int .i64 53928], [.int .i64 52773], [.int .i64 51642], [.int .i64 50535], [.int .i64 49452], [.int .i64 48393], [.int .i64 47356], [.int .i64 46341], [.int .i64 45348], [.int .i64 44376], [.int .i64 43425], [.int .i64 42495], [.int .i64 41584], [.int .i64 40693], [.int .i64 39821], [.int .i64 38968], [.int .i64 38133], [.int .i64 37316], [.int .i64 36516], [.int .i64 35734], [.int .i64 34968], [.int .i64 34219], [.int .i64 33486], [.int .i64 32768]]) (xs := ((65536 :: 64132 :: 62757 :: 61413 :: 60097 :: 58809 :: 57549 :: 56316 :: 55109 :: 53928 :: 52773 :: 51642 :: 50535 :: 49452 :: 48393 :: 47356 :: 46341 :: 45348 :: 44376 :: 43425 :: 42495 :: 41584 :: 40693 :: 39821 :: 38968 :: 38133 :: 37316 :: 36516 :: 35734 :: 34968 :: 34219 :: 33486 :: 32768 :: []) : List Int)) (E := (pInt .i64)) (Ctx.holdsC (f := fun x : Int => [.int .i64 x]) (fun _ _ _ => rfl) hc ((65536 :: 64132 :: 62757 :: 61413 :: 60097 :: 58809 :: 57549 :: 56316 :: 55109 :: 53928 :: 52773 :: 51642 :: 50535 :: 49452 :: 48393 :: 47356 :: 46341 :: 45348 :: 44376 :: 43425 :: 42495 :: 41584 :: 40693 :: 39821 :: 38968 :: 38133 :: 37316 :: 36516 :: 35734 :: 34968 :: 34219 :: 33486 :: 32768 :: []) : List Int)) U125 Z2 V2 rfl rfl rfl rfl rfl rfl rfl rfl) rfl ?_; clear hc; rintro _ w2 ⟨a1, rfl, hc⟩; refine az (.slice a1 33 33) <| rn (qn (Wseq (Wreg ?_))); refine mz (.slice a1 33 33) <| mz (.int .i64 x0) ?_; replace hp := bind_some hp; obtain ⟨y3, hy3, hp⟩ := hp; obtain ⟨b6, o7, u8, hi4, hi5⟩ := Ctx.rdAt hc (k := 0) rfl rfl reads_own hy3; subst u8; refine sz (ixx rfl rfl U125 Z2 hi4 hi5 rfl) ?_; replace hc := Ctx.rdCell hc (k := 0) rfl rfl reads_own hy3; obtain ⟨cs9, hc, hcell10⟩ := hc; replace hc := Ctx.holdC hc; obtain ⟨u11, hc⟩ := hc; subst u11; refine sz (ld rfl G2 (hcell10 0 _ rfl)) ?_; refine az (.int .i64 y3) <| rn (qn (Wret ?_)); replace hc := Ctx.r0 hc; obtain rfl := sj hp; refine f1 (v := .int .i64 y3) R113 M113 rfl ?_; exact ⟨_, rfl, k _ hc⟩

def ref02_Exp (N : Nat) (x0 : Int) : Option (Int) :=
  if x0 > 0 then
    some 65536
  else
    if x0 < (-10000000) then
      some 0
    else
      (some (IntKind.i64.wrap (Int.tdiv (IntKind.i64.wrap ((IntKind.i64.wrap (0 - x0)) * 94548)) 65536))).bind fun e3 =>
      (some (IntKind.i64.wrap (Int.tdiv e3 65536))).bind fun e4 =>
      (some (IntKind.i64.wrap (Int.tdiv (Int.tmod e3 65536) 2048))).bind fun e5 =>
      (some (Int.tmod (Int.tmod e3 65536) 2048)).bind fun e6 =>
      (ref02_T e5).bind fun r7 =>
      (ref02_T e5).bind fun r9 =>
      (ref02_T (IntKind.i64.wrap (e5 + 1))).bind fun r11 =>
      (ref01_Shift N (IntKind.i64.wrap ((IntKind.i64.wrap (r9 - r11)) * e6)) 11).bind fun r13 =>
      if e4 > 31 then
        some 0
      else
        (ref01_Shift N (IntKind.i64.wrap (r7 - r13)) e4).bind fun r16 =>
        some (IntKind.i32.wrap r16)

theorem ref02_Exp_any {N : Nat} {x0 : Int} {Fr : List HP} {w : World} {r : Int} {K : Value → World → Prop}  (hc : Ctx w (Fr)) (hp : ref02_Exp N x0 = some r)
    (k : ∀ w', Ctx w' (Fr) → K (.int .i32 r) w') : Calls Tryz.prog 85 #[.int .i64 x0] w (Ret K) := by
 unfold ref02_Exp at hp; refine Center1 F85 M85 rfl rfl ?_; refine Wseq (Wreg ?_); refine az (.int .i32 0) <| rn (qn (Wseq (Wseq (Wreg ?_)))); refine mz (.int .i64 x0) <| sz (gt' rfl rfl) ?_; refine rn (qn ?_); cases hb1 : (decide (x0 > 0))
 · replace hp := gneg hp (of_decide_eq_false hb1); refine Wcf rfl (Wskip (qn (Wseq (Wseq (Wreg ?_))))); refine mz (.int .i64 x0) <| sz (lt' rfl rfl) ?_; refine rn (qn ?_); cases hb2 : (decide (x0 < (-10000000)))
   · replace hp := gneg hp (of_decide_eq_false hb2); refine Wcf rfl (Wskip (qn (Wseq (Wreg ?_)))); refine mz (.int .i64 x0) <| sz (neg_ rfl) ?_; refine az (.int .i64 (IntKind.i64.wrap (0 - x0))) <| rn (qn (Wseq (Wreg ?_))); refine mz (.int .i64 (IntKind.i64.wrap (0 - x0))) <| sz (mlw rfl rfl) ?_; refine sz (quw rfl rfl (by decide)) ?_; replace hp := bind_some hp; obtain ⟨e3, he3, hp⟩ := hp; injection he3 with he3; refine sz (v := .int .i64 e3) (av (v := .int .i64 e3) (by rw [← he3]; rfl)) ?_; refine rn (qn (Wseq (Wreg ?_))); refine mz (.int .i64 e3) <| sz (quw rfl rfl (by decide)) ?_; replace hp := bind_some hp; obtain ⟨e4, he4, hp⟩ := hp; injection he4 with he4; refine sz (v := .int .i64 e4) (av (v := .int .i64 e4) (by rw [← he4]; rfl)) ?_; refine rn (qn (Wseq (Wreg ?_))); refine mz (.int .i64 e3) <| sz (rm rfl rfl (by decide)) ?_; refine az (.int .i64 (Int.tmod e3 65536)) <| rn (qn (Wseq (Wreg ?_))); refine mz (.int .i64 (Int.tmod e3 65536)) <| sz (quw rfl rfl (by decide)) ?_; replace hp := bind_some hp; obtain ⟨e5, he5, hp⟩ := hp; injection he5 with he5; refine sz (v := .int .i64 e5) (av (v := .int .i64 e5) (by rw [← he5]; rfl)) ?_; refine rn (qn (Wseq (Wreg ?_))); refine mz (.int .i64 (Int.tmod e3 65536)) <| sz (rm rfl rfl (by decide)) ?_; replace hp := bind_some hp; obtain ⟨e6, he6, hp⟩ := hp; injection he6 with he6; refine sz (v := .int .i64 e6) (av (v := .int .i64 e6) (by rw [← he6]; rfl)) ?_; refine rn (qn (Wseq (Wreg ?_))); refine mz (.int .i64 e5) ?_; obtain ⟨r7, hr7, hp⟩ := bind_some hp; refine kz C113 ?_; refine ref02_T_any hc hr7 ?_; clear hc; intro w8 hc; refine mz (.int .i64 e5) ?_; obtain ⟨r9, hr9, hp⟩ := bind_some hp; refine kz C113 ?_; refine ref02_T_any hc hr9 ?_; clear hc; intro w10 hc; refine mz (.int .i64 e5) <| sz (adw rfl rfl) ?_; obtain ⟨r11, hr11, hp⟩ := bind_some hp; refine kz C113 ?_; refine ref02_T_any hc hr11 ?_; clear hc; intro w12 hc; refine sz (sbw rfl rfl) ?_; refine mz (.int .i64 e6) <| sz (mlw rfl rfl) ?_; obtain ⟨r13, hr13, hp⟩ := bind_some hp; refine kz C53 ?_; refine ref01_Shift_any hc hr13 ?_; clear hc; intro w14 hc; refine sz (sbw rfl rfl) ?_; refine az (.int .i64 (IntKind.i64.wrap (r7 - r13))) <| rn (qn (Wseq (Wseq (Wreg ?_)))); refine mz (.int .i64 e4) <| sz (gt' rfl rfl) ?_; refine rn (qn ?_); cases hb15 : (decide (e4 > 31))
     · replace hp := gneg hp (of_decide_eq_false hb15); refine Wcf rfl (Wskip (qn (Wseq (Wreg ?_)))); refine mz (.int .i64 (IntKind.i64.wrap (r7 - r13))) <| mz (.int .i64 e4) ?_; obtain ⟨r16, hr16, hp⟩ := bind_some hp; refine kz C53 ?_; refine ref01_Shift_any hc hr16 ?_; clear hc; intro w17 hc; refine sz (cvi rfl U2 U21) ?_; refine az (.int .i32 (IntKind.i32.wrap r16)) <| rn (qn (Wret ?_)); obtain rfl := sj hp; refine f1 (v := .int .i32 (IntKind.i32.wrap r16)) R85 M85 rfl ?_; exact ⟨_, rfl, k _ hc⟩
     · replace hp := gpos hp (of_decide_eq_true hb15); refine Wct rfl (Wseq (Wreg ?_)); refine az (.int .i32 0) <| rn (qn (Wret (qr ?_))); obtain rfl := sj hp; refine f1 (v := .int .i32 0) R85 M85 rfl ?_; exact ⟨_, rfl, k _ hc⟩
   · replace hp := gpos hp (of_decide_eq_true hb2); refine Wct rfl (Wseq (Wreg ?_)); refine az (.int .i32 0) <| rn (qn (Wret (qr ?_))); obtain rfl := sj hp; refine f1 (v := .int .i32 0) R85 M85 rfl ?_; exact ⟨_, rfl, k _ hc⟩
 · replace hp := gpos hp (of_decide_eq_true hb1); refine Wct rfl (Wseq (Wreg ?_)); refine az (.int .i32 65536) <| rn (qn (Wret (qr ?_))); obtain rfl := sj hp; refine f1 (v := .int .i32 65536) R85 M85 rfl ?_; exact ⟨_, rfl, k _ hc⟩

def ref02_Shares.J3 (j5 : (List Int)) (j9 : Int) (k2 : (List Int) → Int → Option ((List Int))) (j13 : Int) : Option ((List Int)) :=
  (app j5 ([(IntKind.i32.wrap j13)])).bind fun z41 =>
  k2 z41 (IntKind.i64.wrap (j9 + 1))

def ref02_Shares.J4 (x0 : Int) (x1 : (List Int)) (j1 : Int) (j5 : (List Int)) (j9 : Int) (k2 : (List Int) → Int → Option ((List Int))) (j14 : Bool) : Option ((List Int)) :=
  if j14 = true then
    (idx x1 j9).bind fun y27 =>
    chk (j1 ≠ 0) <|
    (some (IntKind.i64.wrap (Int.tdiv (IntKind.i64.wrap ((IntKind.i64.wrap y27) * (IntKind.i64.wrap x0))) j1))).bind fun e37 =>
    ref02_Shares.J3 j5 j9 k2 e37
  else
    ref02_Shares.J3 j5 j9 k2 0

def ref02_Shares.L2 (x0 : Int) (x1 : (List Int)) (j1 : Int) : Nat → (List Int) → Int → Option ((List Int))
  | 0, _, _ => none
  | m2 + 1, j5, j9 =>
    if j9 < ((x1.length : Nat) : Int) then
      (idx x1 j9).bind fun y15 =>
      if y15 > 0 then
        ref02_Shares.J4 x0 x1 j1 j5 j9 (ref02_Shares.L2 x0 x1 j1 m2) (decide (x0 > 0))
      else
        ref02_Shares.J4 x0 x1 j1 j5 j9 (ref02_Shares.L2 x0 x1 j1 m2) false
    else
      some j5

def ref02_Shares.J5 (j2 : Int) (k1 : Int → Int → Option ((List Int))) (j47 : Int) : Option ((List Int)) :=
  k1 j47 (IntKind.i64.wrap (j2 + 1))

def ref02_Shares.L1 (N : Nat) (x0 : Int) (x1 : (List Int)) : Nat → Int → Int → Option ((List Int))
  | 0, _, _ => none
  | m1 + 1, j1, j2 =>
    if j2 < ((x1.length : Nat) : Int) then
      (idx x1 j2).bind fun y48 =>
      if y48 > 0 then
        (idx x1 j2).bind fun y58 =>
        (some (IntKind.i64.wrap (j1 + (IntKind.i64.wrap y58)))).bind fun e67 =>
        ref02_Shares.J5 j2 (ref02_Shares.L1 N x0 x1 m1) e67
      else
        ref02_Shares.J5 j2 (ref02_Shares.L1 N x0 x1 m1) j1
    else
      ref02_Shares.L2 x0 x1 j1 N ([]) 0

def ref02_Shares (N : Nat) (x0 : Int) (x1 : (List Int)) : Option ((List Int)) :=
  ref02_Shares.L1 N x0 x1 N 0 0

theorem ref02_Shares_any {N : Nat} {x0 : Int} {x1 : (List Int)} {ax1 : Option Addr} {nx1 : Nat} {qx1 : Nat} {P1 : HP} {Fr : List HP} {w : World} {r : (List Int)} {K : Value → World → Prop} (hrd1 : Reads P1 (pInt .i32) (.slice ax1 nx1 qx1) x1) (hc : Ctx w (P1 :: Fr)) (hp : ref02_Shares N x0 x1 = some r)
    (k : ∀ (a69 : Option Addr) (n70 : Nat) (q71 : Nat) w', Ctx w' (Own (pInt .i32) 21 (.slice a69 n70 q71) r :: P1 :: Fr) → K (.slice a69 n70 q71) w') : Calls Tryz.prog 86 #[.int .i32 x0, .slice ax1 nx1 qx1] w (Ret K) := by
 unfold ref02_Shares at hp; refine Center2 F86 M86 rfl rfl ?_; obtain ⟨hn1, _⟩ := Ctx.rdLen hc (k := 0) rfl rfl hrd1; subst hn1; refine Wseq (Wreg ?_); refine az (.slice none 0 0) <| rn (qn (Wseq (Wreg ?_))); refine az (.int .i64 0) <| rn (qn (Wseq (Wseq (Wreg ?_)))); refine az (.int .i64 0) <| rn (qn (Wblk ?_)); refine Wloop [5, 6, 10, 11, 12, 13, 14, 15, 16, 17, 18, 19, 20, 21, 22, 23, 24, 25, 26, 27] [5, 6] (fun m vs w' => ∃ j1 : Int, ∃ j2 : Int, vs = [.int .i64 j1, .int .i64 j2] ∧ ref02_Shares.L1 N x0 x1 m j1 j2 = some r ∧ Ctx w' (P1 :: Fr)) N ?_ ?_
 · exact ⟨0, 0, rfl, hp, hc⟩
 · clear hp hc; intro m vs u w3 hJ; obtain ⟨j1, j2, rfl, hp, hc⟩ := hJ; rcases m with _ | m1
   · cases (show none = some r from hp)
   rw [ref02_Shares.L1] at hp; refine Wseq (Wseq (Wreg ?_)); refine mz (.int .i64 j2) <| mz (.slice ax1 x1.length qx1) <| sz (ln rfl U51) <| sz (lt' rfl rfl) <| rn (qn ?_); cases hb4 : (decide (j2 < ((x1.length : Nat) : Int)))
   · replace hp := gneg hp (of_decide_eq_false hb4); refine Wcf rfl (Wexit (qx (qx (be (qn (Wseq (Wreg ?_))))))); refine az (.slice none 0 0) <| rn (qn (Wseq (Wseq (Wreg ?_)))); refine az (.int .i64 0) <| rn (qn (Wblk ?_)); replace hc := hc.nilOwn (pInt .i32) 21; replace hc := Ctx.p1 hc; refine Wloop (7 :: 8 :: 9 :: 28 :: 29 :: 30 :: 31 :: 32 :: 33 :: 34 :: 35 :: 36 :: 37 :: 38 :: 39 :: 40 :: 41 :: 42 :: 43 :: 44 :: 45 :: 46 :: 47 :: 48 :: 49 :: 50 :: 51 :: 52 :: 53 :: 54 :: 55 :: 56 :: 57 :: []) [7, 8] (fun m vs w' => ∃ j5 : (List Int), ∃ j9 : Int, ∃ a6 : Option Addr, ∃ n7 : Nat, ∃ q8 : Nat, vs = [.slice a6 n7 q8, .int .i64 j9] ∧ ref02_Shares.L2 x0 x1 j1 m j5 j9 = some r ∧ Ctx w' (P1 :: Own (pInt .i32) 21 (.slice a6 n7 q8) j5 :: Fr)) N ?_ ?_
     · exact ⟨[], 0, none, 0, 0, rfl, hp, hc⟩
     · clear hp hc; intro m vs u w10 hJ; obtain ⟨j5, j9, a6, n7, q8, rfl, hp, hc⟩ := hJ; obtain rfl := hc.rz 1 reads_own; rcases m with _ | m2
       · cases (show none = some r from hp)
       rw [ref02_Shares.L2] at hp; refine Wseq (Wseq (Wreg ?_)); refine mz (.int .i64 j9) <| mz (.slice ax1 x1.length qx1) <| sz (ln rfl U51) <| sz (lt' rfl rfl) <| rn (qn ?_); cases hb12 : (decide (j9 < ((x1.length : Nat) : Int)))
       · replace hp := gneg hp (of_decide_eq_false hb12); refine Wcf rfl (Wexit (qx (qx (be (qn (Wseq (Wreg ?_))))))); refine mz (.slice a6 j5.length q8) <| az (.slice a6 j5.length q8) <| rn (qn (Wret ?_)); replace hc := Ctx.p1 hc; obtain rfl := sj hp; refine f1 (v := .slice a6 j5.length q8) R86 M86 rfl ?_; exact ⟨_, rfl, k _ _ _ _ hc⟩
       · replace hp := gpos hp (of_decide_eq_true hb12); refine Wct rfl (Wskip (qn (Wseq (Wblk (Wseq (Wreg ?_)))))); refine az (.int .i64 0) <| rn (qn ?_); refine Wseqm [9, 34, 35, 36, 37, 38, 39, 40, 41, 42, 43, 44, 45, 46, 47, 48, 49, 50, 51, 52] [9] (fun vs w' => ∃ j13 : Int, vs = [.int .i64 j13] ∧ ref02_Shares.J3 j5 j9 (ref02_Shares.L2 x0 x1 j1 m2) j13 = some r ∧ Ctx w' (P1 :: oR .i32 21 a6 q8 j5 :: Fr)) ?_ ?_
         · refine Wseqm [34, 35, 36, 37, 38, 39, 40, 41, 42] [42] (fun vs w' => ∃ j14 : Bool, vs = [.bool j14] ∧ ref02_Shares.J4 x0 x1 j1 j5 j9 (ref02_Shares.L2 x0 x1 j1 m2) j14 = some r ∧ Ctx w' (P1 :: oR .i32 21 a6 q8 j5 :: Fr)) ?_ ?_
           · refine Wreg ?_; refine mz (.slice ax1 x1.length qx1) <| mz (.int .i64 j9) ?_; replace hp := bind_some hp; obtain ⟨y15, hy15, hp⟩ := hp; obtain ⟨b18, o19, u20, hi16, hi17⟩ := Ctx.rdAt hc (k := 0) rfl rfl hrd1 hy15; subst u20; refine sz (ixx rfl rfl U51 Z21 hi16 hi17 rfl) ?_; replace hc := Ctx.rdCell hc (k := 0) rfl rfl hrd1 hy15; obtain ⟨cs21, hc, hcell22⟩ := hc; replace hc := Ctx.holdC hc; obtain ⟨u23, hc⟩ := hc; subst u23; refine sz (ld rfl G21 (hcell22 0 _ rfl)) ?_; refine sz (gt' rfl rfl) ?_; refine mz (.bool (decide (y15 > 0))) ?_; cases hb24 : (decide (y15 > 0))
             · replace hp := gneg hp (of_decide_eq_false hb24); (iterate 2 refine r0 rfl ?_); refine sz (v := .bool false) (pkf (v := .bool false) rfl rfl) ?_; refine rn (qn ?_); exact ⟨⟨false, rfl, hp, hc⟩, (kl rfl kb)⟩
             · replace hp := gpos hp (of_decide_eq_true hb24); refine mz (.int .i32 x0) <| sz (gt' rfl rfl) ?_; refine sz (v := .bool (decide (x0 > 0))) (pkt (v := .bool (decide (x0 > 0))) rfl rfl) ?_; refine rn (qn ?_); exact ⟨⟨decide (x0 > 0), rfl, hp, hc⟩, (kl rfl kb)⟩
           · clear hp hc; intro vs u w25 hJ; obtain ⟨j14, rfl, hp, hc⟩ := hJ; unfold ref02_Shares.J4 at hp; cases hb26 : j14
             · replace hp := gneg hp (by rw [hb26]; exact Bool.false_ne_true); subst hb26; refine Wcf rfl (Wskip (qn ?_)); exact ⟨⟨0, rfl, hp, hc⟩, (kl rfl (km rfl (kl rfl kb)))⟩
             · replace hp := gpos hp hb26; subst hb26; refine Wct rfl (Wreg ?_); refine mz (.slice ax1 x1.length qx1) <| mz (.int .i64 j9) ?_; replace hp := bind_some hp; obtain ⟨y27, hy27, hp⟩ := hp; obtain ⟨b30, o31, u32, hi28, hi29⟩ := Ctx.rdAt hc (k := 0) rfl rfl hrd1 hy27; subst u32; refine sz (ixx rfl rfl U51 Z21 hi28 hi29 rfl) ?_; replace hc := Ctx.rdCell hc (k := 0) rfl rfl hrd1 hy27; obtain ⟨cs33, hc, hcell34⟩ := hc; replace hc := Ctx.holdC hc; obtain ⟨u35, hc⟩ := hc; subst u35; refine sz (ld rfl G21 (hcell34 0 _ rfl)) ?_; refine sz (cvi rfl U21 U2) ?_; refine mz (.int .i32 x0) <| sz (cvi rfl U21 U2) ?_; refine sz (mlw rfl rfl) ?_; refine mz (.int .i64 j1) ?_; replace hp := chk_some hp; obtain ⟨hg36, hp⟩ := hp; refine sz (quw rfl rfl hg36) ?_; replace hp := bind_some hp; obtain ⟨e37, he37, hp⟩ := hp; injection he37 with he37; refine sz (v := .int .i64 e37) (av (v := .int .i64 e37) (by rw [← he37]; rfl)) ?_; refine rn (qn ?_); exact ⟨⟨e37, rfl, hp, hc⟩, (kl rfl (km rfl (kl rfl kb)))⟩
         · clear hp hc; intro vs u w38 hJ; obtain ⟨j13, rfl, hp, hc⟩ := hJ; unfold ref02_Shares.J3 at hp; refine Wreg ?_; refine mz (.slice a6 j5.length q8) <| mz (.int .i64 j13) <| sz (cvi rfl U2 U21) ?_; refine rsE (Ctx.builtOp (css := [[.int .i32 (IntKind.i32.wrap j13)]]) (xs := ([(IntKind.i32.wrap j13)] : List Int)) (E := (pInt .i32)) (Ctx.holdsC (f := fun x : Int => [.int .i32 x]) (fun _ _ _ => rfl) hc ([(IntKind.i32.wrap j13)] : List Int)) U51 Z21 V21 rfl rfl rfl rfl rfl rfl rfl rfl) rfl ?_; clear hc; rintro _ w40 ⟨a39, rfl, hc⟩; replace hp := bind_some hp; obtain ⟨z41, hz41, hp⟩ := hp; obtain ⟨hg42, e43⟩ := app_some hz41; refine rsE (Ctx.append hc (k := 2) rfl rfl (k2 := 0) rfl rfl reads_own U51 (i := Tryz.t21) rfl rfl rfl rfl rfl rfl rfl rfl hg42) rfl ?_; clear hc; rintro _ w46 ⟨a44, q45, rfl, hc⟩; rw [← e43] at hc ⊢; replace hc := Ctx.n2 hc; refine az (.slice a44 z41.length q45) <| rn (bn (qn (Wreg ?_))); refine mz (.int .i64 j9) <| sz (adw rfl rfl) ?_; refine az (.int .i64 (IntKind.i64.wrap (j9 + 1))) <| rn (qn ?_); replace hc := Ctx.r0 hc; exact ⟨m2, Nat.lt_succ_self _, ⟨z41, (IntKind.i64.wrap (j9 + 1)), a44, z41.length, q45, rfl, hp, hc⟩, (kl rfl (km rfl (kl rfl k0)))⟩
   · replace hp := gpos hp (of_decide_eq_true hb4); refine Wct rfl (Wskip (qn ?_)); refine Wseqm [5, 16, 17, 18, 19, 20, 21, 22, 23, 24, 25, 26, 27] [5] (fun vs w' => ∃ j47 : Int, vs = [.int .i64 j47] ∧ ref02_Shares.J5 j2 (ref02_Shares.L1 N x0 x1 m1) j47 = some r ∧ Ctx w' (P1 :: Fr)) ?_ ?_
     · refine Wblk (Wseq (Wreg ?_)); refine mz (.slice ax1 x1.length qx1) <| mz (.int .i64 j2) ?_; replace hp := bind_some hp; obtain ⟨y48, hy48, hp⟩ := hp; obtain ⟨b51, o52, u53, hi49, hi50⟩ := Ctx.rdAt hc (k := 0) rfl rfl hrd1 hy48; subst u53; refine sz (ixx rfl rfl U51 Z21 hi49 hi50 rfl) ?_; replace hc := Ctx.rdCell hc (k := 0) rfl rfl hrd1 hy48; obtain ⟨cs54, hc, hcell55⟩ := hc; replace hc := Ctx.holdC hc; obtain ⟨u56, hc⟩ := hc; subst u56; refine sz (ld rfl G21 (hcell55 0 _ rfl)) ?_; refine sz (gt' rfl rfl) ?_; refine rn (qn ?_); cases hb57 : (decide (y48 > 0))
       · replace hp := gneg hp (of_decide_eq_false hb57); refine Wcf rfl (Wskip (bn (qn ?_))); exact ⟨⟨j1, rfl, hp, hc⟩, (kl rfl kb)⟩
       · replace hp := gpos hp (of_decide_eq_true hb57); refine Wct rfl (Wreg ?_); refine mz (.int .i64 j1) <| mz (.slice (some ⟨b51, o52, none⟩) x1.length qx1) <| mz (.int .i64 j2) ?_; replace hp := bind_some hp; obtain ⟨y58, hy58, hp⟩ := hp; obtain ⟨b61, o62, u63, hi59, hi60⟩ := Ctx.rdAt hc (k := 0) rfl rfl hrd1 hy58; clear u63; refine sz (ixx rfl rfl U51 Z21 hi59 hi60 rfl) ?_; replace hc := Ctx.rdCell hc (k := 0) rfl rfl hrd1 hy58; obtain ⟨cs64, hc, hcell65⟩ := hc; replace hc := Ctx.holdC hc; obtain ⟨u66, hc⟩ := hc; subst u66; refine sz (ld rfl G21 (hcell65 0 _ rfl)) ?_; refine sz (cvi rfl U21 U2) ?_; refine sz (adw rfl rfl) ?_; replace hp := bind_some hp; obtain ⟨e67, he67, hp⟩ := hp; injection he67 with he67; refine sz (v := .int .i64 e67) (av (v := .int .i64 e67) (by rw [← he67]; rfl)) ?_; refine rn (bn (qn ?_)); exact ⟨⟨e67, rfl, hp, hc⟩, (kl rfl kb)⟩
     · clear hp hc; intro vs u w68 hJ; obtain ⟨j47, rfl, hp, hc⟩ := hJ; unfold ref02_Shares.J5 at hp; refine Wreg ?_; refine mz (.int .i64 j2) <| sz (adw rfl rfl) ?_; refine az (.int .i64 (IntKind.i64.wrap (j2 + 1))) <| rn (qn ?_); exact ⟨m1, Nat.lt_succ_self _, ⟨j47, (IntKind.i64.wrap (j2 + 1)), rfl, hp, hc⟩, (kl rfl (km rfl (kl rfl k0)))⟩

def ref05_Softmax.J3 (j25 : Int) (k2 : Int → Int → Option ((List Int))) (j49 : Int) : Option ((List Int)) :=
  k2 j49 (IntKind.i64.wrap (j25 + 1))

def ref05_Softmax.L2 (N : Nat) (x0 : Int) (x1 : Int) (x2 : (List Int)) (j1 : (List Int)) (j5 : Int) (k1 : (List Int) → Int → Option ((List Int))) : Nat → Int → Int → Option ((List Int))
  | 0, _, _ => none
  | m2 + 1, j24, j25 =>
    if j25 < ((x2.length : Nat) : Int) then
      (idx x2 j25).bind fun y50 =>
      if y50 > j24 then
        (idx x2 j25).bind fun y60 =>
        ref05_Softmax.J3 j25 (ref05_Softmax.L2 N x0 x1 x2 j1 j5 k1 m2) y60
      else
        ref05_Softmax.J3 j25 (ref05_Softmax.L2 N x0 x1 x2 j1 j5 k1 m2) j24
    else
      (idx x2 j5).bind fun y28 =>
      (ref01_Shift N (IntKind.i64.wrap ((IntKind.i64.wrap ((IntKind.i64.wrap y28) - (IntKind.i64.wrap j24))) * (IntKind.i64.wrap x0))) x1).bind fun r37 =>
      (ref02_Exp N r37).bind fun r39 =>
      (app j1 ([r39])).bind fun z43 =>
      k1 z43 (IntKind.i64.wrap (j5 + 1))

def ref05_Softmax.L1 (N : Nat) (x0 : Int) (x1 : Int) (x2 : (List Int)) : Nat → (List Int) → Int → Option ((List Int))
  | 0, _, _ => none
  | m1 + 1, j1, j5 =>
    if j5 < ((x2.length : Nat) : Int) then
      (idx x2 j5).bind fun y15 =>
      ref05_Softmax.L2 N x0 x1 x2 j1 j5 (ref05_Softmax.L1 N x0 x1 x2 m1) N y15 0
    else
      (ref02_Shares N 65536 j1).bind fun r9 =>
      some r9

def ref05_Softmax (N : Nat) (x0 : Int) (x1 : Int) (x2 : (List Int)) : Option ((List Int)) :=
  ref05_Softmax.L1 N x0 x1 x2 N ([]) 0

theorem ref05_Softmax_any {N : Nat} {x0 : Int} {x1 : Int} {x2 : (List Int)} {ax2 : Option Addr} {nx2 : Nat} {qx2 : Nat} {P2 : HP} {Fr : List HP} {w : World} {r : (List Int)} {K : Value → World → Prop} (hrd2 : Reads P2 (pInt .i32) (.slice ax2 nx2 qx2) x2) (hc : Ctx w (P2 :: Fr)) (hp : ref05_Softmax N x0 x1 x2 = some r)
    (k : ∀ (a70 : Option Addr) (n71 : Nat) (q72 : Nat) w', Ctx w' (Own (pInt .i32) 21 (.slice a70 n71 q72) r :: P2 :: Fr) → K (.slice a70 n71 q72) w') : Calls Tryz.prog 47 #[.int .i32 x0, .int .i64 x1, .slice ax2 nx2 qx2] w (Ret K) := by
 unfold ref05_Softmax at hp; refine Center3 F47 M47 rfl rfl ?_; obtain ⟨hn2, _⟩ := Ctx.rdLen hc (k := 0) rfl rfl hrd2; subst hn2; refine Wseq (Wreg ?_); refine az (.slice none 0 0) <| rn (qn (Wseq (Wreg ?_))); refine az (.slice none 0 0) <| rn (qn (Wseq (Wseq (Wreg ?_)))); refine az (.int .i64 0) <| rn (qn (Wblk ?_)); replace hc := hc.nilOwn (pInt .i32) 21; replace hc := Ctx.p1 hc; refine Wloop (7 :: 8 :: 9 :: 10 :: 11 :: 12 :: 13 :: 14 :: 15 :: 16 :: 17 :: 18 :: 19 :: 20 :: 21 :: 22 :: 23 :: 24 :: 25 :: 26 :: 27 :: 28 :: 29 :: 30 :: 31 :: 32 :: 33 :: 34 :: 35 :: 36 :: 37 :: 38 :: 39 :: 40 :: 41 :: 42 :: 43 :: 44 :: 45 :: 46 :: 47 :: 48 :: 49 :: 50 :: 51 :: 52 :: 53 :: []) [7, 8] (fun m vs w' => ∃ j1 : (List Int), ∃ j5 : Int, ∃ a2 : Option Addr, ∃ n3 : Nat, ∃ q4 : Nat, vs = [.slice a2 n3 q4, .int .i64 j5] ∧ ref05_Softmax.L1 N x0 x1 x2 m j1 j5 = some r ∧ Ctx w' (P2 :: Own (pInt .i32) 21 (.slice a2 n3 q4) j1 :: Fr)) N ?_ ?_
 · exact ⟨[], 0, none, 0, 0, rfl, hp, hc⟩
 · clear hp hc; intro m vs u w6 hJ; obtain ⟨j1, j5, a2, n3, q4, rfl, hp, hc⟩ := hJ; obtain rfl := hc.rz 1 reads_own; rcases m with _ | m1
   · cases (show none = some r from hp)
   rw [ref05_Softmax.L1] at hp; refine Wseq (Wseq (Wreg ?_)); refine mz (.int .i64 j5) <| mz (.slice ax2 x2.length qx2) <| sz (ln rfl U51) <| sz (lt' rfl rfl) <| rn (qn ?_); cases hb8 : (decide (j5 < ((x2.length : Nat) : Int)))
   · replace hp := gneg hp (of_decide_eq_false hb8); refine Wcf rfl (Wexit (qx (qx (be (qn (Wseq (Wreg ?_))))))); refine mz (.slice a2 j1.length q4) ?_; obtain ⟨r9, hr9, hp⟩ := bind_some hp; replace hc := Ctx.p1 hc; refine kz C86 ?_; refine ref02_Shares_any reads_own hc hr9 ?_; clear hc; intro a10 n11 q12 w13 hc; obtain rfl := hc.rz 0 reads_own; refine az (.slice a10 r9.length q12) <| rn (qn (Wret ?_)); replace hc := Ctx.r1 hc; obtain rfl := sj hp; refine f1 (v := .slice a10 r9.length q12) R47 M47 rfl ?_; exact ⟨_, rfl, k _ _ _ _ hc⟩
   · replace hp := gpos hp (of_decide_eq_true hb8); refine Wct rfl (Wskip (qn (Wseq (Wblk (Wseq (Wreg ?_)))))); refine mz (.slice ax2 x2.length qx2) <| mz (.int .i64 j5) ?_; replace hp := bind_some hp; obtain ⟨y15, hy15, hp⟩ := hp; obtain ⟨b18, o19, u20, hi16, hi17⟩ := Ctx.rdAt hc (k := 0) rfl rfl hrd2 hy15; subst u20; refine sz (ixx rfl rfl U51 Z21 hi16 hi17 rfl) ?_; replace hc := Ctx.rdCell hc (k := 0) rfl rfl hrd2 hy15; obtain ⟨cs21, hc, hcell22⟩ := hc; replace hc := Ctx.holdC hc; obtain ⟨u23, hc⟩ := hc; subst u23; refine sz (ld rfl G21 (hcell22 0 _ rfl)) ?_; refine az (.int .i32 y15) <| rn (qn (Wseq (Wseq (Wreg ?_)))); refine az (.int .i64 0) <| rn (qn (Wblk ?_)); refine Wloop [9, 10, 21, 22, 23, 24, 25, 26, 27, 28, 29, 30, 31, 32, 33, 34, 35, 36] [9, 10] (fun m vs w' => ∃ j24 : Int, ∃ j25 : Int, vs = [.int .i32 j24, .int .i64 j25] ∧ ref05_Softmax.L2 N x0 x1 x2 j1 j5 (ref05_Softmax.L1 N x0 x1 x2 m1) m j24 j25 = some r ∧ Ctx w' (P2 :: oR .i32 21 a2 q4 j1 :: Fr)) N ?_ ?_
     · exact ⟨y15, 0, rfl, hp, hc⟩
     · clear hp hc; intro m vs u w26 hJ; obtain ⟨j24, j25, rfl, hp, hc⟩ := hJ; rcases m with _ | m2
       · cases (show none = some r from hp)
       rw [ref05_Softmax.L2] at hp; refine Wseq (Wseq (Wreg ?_)); refine mz (.int .i64 j25) <| mz (.slice (some ⟨b18, o19, none⟩) x2.length qx2) <| sz (ln rfl U51) <| sz (lt' rfl rfl) <| rn (qn ?_); cases hb27 : (decide (j25 < ((x2.length : Nat) : Int)))
       · replace hp := gneg hp (of_decide_eq_false hb27); refine Wcf rfl (Wexit (qx (qx (be (qn (Wreg ?_)))))); refine mz (.slice a2 j1.length q4) <| mz (.slice (some ⟨b18, o19, none⟩) x2.length qx2) <| mz (.int .i64 j5) ?_; replace hp := bind_some hp; obtain ⟨y28, hy28, hp⟩ := hp; obtain ⟨b31, o32, u33, hi29, hi30⟩ := Ctx.rdAt hc (k := 0) rfl rfl hrd2 hy28; clear u33; refine sz (ixx rfl rfl U51 Z21 hi29 hi30 rfl) ?_; replace hc := Ctx.rdCell hc (k := 0) rfl rfl hrd2 hy28; obtain ⟨cs34, hc, hcell35⟩ := hc; replace hc := Ctx.holdC hc; obtain ⟨u36, hc⟩ := hc; subst u36; refine sz (ld rfl G21 (hcell35 0 _ rfl)) ?_; refine sz (cvi rfl U21 U2) ?_; refine mz (.int .i32 j24) <| sz (cvi rfl U21 U2) ?_; refine sz (sbw rfl rfl) ?_; refine mz (.int .i32 x0) <| sz (cvi rfl U21 U2) ?_; refine sz (mlw rfl rfl) ?_; refine mz (.int .i64 x1) ?_; obtain ⟨r37, hr37, hp⟩ := bind_some hp; refine kz C53 ?_; refine ref01_Shift_any hc hr37 ?_; clear hc; intro w38 hc; obtain ⟨r39, hr39, hp⟩ := bind_some hp; refine kz C85 ?_; refine ref02_Exp_any hc hr39 ?_; clear hc; intro w40 hc; refine rsE (Ctx.builtOp (css := [[.int .i32 r39]]) (xs := ([r39] : List Int)) (E := (pInt .i32)) (Ctx.holdsC (f := fun x : Int => [.int .i32 x]) (fun _ _ _ => rfl) hc ([r39] : List Int)) U51 Z21 V21 rfl rfl rfl rfl rfl rfl rfl rfl) rfl ?_; clear hc; rintro _ w42 ⟨a41, rfl, hc⟩; replace hp := bind_some hp; obtain ⟨z43, hz43, hp⟩ := hp; obtain ⟨hg44, e45⟩ := app_some hz43; refine rsE (Ctx.append hc (k := 2) rfl rfl (k2 := 0) rfl rfl reads_own U51 (i := Tryz.t21) rfl rfl rfl rfl rfl rfl rfl rfl hg44) rfl ?_; clear hc; rintro _ w48 ⟨a46, q47, rfl, hc⟩; rw [← e45] at hc ⊢; replace hc := Ctx.n2 hc; refine az (.slice a46 z43.length q47) <| rn (bn (qn (Wreg ?_))); refine mz (.int .i64 j5) <| sz (adw rfl rfl) ?_; refine az (.int .i64 (IntKind.i64.wrap (j5 + 1))) <| rn (qn ?_); replace hc := Ctx.r0 hc; exact ⟨m1, Nat.lt_succ_self _, ⟨z43, (IntKind.i64.wrap (j5 + 1)), a46, z43.length, q47, rfl, hp, hc⟩, (kl rfl (km rfl (kl rfl k0)))⟩
       · replace hp := gpos hp (of_decide_eq_true hb27); refine Wct rfl (Wskip (qn ?_)); refine Wseqm [9, 27, 28, 29, 30, 31, 32, 33, 34, 35, 36] [9] (fun vs w' => ∃ j49 : Int, vs = [.int .i32 j49] ∧ ref05_Softmax.J3 j25 (ref05_Softmax.L2 N x0 x1 x2 j1 j5 (ref05_Softmax.L1 N x0 x1 x2 m1) m2) j49 = some r ∧ Ctx w' (P2 :: oR .i32 21 a2 q4 j1 :: Fr)) ?_ ?_
         · refine Wblk (Wseq (Wreg ?_)); refine mz (.slice (some ⟨b18, o19, none⟩) x2.length qx2) <| mz (.int .i64 j25) ?_; replace hp := bind_some hp; obtain ⟨y50, hy50, hp⟩ := hp; obtain ⟨b53, o54, u55, hi51, hi52⟩ := Ctx.rdAt hc (k := 0) rfl rfl hrd2 hy50; clear u55; refine sz (ixx rfl rfl U51 Z21 hi51 hi52 rfl) ?_; replace hc := Ctx.rdCell hc (k := 0) rfl rfl hrd2 hy50; obtain ⟨cs56, hc, hcell57⟩ := hc; replace hc := Ctx.holdC hc; obtain ⟨u58, hc⟩ := hc; subst u58; refine sz (ld rfl G21 (hcell57 0 _ rfl)) ?_; refine mz (.int .i32 j24) <| sz (gt' rfl rfl) ?_; refine rn (qn ?_); cases hb59 : (decide (y50 > j24))
           · replace hp := gneg hp (of_decide_eq_false hb59); refine Wcf rfl (Wskip (bn (qn ?_))); exact ⟨⟨j24, rfl, hp, hc⟩, (kl rfl kb)⟩
           · replace hp := gpos hp (of_decide_eq_true hb59); refine Wct rfl (Wreg ?_); refine mz (.slice (some ⟨b18, o19, none⟩) x2.length qx2) <| mz (.int .i64 j25) ?_; replace hp := bind_some hp; obtain ⟨y60, hy60, hp⟩ := hp; obtain ⟨b63, o64, u65, hi61, hi62⟩ := Ctx.rdAt hc (k := 0) rfl rfl hrd2 hy60; clear u65; refine sz (ixx rfl rfl U51 Z21 hi61 hi62 rfl) ?_; replace hc := Ctx.rdCell hc (k := 0) rfl rfl hrd2 hy60; obtain ⟨cs66, hc, hcell67⟩ := hc; replace hc := Ctx.holdC hc; obtain ⟨u68, hc⟩ := hc; subst u68; refine sz (ld rfl G21 (hcell67 0 _ rfl)) ?_; refine az (.int .i32 y60) <| rn (bn (qn ?_)); exact ⟨⟨y60, rfl, hp, hc⟩, (kl rfl kb)⟩
         · clear hp hc; intro vs u w69 hJ; obtain ⟨j49, rfl, hp, hc⟩ := hJ; unfold ref05_Softmax.J3 at hp; refine Wreg ?_; refine mz (.int .i64 j25) <| sz (adw rfl rfl) ?_; refine az (.int .i64 (IntKind.i64.wrap (j25 + 1))) <| rn (qn ?_); exact ⟨m2, Nat.lt_succ_self _, ⟨j49, (IntKind.i64.wrap (j25 + 1)), rfl, hp, hc⟩, (kl rfl (km rfl (kl rfl k0)))⟩

def ref05_Mix.L3 (N : Nat) (x0 : (List Int)) (x1 : (List (List Int))) (j6 : (List Int)) (j10 : Int) (k2 : (List Int) → Int → Option ((List Int) × Bool)) : Nat → Int → Int → Option ((List Int) × Bool)
  | 0, _, _ => none
  | m3 + 1, j26, j27 =>
    if j27 < ((x1.length : Nat) : Int) then
      (idx x0 j27).bind fun y43 =>
      (idx x1 j27).bind fun y52 =>
      (idx y52 j10).bind fun y64 =>
      (ref05_Mix.L3 N x0 x1 j6 j10 k2 m3) (IntKind.i64.wrap (j26 + (IntKind.i64.wrap ((IntKind.i64.wrap y43) * (IntKind.i64.wrap y64))))) (IntKind.i64.wrap (j27 + 1))
    else
      (ref01_Shift N j26 16).bind fun r30 =>
      (ref01_Near r30 (-128) 127).bind fun r32 =>
      (app j6 ([(IntKind.i8.wrap r32)])).bind fun z36 =>
      k2 z36 (IntKind.i64.wrap (j10 + 1))

def ref05_Mix.L2 (N : Nat) (x0 : (List Int)) (x1 : (List (List Int))) : Nat → (List Int) → Int → Option ((List Int) × Bool)
  | 0, _, _ => none
  | m2 + 1, j6, j10 =>
    (idx x1 (0 : Int)).bind fun y13 =>
    if j10 < ((y13.length : Nat) : Int) then
      ref05_Mix.L3 N x0 x1 j6 j10 (ref05_Mix.L2 N x0 x1 m2) N 0 0
    else
      some (j6, true)

def ref05_Mix.L1 (N : Nat) (x0 : (List Int)) (x1 : (List (List Int))) : Nat → Int → Option ((List Int) × Bool)
  | 0, _ => none
  | m1 + 1, j2 =>
    if j2 < ((x1.length : Nat) : Int) then
      (idx x1 j2).bind fun y74 =>
      (idx x1 (0 : Int)).bind fun y86 =>
      if ((y74.length : Nat) : Int) ≠ ((y86.length : Nat) : Int) then
        some ([], false)
      else
        (ref05_Mix.L1 N x0 x1 m1) (IntKind.i64.wrap (j2 + 1))
    else
      if ((x1.length : Nat) : Int) = 0 then
        some ([], true)
      else
        ref05_Mix.L2 N x0 x1 N ([]) 0

def ref05_Mix (N : Nat) (x0 : (List Int)) (x1 : (List (List Int))) : Option ((List Int) × Bool) :=
  if ((x0.length : Nat) : Int) ≠ ((x1.length : Nat) : Int) then
    some ([], false)
  else
    ref05_Mix.L1 N x0 x1 N 0

theorem ref05_Mix_any {N : Nat} {x0 : (List Int)} {ax0 : Option Addr} {nx0 : Nat} {qx0 : Nat} {P0 : HP} {x1 : (List (List Int))} {ax1 : Option Addr} {nx1 : Nat} {qx1 : Nat} {P1 : HP} {Fr : List HP} {w : World} {r : (List Int) × Bool} {K : Value → World → Prop} (hrd0 : Reads P0 (pInt .i32) (.slice ax0 nx0 qx0) x0) (hrd1 : Reads P1 (pRo (pInt .i8)) (.slice ax1 nx1 qx1) x1) (hc : Ctx w (P0 :: P1 :: Fr)) (hp : ref05_Mix N x0 x1 = some r)
    (k : ∀ (a99 : Option Addr) (n100 : Nat) (q101 : Nat) w', Ctx w' (Own (pInt .i8) 88 (.slice a99 n100 q101) r.1 :: P0 :: P1 :: Fr) → K (.tuple #[.slice a99 n100 q101, .bool r.2]) w') : Calls Tryz.prog 46 #[.slice ax0 nx0 qx0, .slice ax1 nx1 qx1] w (Ret K) := by
 unfold ref05_Mix at hp; refine Center2 F46 M46 rfl rfl ?_; obtain ⟨hn0, _⟩ := Ctx.rdLen hc (k := 0) rfl rfl hrd0; subst hn0; obtain ⟨hn1, _⟩ := Ctx.rdLen hc (k := 1) rfl rfl hrd1; subst hn1; refine Wseq (Wreg ?_); refine az (.slice none 0 0) <| az (.bool false) <| rn (qn (Wseq (Wseq (Wreg ?_)))); refine mz (.slice ax0 x0.length qx0) <| sz (ln rfl U51) ?_; refine mz (.slice ax1 x1.length qx1) <| sz (ln rfl U110) ?_; refine sz (ned rfl rfl) ?_; refine rn (qn ?_); cases hb1 : (decide (((x0.length : Nat) : Int) ≠ ((x1.length : Nat) : Int)))
 · replace hp := gneg hp (of_decide_eq_false hb1); refine Wcf rfl (Wskip (qn (Wseq (Wreg ?_)))); refine az (.slice none 0 0) <| rn (qn (Wseq (Wseq (Wreg ?_)))); refine az (.int .i64 0) <| rn (qn (Wblk ?_)); refine Wloop [4, 5, 7, 16, 17, 18, 19, 20, 21, 22, 23, 24, 25, 26, 27, 28, 29, 30, 31] [7] (fun m vs w' => ∃ j2 : Int, vs = [.int .i64 j2] ∧ ref05_Mix.L1 N x0 x1 m j2 = some r ∧ Ctx w' (P0 :: P1 :: Fr)) N ?_ ?_
   · exact ⟨0, rfl, hp, hc⟩
   · clear hp hc; intro m vs u w3 hJ; obtain ⟨j2, rfl, hp, hc⟩ := hJ; rcases m with _ | m1
     · cases (show none = some r from hp)
     rw [ref05_Mix.L1] at hp; refine Wseq (Wseq (Wreg ?_)); refine mz (.int .i64 j2) <| mz (.slice ax1 x1.length qx1) <| sz (ln rfl U110) <| sz (lt' rfl rfl) <| rn (qn ?_); cases hb4 : (decide (j2 < ((x1.length : Nat) : Int)))
     · replace hp := gneg hp (of_decide_eq_false hb4); refine Wcf rfl (Wexit (qx (qx (be (qn (Wseq (Wseq (Wreg ?_)))))))); refine mz (.slice ax1 x1.length qx1) <| sz (ln rfl U110) ?_; refine sz (eqd rfl rfl) ?_; refine rn (qn ?_); cases hb5 : (decide (((x1.length : Nat) : Int) = 0))
       · replace hp := gneg hp (of_decide_eq_false hb5); refine Wcf rfl (Wskip (qn (Wseq (Wseq (Wreg ?_))))); refine az (.int .i64 0) <| rn (qn (Wblk ?_)); replace hc := hc.nilOwn (pInt .i8) 88; replace hc := Ctx.p2 (Ctx.p2 hc); refine Wloop (6 :: 8 :: 9 :: 10 :: 35 :: 36 :: 37 :: 38 :: 39 :: 40 :: 41 :: 42 :: 43 :: 44 :: 45 :: 46 :: 47 :: 48 :: 49 :: 50 :: 51 :: 52 :: 53 :: 54 :: 55 :: 56 :: 57 :: 58 :: 59 :: 60 :: 61 :: 62 :: 63 :: 64 :: 65 :: 66 :: 67 :: 68 :: 69 :: 70 :: 71 :: []) [6, 8] (fun m vs w' => ∃ j6 : (List Int), ∃ j10 : Int, ∃ a7 : Option Addr, ∃ n8 : Nat, ∃ q9 : Nat, vs = [.slice a7 n8 q9, .int .i64 j10] ∧ ref05_Mix.L2 N x0 x1 m j6 j10 = some r ∧ Ctx w' (P0 :: P1 :: Own (pInt .i8) 88 (.slice a7 n8 q9) j6 :: Fr)) N ?_ ?_
         · exact ⟨[], 0, none, 0, 0, rfl, hp, hc⟩
         · clear hp hc; intro m vs u w11 hJ; obtain ⟨j6, j10, a7, n8, q9, rfl, hp, hc⟩ := hJ; obtain rfl := hc.rz 2 reads_own; rcases m with _ | m2
           · cases (show none = some r from hp)
           rw [ref05_Mix.L2] at hp; refine Wseq (Wseq (Wreg ?_)); refine mz (.int .i64 j10) <| mz (.slice ax1 x1.length qx1) ?_; replace hp := bind_some hp; obtain ⟨y13, hy13, hp⟩ := hp; obtain ⟨b16, o17, u18, hi14, hi15⟩ := Ctx.rdAt hc (k := 1) rfl rfl hrd1 hy13; subst u18; refine sz (ixx rfl rfl U110 Z30 hi14 hi15 rfl) ?_; replace hc := Ctx.rdCell hc (k := 1) rfl rfl hrd1 hy13; obtain ⟨cs19, hc, hcell20⟩ := hc; replace hc := Ctx.holdRo hc; obtain ⟨v24, u21, hc⟩ := hc; subst u21; obtain ⟨a22, q23, u21⟩ := hc.rd (k := 0) rfl rfl reads_ro; subst u21; refine sz (ld rfl G30 (hcell20 0 _ rfl)) ?_; refine sz (ln rfl U30) ?_; refine sz (lt' rfl rfl) ?_; refine rn (qn ?_); cases hb25 : (decide (j10 < ((y13.length : Nat) : Int)))
           · replace hp := gneg hp (of_decide_eq_false hb25); refine Wcf rfl (Wexit (qx (qx (be (qn (Wseq (Wreg ?_))))))); refine mz (.slice a7 j6.length q9) <| az (.slice a7 j6.length q9) <| az (.bool true) <| rn (qn (Wret ?_)); replace hc := Ctx.p2 (Ctx.p1 (Ctx.p1 (Ctx.r0 hc))); obtain rfl := sj hp; refine f2 (v := .slice a7 j6.length q9) (u := .bool true) R46 M46 rfl rfl ?_; exact ⟨_, rfl, k _ _ _ _ hc⟩
           · replace hp := gpos hp (of_decide_eq_true hb25); refine Wct rfl (Wskip (qn (Wseq (Wblk (Wseq (Wreg ?_)))))); refine az (.int .i64 0) <| rn (qn (Wseq (Wseq (Wreg ?_)))); refine az (.int .i64 0) <| rn (qn (Wblk ?_)); replace hc := Ctx.r0 hc; refine Wloop [9, 10, 43, 44, 45, 46, 47, 48, 49, 50, 51, 52, 53, 54, 55, 56, 57, 58, 59, 60, 61, 62, 63, 64] [9, 10] (fun m vs w' => ∃ j26 : Int, ∃ j27 : Int, vs = [.int .i64 j26, .int .i64 j27] ∧ ref05_Mix.L3 N x0 x1 j6 j10 (ref05_Mix.L2 N x0 x1 m2) m j26 j27 = some r ∧ Ctx w' (P0 :: P1 :: oR .i8 88 a7 q9 j6 :: Fr)) N ?_ ?_
             · exact ⟨0, 0, rfl, hp, hc⟩
             · clear hp hc; intro m vs u w28 hJ; obtain ⟨j26, j27, rfl, hp, hc⟩ := hJ; rcases m with _ | m3
               · cases (show none = some r from hp)
               rw [ref05_Mix.L3] at hp; refine Wseq (Wseq (Wreg ?_)); refine mz (.int .i64 j27) <| mz (.slice (some ⟨b16, o17, none⟩) x1.length qx1) <| sz (ln rfl U110) <| sz (lt' rfl rfl) <| rn (qn ?_); cases hb29 : (decide (j27 < ((x1.length : Nat) : Int)))
               · replace hp := gneg hp (of_decide_eq_false hb29); refine Wcf rfl (Wexit (qx (qx (be (qn (Wreg ?_)))))); refine mz (.slice a7 j6.length q9) <| mz (.int .i64 j26) ?_; obtain ⟨r30, hr30, hp⟩ := bind_some hp; refine kz C53 ?_; refine ref01_Shift_any hc hr30 ?_; clear hc; intro w31 hc; obtain ⟨r32, hr32, hp⟩ := bind_some hp; refine kz C51 ?_; refine ref01_Near_any hc hr32 ?_; clear hc; intro w33 hc; refine sz (cvi rfl U2 U88) ?_; refine rsE (Ctx.builtOp (css := [[.int .i8 (IntKind.i8.wrap r32)]]) (xs := ([(IntKind.i8.wrap r32)] : List Int)) (E := (pInt .i8)) (Ctx.holdsC (f := fun x : Int => [.int .i8 x]) (fun _ _ _ => rfl) hc ([(IntKind.i8.wrap r32)] : List Int)) U30 Z88 V88 rfl rfl rfl rfl rfl rfl rfl rfl) rfl ?_; clear hc; rintro _ w35 ⟨a34, rfl, hc⟩; replace hp := bind_some hp; obtain ⟨z36, hz36, hp⟩ := hp; obtain ⟨hg37, e38⟩ := app_some hz36; refine rsE (Ctx.append hc (k := 3) rfl rfl (k2 := 0) rfl rfl reads_own U30 (i := Tryz.t88) rfl rfl rfl rfl rfl rfl rfl rfl hg37) rfl ?_; clear hc; rintro _ w41 ⟨a39, q40, rfl, hc⟩; rw [← e38] at hc ⊢; replace hc := Ctx.n3 hc; refine az (.slice a39 z36.length q40) <| rn (bn (qn (Wreg ?_))); refine mz (.int .i64 j10) <| sz (adw rfl rfl) ?_; refine az (.int .i64 (IntKind.i64.wrap (j10 + 1))) <| rn (qn ?_); replace hc := Ctx.r0 hc; exact ⟨m2, Nat.lt_succ_self _, ⟨z36, (IntKind.i64.wrap (j10 + 1)), a39, z36.length, q40, rfl, hp, hc⟩, (kl rfl (km rfl (kl rfl k0)))⟩
               · replace hp := gpos hp (of_decide_eq_true hb29); refine Wct rfl (Wskip (qn (Wseq (Wblk ?_)))); replace hc := hc.drew; refine Wdrw (fun _ w' => w' = World.drew w28) [0, 0, 0, 6, 14, 30, 0, 0, 192, 448, 0, 1984, 4032, 8128, 16382, 32767, 65535] 0 0 rfl (by kernel_rfl) (fun _ _ => rfl) ?_; generalize hw : World.drew w28 = w42 at *; clear hw; refine dM (.int .i64 j26) rfl rfl rfl ?_; refine dM (.slice ax0 x0.length qx0) rfl rfl rfl ?_; refine dM (.int .i64 j27) rfl rfl rfl ?_; replace hp := bind_some hp; obtain ⟨y43, hy43, hp⟩ := hp; obtain ⟨b46, o47, u48, hi44, hi45⟩ := Ctx.rdAt hc (k := 0) rfl rfl hrd0 hy43; subst u48; refine dE (ixx rfl rfl U51 Z21 hi44 hi45 rfl) rfl rfl ?_; replace hc := Ctx.rdCell hc (k := 0) rfl rfl hrd0 hy43; obtain ⟨cs49, hc, hcell50⟩ := hc; replace hc := Ctx.holdC hc; obtain ⟨u51, hc⟩ := hc; subst u51; refine dE (ld rfl G21 (hcell50 0 _ rfl)) rfl rfl ?_; refine dE (cvi rfl U21 U2) rfl rfl ?_; refine dM (.slice (some ⟨b16, o17, none⟩) x1.length qx1) rfl rfl rfl ?_; refine dM (.int .i64 j27) rfl rfl rfl ?_; replace hp := bind_some hp; obtain ⟨y52, hy52, hp⟩ := hp; obtain ⟨b55, o56, u57, hi53, hi54⟩ := Ctx.rdAt hc (k := 1) rfl rfl hrd1 hy52; clear u57; refine dE (ixx rfl rfl U110 Z30 hi53 hi54 rfl) rfl rfl ?_; replace hc := Ctx.rdCell hc (k := 1) rfl rfl hrd1 hy52; obtain ⟨cs58, hc, hcell59⟩ := hc; replace hc := Ctx.holdRo hc; obtain ⟨v63, u60, hc⟩ := hc; subst u60; obtain ⟨a61, q62, u60⟩ := hc.rd (k := 0) rfl rfl reads_ro; subst u60; refine dE (ld rfl G30 (hcell59 0 _ rfl)) rfl rfl ?_; refine dM (.int .i64 j10) rfl rfl rfl ?_; replace hp := bind_some hp; obtain ⟨y64, hy64, hp⟩ := hp; obtain ⟨b67, o68, u69, hi65, hi66⟩ := Ctx.rdAt hc (k := 0) rfl rfl reads_ro hy64; subst u69; refine dE (ixx rfl rfl U30 Z88 hi65 hi66 rfl) rfl rfl ?_; replace hc := Ctx.rdCell hc (k := 0) rfl rfl reads_ro hy64; obtain ⟨cs70, hc, hcell71⟩ := hc; replace hc := Ctx.holdC hc; obtain ⟨u72, hc⟩ := hc; subst u72; refine dE (ld rfl G88 (hcell71 0 _ rfl)) rfl rfl ?_; refine dE (cvi rfl U88 U2) rfl rfl ?_; refine dE (mlw rfl rfl) rfl rfl ?_; refine dE (adw rfl rfl) rfl rfl ?_; refine dA (.int .i64 (IntKind.i64.wrap (j26 + (IntKind.i64.wrap ((IntKind.i64.wrap y43) * (IntKind.i64.wrap y64)))))) rfl rfl rfl ?_; refine dn (bn (qn (Wreg ?_))); refine mz (.int .i64 j27) <| sz (adw rfl rfl) ?_; refine az (.int .i64 (IntKind.i64.wrap (j27 + 1))) <| rn (qn ?_); replace hc := Ctx.r0 hc; exact ⟨m3, Nat.lt_succ_self _, ⟨(IntKind.i64.wrap (j26 + (IntKind.i64.wrap ((IntKind.i64.wrap y43) * (IntKind.i64.wrap y64))))), (IntKind.i64.wrap (j27 + 1)), rfl, hp, hc⟩, (kl rfl k0)⟩
       · replace hp := gpos hp (of_decide_eq_true hb5); refine Wct rfl (Wseq (Wreg ?_)); refine az (.slice none 0 0) <| az (.bool true) <| rn (qn (Wret (qr ?_))); replace hc := hc.nilOwn (pInt .i8) 88; obtain rfl := sj hp; refine f2 (v := .slice none 0 0) (u := .bool true) R46 M46 rfl rfl ?_; exact ⟨_, rfl, k _ _ _ _ hc⟩
     · replace hp := gpos hp (of_decide_eq_true hb4); refine Wct rfl (Wskip (qn (Wseq (Wblk (Wseq ?_))))); replace hc := hc.drew; refine Wdrw (fun _ w' => w' = World.drew w3) [0, 0, 3, 7, 15, 0, 32, 96, 224, 511] 0 0 rfl (by kernel_rfl) (fun _ _ => rfl) ?_; generalize hw : World.drew w3 = w73 at *; clear hw; refine dM (.slice ax1 x1.length qx1) rfl rfl rfl ?_; refine dM (.int .i64 j2) rfl rfl rfl ?_; replace hp := bind_some hp; obtain ⟨y74, hy74, hp⟩ := hp; obtain ⟨b77, o78, u79, hi75, hi76⟩ := Ctx.rdAt hc (k := 1) rfl rfl hrd1 hy74; subst u79; refine dE (ixx rfl rfl U110 Z30 hi75 hi76 rfl) rfl rfl ?_; replace hc := Ctx.rdCell hc (k := 1) rfl rfl hrd1 hy74; obtain ⟨cs80, hc, hcell81⟩ := hc; replace hc := Ctx.holdRo hc; obtain ⟨v85, u82, hc⟩ := hc; subst u82; obtain ⟨a83, q84, u82⟩ := hc.rd (k := 0) rfl rfl reads_ro; subst u82; refine dE (ld rfl G30 (hcell81 0 _ rfl)) rfl rfl ?_; refine dE (ln rfl U30) rfl rfl ?_; refine dM (.slice (some ⟨b77, o78, none⟩) x1.length qx1) rfl rfl rfl ?_; replace hp := bind_some hp; obtain ⟨y86, hy86, hp⟩ := hp; obtain ⟨b89, o90, u91, hi87, hi88⟩ := Ctx.rdAt hc (k := 2) rfl rfl hrd1 hy86; clear u91; refine dE (ixx rfl rfl U110 Z30 hi87 hi88 rfl) rfl rfl ?_; replace hc := Ctx.rdCell hc (k := 2) rfl rfl hrd1 hy86; obtain ⟨cs92, hc, hcell93⟩ := hc; replace hc := Ctx.holdRo hc; obtain ⟨v97, u94, hc⟩ := hc; subst u94; obtain ⟨a95, q96, u94⟩ := hc.rd (k := 0) rfl rfl reads_ro; subst u94; refine dE (ld rfl G30 (hcell93 0 _ rfl)) rfl rfl ?_; refine dE (ln rfl U30) rfl rfl ?_; refine dE (ned rfl rfl) rfl rfl ?_; refine dn (qn ?_); cases hb98 : (decide (((y74.length : Nat) : Int) ≠ ((y86.length : Nat) : Int)))
       · replace hp := gneg hp (of_decide_eq_false hb98); refine Wcf rfl (Wskip (bn (qn (Wreg ?_)))); refine mz (.int .i64 j2) <| sz (adw rfl rfl) ?_; refine az (.int .i64 (IntKind.i64.wrap (j2 + 1))) <| rn (qn ?_); replace hc := Ctx.r0 (Ctx.r1 hc); exact ⟨m1, Nat.lt_succ_self _, ⟨(IntKind.i64.wrap (j2 + 1)), rfl, hp, hc⟩, (kl rfl k0)⟩
       · replace hp := gpos hp (of_decide_eq_true hb98); refine Wct rfl (Wseq (Wreg ?_)); refine az (.slice none 0 0) <| az (.bool false) <| rn (qn (Wret (br (qr (qr (br (qr ?_))))))); replace hc := hc.nilOwn (pInt .i8) 88; replace hc := Ctx.r1 (Ctx.r2 hc); obtain rfl := sj hp; refine f2 (v := .slice none 0 0) (u := .bool false) R46 M46 rfl rfl ?_; exact ⟨_, rfl, k _ _ _ _ hc⟩
 · replace hp := gpos hp (of_decide_eq_true hb1); refine Wct rfl (Wseq (Wreg ?_)); refine az (.slice none 0 0) <| az (.bool false) <| rn (qn (Wret (qr ?_))); replace hc := hc.nilOwn (pInt .i8) 88; obtain rfl := sj hp; refine f2 (v := .slice none 0 0) (u := .bool false) R46 M46 rfl rfl ?_; exact ⟨_, rfl, k _ _ _ _ hc⟩

def ref05_Join.L1 (N : Nat) (x0 : (List Int)) (x1 : (List Int)) (x2 : Int) (x3 : Int) : Nat → (List Int) → Int → Option ((List Int))
  | 0, _, _ => none
  | m1 + 1, j1, j5 =>
    if j5 < ((x0.length : Nat) : Int) then
      (idx x0 j5).bind fun y10 =>
      (idx x1 j5).bind fun y19 =>
      (ref01_Scale N y19 x2 x3 (-2147483648) 2147483647).bind fun r28 =>
      (ref01_Wrap N ([(IntKind.i64.wrap y10), r28])).bind fun r32 =>
      (app j1 ([r32])).bind fun z36 =>
      (ref05_Join.L1 N x0 x1 x2 x3 m1) z36 (IntKind.i64.wrap (j5 + 1))
    else
      some j1

def ref05_Join (N : Nat) (x0 : (List Int)) (x1 : (List Int)) (x2 : Int) (x3 : Int) : Option ((List Int)) :=
  ref05_Join.L1 N x0 x1 x2 x3 N ([]) 0

theorem ref05_Join_any {N : Nat} {x0 : (List Int)} {ax0 : Option Addr} {nx0 : Nat} {qx0 : Nat} {P0 : HP} {x1 : (List Int)} {ax1 : Option Addr} {nx1 : Nat} {qx1 : Nat} {P1 : HP} {x2 : Int} {x3 : Int} {Fr : List HP} {w : World} {r : (List Int)} {K : Value → World → Prop} (hrd0 : Reads P0 (pInt .i32) (.slice ax0 nx0 qx0) x0) (hrd1 : Reads P1 (pInt .i32) (.slice ax1 nx1 qx1) x1) (hc : Ctx w (P0 :: P1 :: Fr)) (hp : ref05_Join N x0 x1 x2 x3 = some r)
    (k : ∀ (a42 : Option Addr) (n43 : Nat) (q44 : Nat) w', Ctx w' (Own (pInt .i32) 21 (.slice a42 n43 q44) r :: P0 :: P1 :: Fr) → K (.slice a42 n43 q44) w') : Calls Tryz.prog 57 #[.slice ax0 nx0 qx0, .slice ax1 nx1 qx1, .int .i32 x2, .int .i64 x3] w (Ret K) := by
 unfold ref05_Join at hp; refine Center4 F57 M57 rfl rfl ?_; obtain ⟨hn0, _⟩ := Ctx.rdLen hc (k := 0) rfl rfl hrd0; subst hn0; obtain ⟨hn1, _⟩ := Ctx.rdLen hc (k := 1) rfl rfl hrd1; subst hn1; refine Wseq (Wreg ?_); refine az (.slice none 0 0) <| rn (qn (Wseq (Wreg ?_))); refine az (.slice none 0 0) <| rn (qn (Wseq (Wseq (Wreg ?_)))); refine az (.int .i64 0) <| rn (qn (Wblk ?_)); replace hc := hc.nilOwn (pInt .i32) 21; replace hc := Ctx.p2 (Ctx.p2 hc); refine Wloop [9, 10, 11, 12, 13, 14, 15, 16, 17, 18, 19, 20, 21, 22, 23, 24, 25, 26, 27, 28, 29, 30, 31, 32, 33] [9, 10] (fun m vs w' => ∃ j1 : (List Int), ∃ j5 : Int, ∃ a2 : Option Addr, ∃ n3 : Nat, ∃ q4 : Nat, vs = [.slice a2 n3 q4, .int .i64 j5] ∧ ref05_Join.L1 N x0 x1 x2 x3 m j1 j5 = some r ∧ Ctx w' (P0 :: P1 :: Own (pInt .i32) 21 (.slice a2 n3 q4) j1 :: Fr)) N ?_ ?_
 · exact ⟨[], 0, none, 0, 0, rfl, hp, hc⟩
 · clear hp hc; intro m vs u w6 hJ; obtain ⟨j1, j5, a2, n3, q4, rfl, hp, hc⟩ := hJ; obtain rfl := hc.rz 2 reads_own; rcases m with _ | m1
   · cases (show none = some r from hp)
   rw [ref05_Join.L1] at hp; refine Wseq (Wseq (Wreg ?_)); refine mz (.int .i64 j5) <| mz (.slice ax0 x0.length qx0) <| sz (ln rfl U51) <| sz (lt' rfl rfl) <| rn (qn ?_); cases hb8 : (decide (j5 < ((x0.length : Nat) : Int)))
   · replace hp := gneg hp (of_decide_eq_false hb8); refine Wcf rfl (Wexit (qx (qx (be (qn (Wseq (Wreg ?_))))))); refine mz (.slice a2 j1.length q4) <| az (.slice a2 j1.length q4) <| rn (qn (Wret ?_)); replace hc := Ctx.p2 (Ctx.p1 (Ctx.p1 hc)); obtain rfl := sj hp; refine f1 (v := .slice a2 j1.length q4) R57 M57 rfl ?_; exact ⟨_, rfl, k _ _ _ _ hc⟩
   · replace hp := gpos hp (of_decide_eq_true hb8); refine Wct rfl (Wskip (qn (Wseq (Wblk ?_)))); replace hc := hc.drew; refine Wdrw (fun j w' => (j = 4 → PinRow (pInt .i32) ax0 x0 w') ∧ True) [0, 0, 0, 6, 14, 30, 0, 0, 192, 448, 0, 0, 4032, 8190, 16382, 32766, 65535, 131071] 0 512 rfl (by kernel_rfl) (fun j hj => ⟨fun _ => PinRow.of hc (k := 0) rfl rfl hrd0 (fun _ _ _ _ _ _ _ h1 h2 => h1.trans h2.symm), trivial⟩) ?_; generalize hw : World.drew w6 = w9 at *; clear hw; refine dM (.slice a2 j1.length q4) rfl rfl rfl ?_; refine dM (.slice ax0 x0.length qx0) rfl rfl rfl ?_; refine dM (.int .i64 j5) rfl rfl rfl ?_; replace hp := bind_some hp; obtain ⟨y10, hy10, hp⟩ := hp; obtain ⟨b13, o14, u15, hi11, hi12⟩ := Ctx.rdAt hc (k := 0) rfl rfl hrd0 hy10; subst u15; refine ds rfl (fun w' hF => ixx rfl rfl U51 Z21 hi11 hi12 rfl) rfl ?_; replace hc := Ctx.rdCell hc (k := 0) rfl rfl hrd0 hy10; obtain ⟨cs16, hc, hcell17⟩ := hc; replace hc := Ctx.holdC hc; obtain ⟨u18, hc⟩ := hc; subst u18; refine ds rfl (fun w' hF => ld rfl G21 ((hF.1 rfl) _ _ _ _ hy10 rfl w' (fun _ => True) _ rfl 0 _ rfl)) rfl ?_; refine ds rfl (fun w' hF => cvi rfl U21 U2) rfl ?_; refine dM (.slice ax1 x1.length qx1) rfl rfl rfl ?_; refine dM (.int .i64 j5) rfl rfl rfl ?_; replace hp := bind_some hp; obtain ⟨y19, hy19, hp⟩ := hp; obtain ⟨b22, o23, u24, hi20, hi21⟩ := Ctx.rdAt hc (k := 1) rfl rfl hrd1 hy19; subst u24; refine ds rfl (fun w' hF => ixx rfl rfl U51 Z21 hi20 hi21 rfl) rfl ?_; replace hc := Ctx.rdCell hc (k := 1) rfl rfl hrd1 hy19; obtain ⟨cs25, hc, hcell26⟩ := hc; replace hc := Ctx.holdC hc; obtain ⟨u27, hc⟩ := hc; subst u27; refine dx rfl (ld rfl G21 (hcell26 0 _ rfl)) rfl rfl ?_; refine dM (.int .i32 x2) rfl rfl rfl ?_; refine dM (.int .i64 x3) rfl rfl rfl ?_; obtain ⟨r28, hr28, hp⟩ := bind_some hp; refine dc (cl C84 rfl rfl) rfl rfl ?_; refine ref01_Scale_any hc hr28 ?_; clear hc; intro w29 hc; refine ⟨fun j hj hb => ⟨fun _ => PinRow.of hc (k := 0) rfl rfl hrd0 (fun _ _ _ _ _ _ _ h1 h2 => h1.trans h2.symm), trivial⟩, ?_⟩; refine deE (Ctx.builtOp (css := [[.int .i64 (IntKind.i64.wrap y10)], [.int .i64 r28]]) (xs := ([(IntKind.i64.wrap y10), r28] : List Int)) (E := (pInt .i64)) (Ctx.holdsC (f := fun x : Int => [.int .i64 x]) (fun _ _ _ => rfl) hc ([(IntKind.i64.wrap y10), r28] : List Int)) U125 Z2 V2 rfl rfl rfl rfl rfl rfl rfl rfl) rfl rfl ?_; clear hc; rintro _ w31 ⟨a30, rfl, hc⟩; refine ⟨fun j hj hb => ⟨fun e => (by subst e; exact absurd hj (by decide)), trivial⟩, ?_⟩; obtain ⟨r32, hr32, hp⟩ := bind_some hp; refine dc (cl C50 rfl rfl) rfl rfl ?_; refine ref01_Wrap_any reads_own hc hr32 ?_; clear hc; intro w33 hc; refine ⟨fun j hj hb => ⟨fun e => (by subst e; exact absurd hj (by decide)), trivial⟩, ?_⟩; refine deE (Ctx.builtOp (css := [[.int .i32 r32]]) (xs := ([r32] : List Int)) (E := (pInt .i32)) (Ctx.holdsC (f := fun x : Int => [.int .i32 x]) (fun _ _ _ => rfl) hc ([r32] : List Int)) U51 Z21 V21 rfl rfl rfl rfl rfl rfl rfl rfl) rfl rfl ?_; clear hc; rintro _ w35 ⟨a34, rfl, hc⟩; refine ⟨fun j hj hb => ⟨fun e => (by subst e; exact absurd hj (by decide)), trivial⟩, ?_⟩; replace hp := bind_some hp; obtain ⟨z36, hz36, hp⟩ := hp; obtain ⟨hg37, e38⟩ := app_some hz36; refine deE (Ctx.append hc (k := 4) rfl rfl (k2 := 0) rfl rfl reads_own U51 (i := Tryz.t21) rfl rfl rfl rfl rfl rfl rfl rfl hg37) rfl rfl ?_; clear hc; rintro _ w41 ⟨a39, q40, rfl, hc⟩; rw [← e38] at hc ⊢; replace hc := Ctx.n4 hc; refine ⟨fun j hj hb => ⟨fun e => (by subst e; exact absurd hj (by decide)), trivial⟩, ?_⟩; refine dA (.slice a39 z36.length q40) rfl rfl rfl ?_; refine dn (bn (qn (Wreg ?_))); refine mz (.int .i64 j5) <| sz (adw rfl rfl) ?_; refine az (.int .i64 (IntKind.i64.wrap (j5 + 1))) <| rn (qn ?_); replace hc := Ctx.r0 (Ctx.r1 hc); exact ⟨m1, Nat.lt_succ_self _, ⟨z36, (IntKind.i64.wrap (j5 + 1)), a39, z36.length, q40, rfl, hp, hc⟩, (kl rfl k0)⟩

end Go.Proofs.YtbfiagimgokccaaGreat
end
