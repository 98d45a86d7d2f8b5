/- Functions of the program as plain functions, and the proofs that walks compute them. Printed by a program of this session. -/
import Derived.Test.YtjileigclbohdaaT1
namespace Go.Proofs.Ytjileigclbohdaa
open Go Go.RowKit Go.Hp
set_option linter.unusedVariables false
set_option linter.unusedSimpArgs false
set_option maxRecDepth 100000

-- FN peloton/pelotonref16.Same
def ref16_Same (x0 : S_api_Seg) (x1 : S_api_Seg) : Option (Bool) :=
  if x0.Epoch = x1.Epoch then
    if x0.Seq = x1.Seq then
      if x0.Ack = x1.Ack then
        some (decide ((strOfNums x0.Body) = (strOfNums x1.Body)))
      else
        some false
    else
      some false
  else
    some false

set_option maxHeartbeats 8000000 in
theorem ref16_Same_any {x0 : S_api_Seg} {a1 : Option Addr} {n2 : Nat} {q3 : Nat} {x1 : S_api_Seg} {a4 : Option Addr} {n5 : Nat} {q6 : Nat} {Fr : List HP} {w : World} {r : Bool} {K : Value → World → Prop}  (hc : Ctx w (Hold (pRo (pInt .u8)) [.slice a1 n2 q3] x0.Body :: Hold (pRo (pInt .u8)) [.slice a4 n5 q6] x1.Body :: Fr)) (hp : ref16_Same x0 x1 = some r)
    (k : ∀ w', Ctx w' (Fr) → K (.bool r) w') : Calls Try.prog 33 #[.agg #[.int .i64 x0.Epoch, .int .i64 x0.Seq, .int .i64 x0.Ack, .slice a1 n2 q3], .agg #[.int .i64 x1.Epoch, .int .i64 x1.Seq, .int .i64 x1.Ack, .slice a4 n5 q6]] w (Ret K) := by
 unfold ref16_Same at hp
 refine Center (args := [.agg #[.int .i64 x0.Epoch, .int .i64 x0.Seq, .int .i64 x0.Ack, .slice a1 n2 q3], .agg #[.int .i64 x1.Epoch, .int .i64 x1.Seq, .int .i64 x1.Ack, .slice a4 n5 q6]]) (l := [(0, .agg #[.int .i64 x0.Epoch, .int .i64 x0.Seq, .int .i64 x0.Ack, .slice a1 n2 q3]), (1, .agg #[.int .i64 x1.Epoch, .int .i64 x1.Seq, .int .i64 x1.Ack, .slice a4 n5 q6])]) Try.func33 Try.ntmps33 rfl rfl rfl ?_
 obtain ⟨u7, _⟩ := Ctx.rdLen hc (k := 0) rfl rfl reads_ro; subst u7
 obtain ⟨u8, _⟩ := Ctx.rdLen hc (k := 1) rfl rfl reads_ro; subst u8
 refine Wseq ?_
 refine Wreg ?_
 refine rsE (Ctx.boxOp (cs := [.int .i64 x0.Epoch, .int .i64 x0.Seq, .int .i64 x0.Ack, .slice a1 x0.Body.length q3]) (v := .agg #[.int .i64 x0.Epoch, .int .i64 x0.Seq, .int .i64 x0.Ack, .slice a1 x0.Body.length q3]) hc rfl rfl) rfl ?_
 clear hc; rintro _ w11 ⟨b9, rfl, hc⟩
 refine rsE (Ctx.boxOp (cs := [.int .i64 x1.Epoch, .int .i64 x1.Seq, .int .i64 x1.Ack, .slice a4 x1.Body.length q6]) (v := .agg #[.int .i64 x1.Epoch, .int .i64 x1.Seq, .int .i64 x1.Ack, .slice a4 x1.Body.length q6]) hc rfl rfl) rfl ?_
 clear hc; rintro _ w14 ⟨b12, rfl, hc⟩
 refine rs (v := .bool false) (av (v := .bool false) rfl) rfl ?_
 refine rn ?_
 refine qn ?_
 refine Wseq ?_
 refine Wreg ?_
 refine rs (v := .pointer (some ⟨b9, 0, none⟩)) (fax 0 rfl Try.underlying46 rfl Try.sizeOf3 rfl rfl rfl) rfl ?_
 refine rs (v := .int .i64 x0.Epoch) (ld rfl Try.isAgg3 (Ctx.cell hc (k := 1) rfl rfl rfl)) rfl ?_
 refine rs (v := .pointer (some ⟨b12, 0, none⟩)) (fax 0 rfl Try.underlying46 rfl Try.sizeOf3 rfl rfl rfl) rfl ?_
 refine rs (v := .int .i64 x1.Epoch) (ld rfl Try.isAgg3 (Ctx.cell hc (k := 0) rfl rfl rfl)) rfl ?_
 refine rs (v := .bool (decide (x0.Epoch = x1.Epoch))) (eqd rfl rfl) rfl ?_
 refine rs (v := .bool (decide (x0.Epoch = x1.Epoch))) (mv (v := .bool (decide (x0.Epoch = x1.Epoch))) rfl) rfl ?_
 cases hb15 : (decide (x0.Epoch = x1.Epoch))
 · replace hp := gneg hp (of_decide_eq_false hb15)
   refine r0 rfl ?_
   refine r0 rfl ?_
   refine r0 rfl ?_
   refine r0 rfl ?_
   refine r0 rfl ?_
   refine rs (v := .bool false) (pkf (v := .bool false) rfl rfl) rfl ?_
   refine rs (v := .bool false) (mv (v := .bool false) rfl) rfl ?_
   refine r0 rfl ?_
   refine r0 rfl ?_
   refine r0 rfl ?_
   refine r0 rfl ?_
   refine r0 rfl ?_
   refine rs (v := .bool false) (pkf (v := .bool false) rfl rfl) rfl ?_
   refine rs (v := .bool false) (mv (v := .bool false) rfl) rfl ?_
   refine r0 rfl ?_
   refine r0 rfl ?_
   refine r0 rfl ?_
   refine r0 rfl ?_
   refine r0 rfl ?_
   refine r0 rfl ?_
   refine r0 rfl ?_
   refine rs (v := .bool false) (pkf (v := .bool false) rfl rfl) rfl ?_
   refine rs (v := .bool false) (av (v := .bool false) rfl) rfl ?_
   refine rn ?_
   refine qn ?_
   refine Wret ?_
   replace hc := hc.rem 3 rfl rfl
   replace hc := hc.rem 2 rfl rfl
   replace hc := hc.rem 1 rfl rfl
   replace hc := hc.rem 0 rfl rfl
   injection hp with hp; subst hp
   refine f1 (v := .bool false) Try.results33 Try.ntmps33 rfl ?_
   exact ⟨_, rfl, k _ hc⟩
 · replace hp := gpos hp (of_decide_eq_true hb15)
   refine rs (v := .pointer (some ⟨b9, 1, none⟩)) (fax 1 rfl Try.underlying46 rfl Try.sizeOf3 rfl rfl rfl) rfl ?_
   refine rs (v := .int .i64 x0.Seq) (ld rfl Try.isAgg3 (Ctx.cell hc (k := 1) rfl rfl rfl)) rfl ?_
   refine rs (v := .pointer (some ⟨b12, 1, none⟩)) (fax 1 rfl Try.underlying46 rfl Try.sizeOf3 rfl rfl rfl) rfl ?_
   refine rs (v := .int .i64 x1.Seq) (ld rfl Try.isAgg3 (Ctx.cell hc (k := 0) rfl rfl rfl)) rfl ?_
   refine rs (v := .bool (decide (x0.Seq = x1.Seq))) (eqd rfl rfl) rfl ?_
   refine rs (v := .bool (decide (x0.Seq = x1.Seq))) (pkt (v := .bool (decide (x0.Seq = x1.Seq))) rfl rfl) rfl ?_
   refine rs (v := .bool (decide (x0.Seq = x1.Seq))) (mv (v := .bool (decide (x0.Seq = x1.Seq))) rfl) rfl ?_
   cases hb16 : (decide (x0.Seq = x1.Seq))
   · replace hp := gneg hp (of_decide_eq_false hb16)
     refine r0 rfl ?_
     refine r0 rfl ?_
     refine r0 rfl ?_
     refine r0 rfl ?_
     refine r0 rfl ?_
     refine rs (v := .bool false) (pkf (v := .bool false) rfl rfl) rfl ?_
     refine rs (v := .bool false) (mv (v := .bool false) rfl) rfl ?_
     refine r0 rfl ?_
     refine r0 rfl ?_
     refine r0 rfl ?_
     refine r0 rfl ?_
     refine r0 rfl ?_
     refine r0 rfl ?_
     refine r0 rfl ?_
     refine rs (v := .bool false) (pkf (v := .bool false) rfl rfl) rfl ?_
     refine rs (v := .bool false) (av (v := .bool false) rfl) rfl ?_
     refine rn ?_
     refine qn ?_
     refine Wret ?_
     replace hc := hc.rem 3 rfl rfl
     replace hc := hc.rem 2 rfl rfl
     replace hc := hc.rem 1 rfl rfl
     replace hc := hc.rem 0 rfl rfl
     injection hp with hp; subst hp
     refine f1 (v := .bool false) Try.results33 Try.ntmps33 rfl ?_
     exact ⟨_, rfl, k _ hc⟩
   · replace hp := gpos hp (of_decide_eq_true hb16)
     refine rs (v := .pointer (some ⟨b9, 2, none⟩)) (fax 2 rfl Try.underlying46 rfl Try.sizeOf3 rfl rfl rfl) rfl ?_
     refine rs (v := .int .i64 x0.Ack) (ld rfl Try.isAgg3 (Ctx.cell hc (k := 1) rfl rfl rfl)) rfl ?_
     refine rs (v := .pointer (some ⟨b12, 2, none⟩)) (fax 2 rfl Try.underlying46 rfl Try.sizeOf3 rfl rfl rfl) rfl ?_
     refine rs (v := .int .i64 x1.Ack) (ld rfl Try.isAgg3 (Ctx.cell hc (k := 0) rfl rfl rfl)) rfl ?_
     refine rs (v := .bool (decide (x0.Ack = x1.Ack))) (eqd rfl rfl) rfl ?_
     refine rs (v := .bool (decide (x0.Ack = x1.Ack))) (pkt (v := .bool (decide (x0.Ack = x1.Ack))) rfl rfl) rfl ?_
     refine rs (v := .bool (decide (x0.Ack = x1.Ack))) (mv (v := .bool (decide (x0.Ack = x1.Ack))) rfl) rfl ?_
     cases hb17 : (decide (x0.Ack = x1.Ack))
     · replace hp := gneg hp (of_decide_eq_false hb17)
       refine r0 rfl ?_
       refine r0 rfl ?_
       refine r0 rfl ?_
       refine r0 rfl ?_
       refine r0 rfl ?_
       refine r0 rfl ?_
       refine r0 rfl ?_
       refine rs (v := .bool false) (pkf (v := .bool false) rfl rfl) rfl ?_
       refine rs (v := .bool false) (av (v := .bool false) rfl) rfl ?_
       refine rn ?_
       refine qn ?_
       refine Wret ?_
       replace hc := hc.rem 3 rfl rfl
       replace hc := hc.rem 2 rfl rfl
       replace hc := hc.rem 1 rfl rfl
       replace hc := hc.rem 0 rfl rfl
       injection hp with hp; subst hp
       refine f1 (v := .bool false) Try.results33 Try.ntmps33 rfl ?_
       exact ⟨_, rfl, k _ hc⟩
     · replace hp := gpos hp (of_decide_eq_true hb17)
       refine rs (v := .pointer (some ⟨b9, 3, none⟩)) (fax 3 rfl Try.underlying46 rfl Try.sizeOf38 rfl rfl rfl) rfl ?_
       refine rs (v := .slice a1 x0.Body.length q3) (ld rfl Try.isAgg38 (Ctx.cell hc (k := 1) rfl rfl rfl)) rfl ?_
       refine rs (v := .string (strOfNums x0.Body)) (Ctx.b2s hc (k := 2) rfl rfl reads_ro rfl Try.underlying38 Try.underlying5 Try.underlying9) rfl ?_
       refine rs (v := .pointer (some ⟨b12, 3, none⟩)) (fax 3 rfl Try.underlying46 rfl Try.sizeOf38 rfl rfl rfl) rfl ?_
       refine rs (v := .slice a4 x1.Body.length q6) (ld rfl Try.isAgg38 (Ctx.cell hc (k := 0) rfl rfl rfl)) rfl ?_
       refine rs (v := .string (strOfNums x1.Body)) (Ctx.b2s hc (k := 3) rfl rfl reads_ro rfl Try.underlying38 Try.underlying5 Try.underlying9) rfl ?_
       refine rs (v := .bool (decide ((strOfNums x0.Body) = (strOfNums x1.Body)))) (eqstr rfl rfl) rfl ?_
       refine rs (v := .bool (decide ((strOfNums x0.Body) = (strOfNums x1.Body)))) (pkt (v := .bool (decide ((strOfNums x0.Body) = (strOfNums x1.Body)))) rfl rfl) rfl ?_
       refine rs (v := .bool (decide ((strOfNums x0.Body) = (strOfNums x1.Body)))) (av (v := .bool (decide ((strOfNums x0.Body) = (strOfNums x1.Body)))) rfl) rfl ?_
       refine rn ?_
       refine qn ?_
       refine Wret ?_
       replace hc := hc.rem 3 rfl rfl
       replace hc := hc.rem 2 rfl rfl
       replace hc := hc.rem 1 rfl rfl
       replace hc := hc.rem 0 rfl rfl
       injection hp with hp; subst hp
       refine f1 (v := .bool (decide ((strOfNums x0.Body) = (strOfNums x1.Body)))) Try.results33 Try.ntmps33 rfl ?_
       exact ⟨_, rfl, k _ hc⟩

-- FN (*peloton/pelotonref16.Link).find
def ref16_Link_find.L1 (x0 : S_ref16_Link) (x1 : Int) : Nat → Int → Option (Int)
  | 0, _ => none
  | m1 + 1, j5 =>
    if j5 < ((x0.Early.length : Nat) : Int) then
      (idx x0.Early j5).bind fun y8 =>
      if y8.Seq = x1 then
        some j5
      else
        (ref16_Link_find.L1 x0 x1 m1) (IntKind.i64.wrap (j5 + 1))
    else
      some (-1)

def ref16_Link_find (N : Nat) (x0 : S_ref16_Link) (x1 : Int) : Option (Int) :=
  ref16_Link_find.L1 x0 x1 N 0

set_option maxHeartbeats 8000000 in
theorem ref16_Link_find_any {N : Nat} {b0 : Nat} {x0 : S_ref16_Link} {a1 : Option Addr} {q2 : Nat} {a3 : Option Addr} {q4 : Nat} {x1 : Int} {Fr : List HP} {w : World} {r : Int} {K : Value → World → Prop}  (hc : Ctx w (B b0 [.int .i64 x0.Window, .int .i64 x0.Span, .int .i64 x0.Room, .int .i64 x0.Epoch, .int .i64 x0.Next, .int .i64 x0.Acked, .int .i64 x0.Sent, .int .i64 x0.Got, .slice a1 x0.Out.length q2, .slice a3 x0.Early.length q4, .bool x0.Owes] 61 :: Own S_ref16_Body.pr 88 (.slice a1 x0.Out.length q2) x0.Out :: Own S_ref16_Early.pr 91 (.slice a3 x0.Early.length q4) x0.Early :: Fr)) (hp : ref16_Link_find N x0 x1 = some r)
    (k : ∀ w', Ctx w' (B b0 [.int .i64 x0.Window, .int .i64 x0.Span, .int .i64 x0.Room, .int .i64 x0.Epoch, .int .i64 x0.Next, .int .i64 x0.Acked, .int .i64 x0.Sent, .int .i64 x0.Got, .slice a1 x0.Out.length q2, .slice a3 x0.Early.length q4, .bool x0.Owes] 61 :: Own S_ref16_Body.pr 88 (.slice a1 x0.Out.length q2) x0.Out :: Own S_ref16_Early.pr 91 (.slice a3 x0.Early.length q4) x0.Early :: Fr) → K (.int .i64 r) w') : Calls Try.prog 34 #[.pointer (some ⟨b0, 0, none⟩), .int .i64 x1] w (Ret K) := by
 unfold ref16_Link_find at hp
 refine Center (args := [.pointer (some ⟨b0, 0, none⟩), .int .i64 x1]) (l := [(0, .pointer (some ⟨b0, 0, none⟩)), (1, .int .i64 x1)]) Try.func34 Try.ntmps34 rfl rfl rfl ?_
 refine Wseq ?_
 refine Wreg ?_
 refine rs (v := .int .i64 0) (av (v := .int .i64 0) rfl) rfl ?_
 refine rn ?_
 refine qn ?_
 refine Wseq ?_
 refine Wseq ?_
 refine Wreg ?_
 refine rs (v := .int .i64 0) (av (v := .int .i64 0) rfl) rfl ?_
 refine rn ?_
 refine qn ?_
 refine Wblk ?_
 refine Wloop [4, 5, 6, 7, 8, 9, 10, 11, 12, 13, 14, 15, 16, 17, 18, 19, 20, 21, 22, 23, 24, 25] [5] (fun m vs w' => ∃ j5 : Int, vs = [.int .i64 j5] ∧ ref16_Link_find.L1 x0 x1 m j5 = some r ∧ Ctx w' (B b0 [.int .i64 x0.Window, .int .i64 x0.Span, .int .i64 x0.Room, .int .i64 x0.Epoch, .int .i64 x0.Next, .int .i64 x0.Acked, .int .i64 x0.Sent, .int .i64 x0.Got, .slice a1 x0.Out.length q2, .slice a3 x0.Early.length q4, .bool x0.Owes] 61 :: Own S_ref16_Body.pr 88 (.slice a1 x0.Out.length q2) x0.Out :: Own S_ref16_Early.pr 91 (.slice a3 x0.Early.length q4) x0.Early :: Fr)) N ?_ ?_
 · exact ⟨0, rfl, hp, hc⟩
 · clear hp hc; intro m vs u w6 hJ
   obtain ⟨j5, rfl, hp, hc⟩ := hJ
   rcases m with _ | m1
   · cases (show none = some r from hp)
   rw [ref16_Link_find.L1] at hp
   refine Wseq ?_
   refine Wseq ?_
   refine Wreg ?_
   refine rs (v := .int .i64 j5) (mv (v := .int .i64 j5) rfl) rfl ?_
   refine rs (v := .pointer (some ⟨b0, 0, none⟩)) (mv (v := .pointer (some ⟨b0, 0, none⟩)) rfl) rfl ?_
   refine rs (v := .pointer (some ⟨b0, 0, none⟩)) (nl rfl) rfl ?_
   refine rs (v := .pointer (some ⟨b0, 9, none⟩)) (fax 9 rfl Try.underlying61 rfl Try.sizeOf59 rfl rfl rfl) rfl ?_
   refine rs (v := .slice a3 x0.Early.length q4) (ld rfl Try.isAgg59 (Ctx.cell hc (k := 0) rfl rfl rfl)) rfl ?_
   refine rs (v := .int .i64 ((x0.Early.length : Nat) : Int)) (ln rfl Try.underlying59) rfl ?_
   refine rs (v := .bool (decide (j5 < ((x0.Early.length : Nat) : Int)))) (lt' rfl rfl) rfl ?_
   refine rn ?_
   refine qn ?_
   cases hb7 : (decide (j5 < ((x0.Early.length : Nat) : Int)))
   · replace hp := gneg hp (of_decide_eq_false hb7)
     refine Wcf rfl ?_
     refine Wexit ?_
     refine qx ?_
     refine qx ?_
     refine be ?_
     refine qn ?_
     refine Wseq ?_
     refine Wreg ?_
     refine rs (v := .int .i64 (-1)) (av (v := .int .i64 (-1)) rfl) rfl ?_
     refine rn ?_
     refine qn ?_
     refine Wret ?_
     injection hp with hp; subst hp
     refine f1 (v := .int .i64 (-1)) Try.results34 Try.ntmps34 rfl ?_
     exact ⟨_, rfl, k _ hc⟩
   · replace hp := gpos hp (of_decide_eq_true hb7)
     refine Wct rfl ?_
     refine Wskip ?_
     refine qn ?_
     refine Wseq ?_
     refine Wblk ?_
     refine Wseq ?_
     refine Wreg ?_
     refine rs (v := .pointer (some ⟨b0, 0, none⟩)) (mv (v := .pointer (some ⟨b0, 0, none⟩)) rfl) rfl ?_
     refine rs (v := .pointer (some ⟨b0, 0, none⟩)) (nl rfl) rfl ?_
     refine rs (v := .pointer (some ⟨b0, 9, none⟩)) (fax 9 rfl Try.underlying61 rfl Try.sizeOf59 rfl rfl rfl) rfl ?_
     refine rs (v := .slice a3 x0.Early.length q4) (ld rfl Try.isAgg59 (Ctx.cell hc (k := 0) rfl rfl rfl)) rfl ?_
     refine rs (v := .int .i64 j5) (mv (v := .int .i64 j5) rfl) rfl ?_
     replace hp := bind_some hp; obtain ⟨y8, hy8, hp⟩ := hp
     obtain ⟨b11, o12, u13, hi9, hi10⟩ := Ctx.rdAt hc (k := 2) rfl rfl reads_own hy8
     subst u13
     refine rs (v := .pointer (some ⟨b11, o12 + (j5).toNat * 2, none⟩)) (ixx rfl rfl Try.underlying59 Try.sizeOf91 hi9 hi10 rfl) rfl ?_
     refine rs (v := .pointer (some ⟨b11, o12 + (j5).toNat * 2 + 0, none⟩)) (fax 0 rfl Try.underlying91 rfl Try.sizeOf3 rfl rfl rfl) rfl ?_
     replace hc := Ctx.rdCell hc (k := 2) rfl rfl reads_own hy8; obtain ⟨cs14, hc, hcell15⟩ := hc
     replace hc := S_ref16_Early.op hc; obtain ⟨a17, q18, u16, hc⟩ := hc; subst u16
     refine rs (v := .int .i64 y8.Seq) (ld rfl Try.isAgg3 (hcell15 0 _ rfl)) rfl ?_
     refine rs (v := .int .i64 x1) (mv (v := .int .i64 x1) rfl) rfl ?_
     refine rs (v := .bool (decide (y8.Seq = x1))) (eqd rfl rfl) rfl ?_
     refine rn ?_
     refine qn ?_
     cases hb19 : (decide (y8.Seq = x1))
     · replace hp := gneg hp (of_decide_eq_false hb19)
       refine Wcf rfl ?_
       refine Wskip ?_
       refine bn ?_
       refine qn ?_
       refine Wreg ?_
       refine rs (v := .int .i64 j5) (mv (v := .int .i64 j5) rfl) rfl ?_
       refine rs (v := .int .i64 (IntKind.i64.wrap (j5 + 1))) (adw rfl rfl) rfl ?_
       refine rs (v := .int .i64 (IntKind.i64.wrap (j5 + 1))) (av (v := .int .i64 (IntKind.i64.wrap (j5 + 1))) rfl) rfl ?_
       refine rn ?_
       refine qn ?_
       replace hc := hc.rem 0 rfl rfl
       exact ⟨m1, Nat.lt_succ_self _, ⟨(IntKind.i64.wrap (j5 + 1)), rfl, hp, hc⟩, (kl rfl k0)⟩
     · replace hp := gpos hp (of_decide_eq_true hb19)
       refine Wct rfl ?_
       refine Wseq ?_
       refine Wreg ?_
       refine rs (v := .int .i64 j5) (mv (v := .int .i64 j5) rfl) rfl ?_
       refine rs (v := .int .i64 j5) (av (v := .int .i64 j5) rfl) rfl ?_
       refine rn ?_
       refine qn ?_
       refine Wret ?_
       refine br ?_
       refine qr ?_
       refine qr ?_
       refine br ?_
       refine qr ?_
       replace hc := hc.rem 0 rfl rfl
       injection hp with hp; subst hp
       refine f1 (v := .int .i64 j5) Try.results34 Try.ntmps34 rfl ?_
       exact ⟨_, rfl, k _ hc⟩

-- FN (*peloton/pelotonref16.Link).Send
theorem bd_88_0_1_2 {ρ : Operand → Value} {w : World} {dst : Option Nat} {ty : TypeId} {pos : String} {after : Array Edge} {g : Option (Nat × Bool)} {x0 x1 x2 : Operand} {k0 : IntKind} {a0 : Int} {k1 : IntKind} {a1 : Int} {a2 : Option Addr} {l2 c2 : Nat} (h0 : ρ x0 = (.int k0 a0)) (h1 : ρ x1 = (.int k1 a1)) (h2 : ρ x2 = (.slice a2 l2 c2)) :
    (execOp ρ ⟨dst, .build 88 #[(0, x0), (1, x1), (2, x2)], ty, pos, after, g⟩).run Try.prog w = .ok (.value (.agg #[(.int k0 a0), (.int k1 a1), (.slice a2 l2 c2)])) w := by
  simp [execOp, Instr.build, Instr.fill, Try.zeroValue88, Try.runUnderlying88, Try.sizeOf3, Try.sizeOf38, h0, h1, h2, Value.cells]

def ref16_Link_Send.L2 (x1 : (List (List Int))) : Nat → S_ref16_Link → Int → Option (Int × S_ref16_Link)
  | 0, _, _ => none
  | m2 + 1, j14, j15 =>
    if j15 < ((x1.length : Nat) : Int) then
      (idx x1 j15).bind fun y27 =>
      (app ([]) y27).bind fun z41 =>
      (app j14.Out ([(⟨(IntKind.i64.wrap (j14.Next + 1)), (-1), z41⟩ : S_ref16_Body)])).bind fun z49 =>
      (ref16_Link_Send.L2 x1 m2) (⟨j14.Window, j14.Span, j14.Room, j14.Epoch, (IntKind.i64.wrap (j14.Next + 1)), j14.Acked, j14.Sent, j14.Got, z49, j14.Early, j14.Owes⟩ : S_ref16_Link) (IntKind.i64.wrap (j15 + 1))
    else
      some (0, j14)

def ref16_Link_Send.L1 (N : Nat) (x0 : S_ref16_Link) (x1 : (List (List Int))) : Nat → Int → Option (Int × S_ref16_Link)
  | 0, _ => none
  | m1 + 1, j1 =>
    if j1 < ((x1.length : Nat) : Int) then
      (idx x1 j1).bind fun y56 =>
      if ((y56.length : Nat) : Int) > 65536 then
        some (140, x0)
      else
        (ref16_Link_Send.L1 N x0 x1 m1) (IntKind.i64.wrap (j1 + 1))
    else
      if (IntKind.i64.wrap (((x0.Out.length : Nat) : Int) + ((x1.length : Nat) : Int))) > x0.Room then
        some (80, x0)
      else
        ref16_Link_Send.L2 x1 N x0 0

def ref16_Link_Send (N : Nat) (x0 : S_ref16_Link) (x1 : (List (List Int))) : Option (Int × S_ref16_Link) :=
  ref16_Link_Send.L1 N x0 x1 N 0

set_option maxHeartbeats 8000000 in
theorem ref16_Link_Send_any {N : Nat} {b0 : Nat} {x0 : S_ref16_Link} {x1 : (List (List Int))} {ax1 : Option Addr} {nx1 : Nat} {qx1 : Nat} {P1 : HP} {Fr : List HP} {w : World} {r : Int × S_ref16_Link} {K : Value → World → Prop} (hrd1 : Reads P1 (pRo (pInt .u8)) (.slice ax1 nx1 qx1) x1) (hc : Ctx w (S_ref16_Link.hp b0 x0 :: P1 :: Fr)) (hp : ref16_Link_Send N x0 x1 = some r)
    (k : ∀ w', Ctx w' (S_ref16_Link.hp b0 r.2 :: P1 :: Fr) → K (.int .i64 r.1) w') : Calls Try.prog 18 #[.pointer (some ⟨b0, 0, none⟩), .slice ax1 nx1 qx1] w (Ret K) := by
 unfold ref16_Link_Send at hp
 refine Center (args := [.pointer (some ⟨b0, 0, none⟩), .slice ax1 nx1 qx1]) (l := [(0, .pointer (some ⟨b0, 0, none⟩)), (1, .slice ax1 nx1 qx1)]) Try.func18 Try.ntmps18 rfl rfl rfl ?_
 obtain ⟨hn1, _⟩ := Ctx.rdLen hc (k := 1) rfl rfl hrd1; subst hn1
 refine Wseq ?_
 refine Wreg ?_
 refine rs (v := .int .i64 0) (av (v := .int .i64 0) rfl) rfl ?_
 refine rn ?_
 refine qn ?_
 refine Wseq ?_
 refine Wseq ?_
 refine Wreg ?_
 refine rs (v := .int .i64 0) (av (v := .int .i64 0) rfl) rfl ?_
 refine rn ?_
 refine qn ?_
 refine Wblk ?_
 refine Wloop [4, 5, 7, 8, 9, 10, 11, 12, 13, 14, 15, 16, 17, 18] [5] (fun m vs w' => ∃ j1 : Int, vs = [.int .i64 j1] ∧ ref16_Link_Send.L1 N x0 x1 m j1 = some r ∧ Ctx w' (S_ref16_Link.hp b0 x0 :: P1 :: Fr)) N ?_ ?_
 · exact ⟨0, rfl, hp, hc⟩
 · clear hp hc; intro m vs u w2 hJ
   obtain ⟨j1, rfl, hp, hc⟩ := hJ
   rcases m with _ | m1
   · cases (show none = some r from hp)
   rw [ref16_Link_Send.L1] at hp
   refine Wseq ?_
   refine Wseq ?_
   refine Wreg ?_
   refine rs (v := .int .i64 j1) (mv (v := .int .i64 j1) rfl) rfl ?_
   refine rs (v := .slice ax1 x1.length qx1) (mv (v := .slice ax1 x1.length qx1) rfl) rfl ?_
   refine rs (v := .int .i64 ((x1.length : Nat) : Int)) (ln rfl Try.underlying51) rfl ?_
   refine rs (v := .bool (decide (j1 < ((x1.length : Nat) : Int)))) (lt' rfl rfl) rfl ?_
   refine rn ?_
   refine qn ?_
   cases hb3 : (decide (j1 < ((x1.length : Nat) : Int)))
   · replace hp := gneg hp (of_decide_eq_false hb3)
     refine Wcf rfl ?_
     refine Wexit ?_
     refine qx ?_
     refine qx ?_
     refine be ?_
     refine qn ?_
     refine Wseq ?_
     refine Wseq ?_
     replace hc := Ctx.exF hc; obtain ⟨v4, hc⟩ := hc
     replace hc := Ctx.exF hc; obtain ⟨v5, hc⟩ := hc
     replace hc := Ctx.sepF hc
     replace hc := Ctx.sepF hc
     obtain ⟨a6, q7, u8⟩ := hc.rd (k := 1) rfl rfl reads_own; subst u8
     obtain ⟨a9, q10, u11⟩ := hc.rd (k := 2) rfl rfl reads_own; subst u11
     replace hc := hc.drew
     refine Wdrw (fun _ w' => w' = World.drew w2) [0, 1, 3, 7, 15, 0, 32, 127, 0, 256, 768, 1792, 4095] 0 0 rfl (by kernel_rfl) (fun _ _ => rfl) ?_
     generalize hw : World.drew w2 = w12 at *
     clear hw
     refine ds (v := .pointer (some ⟨b0, 0, none⟩)) rfl (fun w' hF => by subst hF; exact mv (v := .pointer (some ⟨b0, 0, none⟩)) rfl) rfl ?_
     refine ds (v := .pointer (some ⟨b0, 0, none⟩)) rfl (fun w' hF => by subst hF; exact nl rfl) rfl ?_
     refine ds (v := .pointer (some ⟨b0, 8, none⟩)) rfl (fun w' hF => by subst hF; exact fax 8 rfl Try.underlying61 rfl Try.sizeOf58 rfl rfl rfl) rfl ?_
     refine ds (v := .slice a6 x0.Out.length q7) rfl (fun w' hF => by subst hF; exact ld rfl Try.isAgg58 (Ctx.cell hc (k := 0) rfl rfl rfl)) rfl ?_
     refine ds (v := .int .i64 ((x0.Out.length : Nat) : Int)) rfl (fun w' hF => by subst hF; exact ln rfl Try.underlying58) rfl ?_
     refine ds (v := .slice ax1 x1.length qx1) rfl (fun w' hF => by subst hF; exact mv (v := .slice ax1 x1.length qx1) rfl) rfl ?_
     refine ds (v := .int .i64 ((x1.length : Nat) : Int)) rfl (fun w' hF => by subst hF; exact ln rfl Try.underlying51) rfl ?_
     refine ds (v := .int .i64 (IntKind.i64.wrap (((x0.Out.length : Nat) : Int) + ((x1.length : Nat) : Int)))) rfl (fun w' hF => by subst hF; exact adw rfl rfl) rfl ?_
     refine ds (v := .pointer (some ⟨b0, 0, none⟩)) rfl (fun w' hF => by subst hF; exact mv (v := .pointer (some ⟨b0, 0, none⟩)) rfl) rfl ?_
     refine ds (v := .pointer (some ⟨b0, 0, none⟩)) rfl (fun w' hF => by subst hF; exact nl rfl) rfl ?_
     refine ds (v := .pointer (some ⟨b0, 2, none⟩)) rfl (fun w' hF => by subst hF; exact fax 2 rfl Try.underlying61 rfl Try.sizeOf3 rfl rfl rfl) rfl ?_
     refine ds (v := .int .i64 x0.Room) rfl (fun w' hF => by subst hF; exact ld rfl Try.isAgg3 (Ctx.cell hc (k := 0) rfl rfl rfl)) rfl ?_
     refine ds (v := .bool (decide ((IntKind.i64.wrap (((x0.Out.length : Nat) : Int) + ((x1.length : Nat) : Int))) > x0.Room))) rfl (fun w' hF => by subst hF; exact gt' rfl rfl) rfl ?_
     refine dn ?_
     refine qn ?_
     cases hb13 : (decide ((IntKind.i64.wrap (((x0.Out.length : Nat) : Int) + ((x1.length : Nat) : Int))) > x0.Room))
     · replace hp := gneg hp (of_decide_eq_false hb13)
       refine Wcf rfl ?_
       refine Wskip ?_
       refine qn ?_
       refine Wseq ?_
       refine Wseq ?_
       refine Wreg ?_
       refine rs (v := .int .i64 0) (av (v := .int .i64 0) rfl) rfl ?_
       refine rn ?_
       refine qn ?_
       refine Wblk ?_
       replace hc := hc.pull 2 rfl rfl
       replace hc := hc.pull 2 rfl rfl
       replace hc := hc.pull 2 rfl rfl
       replace hc : Ctx w12 (S_ref16_Link.hp b0 x0 :: P1 :: Fr) := Ctx.exB _ _ (Ctx.exB _ _ (Ctx.sepB (Ctx.sepB hc)))
       refine Wloop (6 :: 32 :: 33 :: 34 :: 35 :: 36 :: 37 :: 38 :: 39 :: 40 :: 41 :: 42 :: 43 :: 44 :: 45 :: 46 :: 47 :: 48 :: 49 :: 50 :: 51 :: 52 :: 53 :: 54 :: 55 :: 56 :: 57 :: 58 :: 59 :: 60 :: 61 :: 62 :: 63 :: 64 :: 65 :: []) [6] (fun m vs w' => ∃ j14 : S_ref16_Link, ∃ j15 : Int, vs = [.int .i64 j15] ∧ ref16_Link_Send.L2 x1 m j14 j15 = some r ∧ Ctx w' (S_ref16_Link.hp b0 j14 :: P1 :: Fr)) N ?_ ?_
       · exact ⟨x0, 0, rfl, hp, hc⟩
       · clear hp hc; intro m vs u w16 hJ
         obtain ⟨j14, j15, rfl, hp, hc⟩ := hJ
         rcases m with _ | m2
         · cases (show none = some r from hp)
         rw [ref16_Link_Send.L2] at hp
         refine Wseq ?_
         refine Wseq ?_
         refine Wreg ?_
         refine rs (v := .int .i64 j15) (mv (v := .int .i64 j15) rfl) rfl ?_
         refine rs (v := .slice ax1 x1.length qx1) (mv (v := .slice ax1 x1.length qx1) rfl) rfl ?_
         refine rs (v := .int .i64 ((x1.length : Nat) : Int)) (ln rfl Try.underlying51) rfl ?_
         refine rs (v := .bool (decide (j15 < ((x1.length : Nat) : Int)))) (lt' rfl rfl) rfl ?_
         refine rn ?_
         refine qn ?_
         cases hb17 : (decide (j15 < ((x1.length : Nat) : Int)))
         · replace hp := gneg hp (of_decide_eq_false hb17)
           refine Wcf rfl ?_
           refine Wexit ?_
           refine qx ?_
           refine qx ?_
           refine be ?_
           refine qn ?_
           refine Wseq ?_
           refine Wreg ?_
           refine rs (v := .int .i64 0) (av (v := .int .i64 0) rfl) rfl ?_
           refine rn ?_
           refine qn ?_
           refine Wret ?_
           injection hp with hp; subst hp
           refine f1 (v := .int .i64 0) Try.results18 Try.ntmps18 rfl ?_
           exact ⟨_, rfl, k _ hc⟩
         · replace hp := gpos hp (of_decide_eq_true hb17)
           refine Wct rfl ?_
           refine Wskip ?_
           refine qn ?_
           refine Wseq ?_
           refine Wblk ?_
           refine Wseq ?_
           refine Wreg ?_
           refine rs (v := .pointer (some ⟨b0, 0, none⟩)) (mv (v := .pointer (some ⟨b0, 0, none⟩)) rfl) rfl ?_
           refine rs (v := .pointer (some ⟨b0, 0, none⟩)) (mv (v := .pointer (some ⟨b0, 0, none⟩)) rfl) rfl ?_
           refine rs (v := .pointer (some ⟨b0, 0, none⟩)) (nl rfl) rfl ?_
           refine rs (v := .pointer (some ⟨b0, 4, none⟩)) (fax 4 rfl Try.underlying61 rfl Try.sizeOf3 rfl rfl rfl) rfl ?_
           replace hc := Ctx.exF hc; obtain ⟨v18, hc⟩ := hc
           replace hc := Ctx.exF hc; obtain ⟨v19, hc⟩ := hc
           replace hc := Ctx.sepF hc
           replace hc := Ctx.sepF hc
           obtain ⟨a20, q21, u22⟩ := hc.rd (k := 1) rfl rfl reads_own; subst u22
           obtain ⟨a23, q24, u25⟩ := hc.rd (k := 2) rfl rfl reads_own; subst u25
           refine rs (v := .int .i64 j14.Next) (ld rfl Try.isAgg3 (Ctx.cell hc (k := 0) rfl rfl rfl)) rfl ?_
           refine rs (v := .int .i64 (IntKind.i64.wrap (j14.Next + 1))) (adw rfl rfl) rfl ?_
           refine rs (v := .pointer (some ⟨b0, 0, none⟩)) (nl rfl) rfl ?_
           refine rs (v := .pointer (some ⟨b0, 4, none⟩)) (fax 4 rfl Try.underlying61 rfl Try.sizeOf3 rfl rfl rfl) rfl ?_
           refine ruE (A := fun w' => Ctx w' (B b0 [.int .i64 j14.Window, .int .i64 j14.Span, .int .i64 j14.Room, .int .i64 j14.Epoch, .int .i64 (IntKind.i64.wrap (j14.Next + 1)), .int .i64 j14.Acked, .int .i64 j14.Sent, .int .i64 j14.Got, .slice a20 j14.Out.length q21, .slice a23 j14.Early.length q24, .bool j14.Owes] 61 :: Own S_ref16_Body.pr 88 (.slice a20 j14.Out.length q21) j14.Out :: Own S_ref16_Early.pr 91 (.slice a23 j14.Early.length q24) j14.Early :: P1 :: Fr)) (Ctx.putOp hc (k := 0) rfl rfl (v := .int .i64 (IntKind.i64.wrap (j14.Next + 1))) rfl rfl rfl Try.sizeOf3 rfl rfl rfl) rfl ?_
           clear hc; rintro w26 hc
           refine rn ?_
           refine qn ?_
           replace hp := bind_some hp; obtain ⟨y27, hy27, hp⟩ := hp
           obtain ⟨b28, o29, u30, hi31, hi32⟩ := Ctx.rdAt hc (k := 3) rfl rfl hrd1 hy27
           subst u30
           replace hc := Ctx.pnAt hc (k := 3) rfl rfl hrd1 hy27; obtain ⟨cs33, hc⟩ := hc
           replace hc := Ctx.holdRo hc; obtain ⟨v37, u34, hc⟩ := hc; subst u34
           obtain ⟨a35, q36, u34⟩ := hc.rd (k := 0) rfl rfl reads_ro; subst u34
           replace hc : Ctx w26 (Hold (pRo (pInt .u8)) [.slice a35 y27.length q36] y27 :: B b0 [.int .i64 j14.Window, .int .i64 j14.Span, .int .i64 j14.Room, .int .i64 j14.Epoch, .int .i64 (IntKind.i64.wrap (j14.Next + 1)), .int .i64 j14.Acked, .int .i64 j14.Sent, .int .i64 j14.Got, .slice a20 j14.Out.length q21, .slice a23 j14.Early.length q24, .bool j14.Owes] 61 :: Own S_ref16_Body.pr 88 (.slice a20 j14.Out.length q21) j14.Out :: Own S_ref16_Early.pr 91 (.slice a23 j14.Early.length q24) j14.Early :: Pn (P1) b28 (o29 + (j15).toNat * 1) [.slice a35 y27.length q36] :: Fr) := hc
           replace hc := hc.drew
           have hF : ∀ j, free [0, 0, 2, 6, 14, 0, 32, 96, 224, 0, 0, 0, 3072, 7168, 15872, 32736, 65504, 131070, 262143, 524287, 1048575] 0 j = true → (fun j w' => (j = 4 → w'.cell? ⟨b0, 8, none⟩ = some (.slice a20 j14.Out.length q21)) ∧ (j = 8 → w'.cell? ⟨b0, 4, none⟩ = some (.int .i64 (IntKind.i64.wrap (j14.Next + 1)))) ∧ (j = 13 → w'.cell? ⟨b28, o29 + (j15).toNat * 1 + 0, none⟩ = some (.slice a35 y27.length q36)) ∧ True) j (World.drew w26) := fun j hj => ⟨fun _ => hc.cell (k := 1) rfl rfl rfl, fun _ => hc.cell (k := 1) rfl rfl rfl, fun _ => Ctx.pnCell hc (k := 4) rfl rfl (fun _ _ _ h => h) 0 _ rfl, trivial⟩
           refine Wdrw (fun j w' => (j = 4 → w'.cell? ⟨b0, 8, none⟩ = some (.slice a20 j14.Out.length q21)) ∧ (j = 8 → w'.cell? ⟨b0, 4, none⟩ = some (.int .i64 (IntKind.i64.wrap (j14.Next + 1)))) ∧ (j = 13 → w'.cell? ⟨b28, o29 + (j15).toNat * 1 + 0, none⟩ = some (.slice a35 y27.length q36)) ∧ True) [0, 0, 2, 6, 14, 0, 32, 96, 224, 0, 0, 0, 3072, 7168, 15872, 32736, 65504, 131070, 262143, 524287, 1048575] 0 0 rfl (by kernel_rfl) (hF) ?_
           generalize hw : World.drew w26 = w38 at *
           clear hw
           refine ds (v := .pointer (some ⟨b0, 0, none⟩)) rfl (fun w' hF => mv (v := .pointer (some ⟨b0, 0, none⟩)) rfl) rfl ?_
           refine ds (v := .pointer (some ⟨b0, 0, none⟩)) rfl (fun w' hF => mv (v := .pointer (some ⟨b0, 0, none⟩)) rfl) rfl ?_
           refine ds (v := .pointer (some ⟨b0, 0, none⟩)) rfl (fun w' hF => nl rfl) rfl ?_
           refine ds (v := .pointer (some ⟨b0, 8, none⟩)) rfl (fun w' hF => fax 8 rfl Try.underlying61 rfl Try.sizeOf58 rfl rfl rfl) rfl ?_
           refine ds (v := .slice a20 j14.Out.length q21) rfl (fun w' hF => ld rfl Try.isAgg58 ((hF.1 rfl))) rfl ?_
           refine ds (v := .pointer (some ⟨b0, 0, none⟩)) rfl (fun w' hF => mv (v := .pointer (some ⟨b0, 0, none⟩)) rfl) rfl ?_
           refine ds (v := .pointer (some ⟨b0, 0, none⟩)) rfl (fun w' hF => nl rfl) rfl ?_
           refine ds (v := .pointer (some ⟨b0, 4, none⟩)) rfl (fun w' hF => fax 4 rfl Try.underlying61 rfl Try.sizeOf3 rfl rfl rfl) rfl ?_
           refine ds (v := .int .i64 (IntKind.i64.wrap (j14.Next + 1))) rfl (fun w' hF => ld rfl Try.isAgg3 ((hF.2.1 rfl))) rfl ?_
           refine deE (Ctx.builtOp (css := []) (xs := ([] : List Int)) (E := (pInt .u8)) hc Try.underlying38 Try.sizeOf5 Try.zeroValue5 rfl rfl rfl rfl rfl rfl rfl rfl) rfl rfl ?_
           clear hc; rintro _ w40 ⟨a39, rfl, hc⟩
           refine ⟨fun j hj hb => ⟨fun _ => hc.cell (k := 2) rfl rfl rfl, fun _ => hc.cell (k := 2) rfl rfl rfl, fun _ => Ctx.pnCell hc (k := 5) rfl rfl (fun _ _ _ h => h) 0 _ rfl, trivial⟩, ?_⟩
           refine ds (v := .slice (some ⟨b28, o29, none⟩) x1.length qx1) rfl (fun w' hF => mv (v := .slice (some ⟨b28, o29, none⟩) x1.length qx1) rfl) rfl ?_
           refine ds (v := .int .i64 j15) rfl (fun w' hF => mv (v := .int .i64 j15) rfl) rfl ?_
           refine ds (v := .pointer (some ⟨b28, o29 + (j15).toNat * 1, none⟩)) rfl (fun w' hF => ixx rfl rfl Try.underlying51 Try.sizeOf38 hi31 hi32 rfl) rfl ?_
           refine ds (v := .slice a35 y27.length q36) rfl (fun w' hF => ld rfl Try.isAgg38 ((hF.2.2.1 rfl))) rfl ?_
           replace hp := bind_some hp; obtain ⟨z41, hz41, hp⟩ := hp
           obtain ⟨hg42, e43⟩ := app_some hz41
           refine deE (Ctx.append hc (k := 0) rfl rfl (k2 := 1) rfl rfl reads_ro Try.underlying38 (i := Try.t5) rfl rfl rfl rfl rfl rfl rfl rfl hg42) rfl rfl ?_
           clear hc; rintro _ w46 ⟨a44, q45, rfl, hc⟩
           rw [← e43] at hc ⊢
           refine ⟨fun j hj hb => ⟨fun _ => hc.cell (k := 2) rfl rfl rfl, fun _ => hc.cell (k := 2) rfl rfl rfl, fun e => (by subst e; exact absurd hj (by decide)), trivial⟩, ?_⟩
           refine ds (v := .agg #[.int .i64 (IntKind.i64.wrap (j14.Next + 1)), .int .i64 (-1), .slice a44 z41.length q45]) rfl (fun w' hF => bd_88_0_1_2 rfl rfl rfl) rfl ?_
           replace hc := hc.freeze (k := 0) rfl rfl rfl
           replace hc := hc.dup (k := 0) rfl rfl
           replace hc : Ctx w46 (Hold S_ref16_Body.pr [.int .i64 (IntKind.i64.wrap (j14.Next + 1)), .int .i64 (-1), .slice a44 z41.length q45] (⟨(IntKind.i64.wrap (j14.Next + 1)), (-1), z41⟩ : S_ref16_Body) :: Hold (pRo (pInt .u8)) [.slice a44 z41.length q45] z41 :: Hold (pRo (pInt .u8)) [.slice a35 y27.length q36] y27 :: B b0 [.int .i64 j14.Window, .int .i64 j14.Span, .int .i64 j14.Room, .int .i64 j14.Epoch, .int .i64 (IntKind.i64.wrap (j14.Next + 1)), .int .i64 j14.Acked, .int .i64 j14.Sent, .int .i64 j14.Got, .slice a20 j14.Out.length q21, .slice a23 j14.Early.length q24, .bool j14.Owes] 61 :: Own S_ref16_Body.pr 88 (.slice a20 j14.Out.length q21) j14.Out :: Own S_ref16_Early.pr 91 (.slice a23 j14.Early.length q24) j14.Early :: Pn (P1) b28 (o29 + (j15).toNat * 1) [.slice a35 y27.length q36] :: Fr) := S_ref16_Body.cl hc
           refine deE (Ctx.builtOp (css := [[.int .i64 (IntKind.i64.wrap (j14.Next + 1)), .int .i64 (-1), .slice a44 z41.length q45]]) (xs := ([(⟨(IntKind.i64.wrap (j14.Next + 1)), (-1), z41⟩ : S_ref16_Body)] : List S_ref16_Body)) (E := S_ref16_Body.pr) hc Try.underlying58 Try.sizeOf88 Try.zeroValue88 rfl rfl rfl rfl rfl rfl rfl rfl) rfl rfl ?_
           clear hc; rintro _ w48 ⟨a47, rfl, hc⟩
           refine ⟨fun j hj hb => ⟨fun _ => hc.cell (k := 3) rfl rfl rfl, fun e => (by subst e; exact absurd hj (by decide)), fun e => (by subst e; exact absurd hj (by decide)), trivial⟩, ?_⟩
           replace hp := bind_some hp; obtain ⟨z49, hz49, hp⟩ := hp
           obtain ⟨hg50, e51⟩ := app_some hz49
           refine deE (Ctx.append hc (k := 4) rfl rfl (k2 := 0) rfl rfl reads_own Try.underlying58 (i := Try.t88) rfl rfl rfl rfl rfl rfl rfl rfl hg50) rfl rfl ?_
           clear hc; rintro _ w54 ⟨a52, q53, rfl, hc⟩
           rw [← e51] at hc ⊢
           refine ⟨fun j hj hb => ⟨fun e => (by subst e; exact absurd hj (by decide)), fun e => (by subst e; exact absurd hj (by decide)), fun e => (by subst e; exact absurd hj (by decide)), trivial⟩, ?_⟩
           refine ds (v := .pointer (some ⟨b0, 0, none⟩)) rfl (fun w' hF => nl rfl) rfl ?_
           refine ds (v := .pointer (some ⟨b0, 8, none⟩)) rfl (fun w' hF => fax 8 rfl Try.underlying61 rfl Try.sizeOf58 rfl rfl rfl) rfl ?_
           refine duE (A := fun w' => Ctx w' (Own S_ref16_Body.pr 88 (.slice a47 1 1) ([(⟨(IntKind.i64.wrap (j14.Next + 1)), (-1), z41⟩ : S_ref16_Body)]) :: Hold (pRo (pInt .u8)) [.slice a44 z41.length q45] z41 :: Hold (pRo (pInt .u8)) [.slice a35 y27.length q36] y27 :: B b0 [.int .i64 j14.Window, .int .i64 j14.Span, .int .i64 j14.Room, .int .i64 j14.Epoch, .int .i64 (IntKind.i64.wrap (j14.Next + 1)), .int .i64 j14.Acked, .int .i64 j14.Sent, .int .i64 j14.Got, .slice a52 z49.length q53, .slice a23 j14.Early.length q24, .bool j14.Owes] 61 :: Own S_ref16_Body.pr 88 (.slice a52 z49.length q53) z49 :: Own S_ref16_Early.pr 91 (.slice a23 j14.Early.length q24) j14.Early :: Pn (P1) b28 (o29 + (j15).toNat * 1) [.slice a35 y27.length q36] :: Fr)) (Ctx.putOp hc (k := 3) rfl rfl (v := .slice a52 z49.length q53) rfl rfl rfl Try.sizeOf58 rfl rfl rfl) rfl rfl ?_
           clear hc; rintro w55 hc
           refine ⟨fun j hj hb => ⟨fun e => (by subst e; exact absurd hj (by decide)), fun e => (by subst e; exact absurd hj (by decide)), fun e => (by subst e; exact absurd hj (by decide)), trivial⟩, ?_⟩
           replace hc := Ctx.pnB hc (k := 6) rfl rfl rfl
           refine dn ?_
           refine bn ?_
           refine qn ?_
           refine Wreg ?_
           refine rs (v := .int .i64 j15) (mv (v := .int .i64 j15) rfl) rfl ?_
           refine rs (v := .int .i64 (IntKind.i64.wrap (j15 + 1))) (adw rfl rfl) rfl ?_
           refine rs (v := .int .i64 (IntKind.i64.wrap (j15 + 1))) (av (v := .int .i64 (IntKind.i64.wrap (j15 + 1))) rfl) rfl ?_
           refine rn ?_
           refine qn ?_
           replace hc := hc.pull 5 rfl rfl
           replace hc := hc.pull 5 rfl rfl
           replace hc := hc.pull 5 rfl rfl
           replace hc : Ctx w55 (S_ref16_Link.hp b0 (⟨j14.Window, j14.Span, j14.Room, j14.Epoch, (IntKind.i64.wrap (j14.Next + 1)), j14.Acked, j14.Sent, j14.Got, z49, j14.Early, j14.Owes⟩ : S_ref16_Link) :: Own S_ref16_Body.pr 88 (.slice a47 1 1) ([(⟨(IntKind.i64.wrap (j14.Next + 1)), (-1), z41⟩ : S_ref16_Body)]) :: Hold (pRo (pInt .u8)) [.slice a44 z41.length q45] z41 :: Hold (pRo (pInt .u8)) [.slice a35 y27.length q36] y27 :: P1 :: Fr) := Ctx.exB _ _ (Ctx.exB _ _ (Ctx.sepB (Ctx.sepB hc)))
           replace hc := hc.rem 3 rfl rfl
           replace hc := hc.rem 2 rfl rfl
           replace hc := hc.rem 1 rfl rfl
           exact ⟨m2, Nat.lt_succ_self _, ⟨(⟨j14.Window, j14.Span, j14.Room, j14.Epoch, (IntKind.i64.wrap (j14.Next + 1)), j14.Acked, j14.Sent, j14.Got, z49, j14.Early, j14.Owes⟩ : S_ref16_Link), (IntKind.i64.wrap (j15 + 1)), rfl, hp, hc⟩, (kl rfl k0)⟩
     · replace hp := gpos hp (of_decide_eq_true hb13)
       refine Wct rfl ?_
       refine Wseq ?_
       refine Wreg ?_
       refine rs (v := .int .i64 80) (av (v := .int .i64 80) rfl) rfl ?_
       refine rn ?_
       refine qn ?_
       refine Wret ?_
       refine qr ?_
       replace hc := hc.pull 2 rfl rfl
       replace hc := hc.pull 2 rfl rfl
       replace hc := hc.pull 2 rfl rfl
       replace hc : Ctx w12 (S_ref16_Link.hp b0 x0 :: P1 :: Fr) := Ctx.exB _ _ (Ctx.exB _ _ (Ctx.sepB (Ctx.sepB hc)))
       injection hp with hp; subst hp
       refine f1 (v := .int .i64 80) Try.results18 Try.ntmps18 rfl ?_
       exact ⟨_, rfl, k _ hc⟩
   · replace hp := gpos hp (of_decide_eq_true hb3)
     refine Wct rfl ?_
     refine Wskip ?_
     refine qn ?_
     refine Wseq ?_
     refine Wblk ?_
     refine Wseq ?_
     refine Wreg ?_
     refine rs (v := .slice ax1 x1.length qx1) (mv (v := .slice ax1 x1.length qx1) rfl) rfl ?_
     refine rs (v := .int .i64 j1) (mv (v := .int .i64 j1) rfl) rfl ?_
     replace hp := bind_some hp; obtain ⟨y56, hy56, hp⟩ := hp
     obtain ⟨b59, o60, u61, hi57, hi58⟩ := Ctx.rdAt hc (k := 1) rfl rfl hrd1 hy56
     subst u61
     refine rs (v := .pointer (some ⟨b59, o60 + (j1).toNat * 1, none⟩)) (ixx rfl rfl Try.underlying51 Try.sizeOf38 hi57 hi58 rfl) rfl ?_
     replace hc := Ctx.rdCell hc (k := 1) rfl rfl hrd1 hy56; obtain ⟨cs62, hc, hcell63⟩ := hc
     replace hc := Ctx.holdRo hc; obtain ⟨v67, u64, hc⟩ := hc; subst u64
     obtain ⟨a65, q66, u64⟩ := hc.rd (k := 0) rfl rfl reads_ro; subst u64
     refine rs (v := .slice a65 y56.length q66) (ld rfl Try.isAgg38 (hcell63 0 _ rfl)) rfl ?_
     refine rs (v := .int .i64 ((y56.length : Nat) : Int)) (ln rfl Try.underlying38) rfl ?_
     refine rs (v := .bool (decide (((y56.length : Nat) : Int) > 65536))) (gt' rfl rfl) rfl ?_
     refine rn ?_
     refine qn ?_
     cases hb68 : (decide (((y56.length : Nat) : Int) > 65536))
     · replace hp := gneg hp (of_decide_eq_false hb68)
       refine Wcf rfl ?_
       refine Wskip ?_
       refine bn ?_
       refine qn ?_
       refine Wreg ?_
       refine rs (v := .int .i64 j1) (mv (v := .int .i64 j1) rfl) rfl ?_
       refine rs (v := .int .i64 (IntKind.i64.wrap (j1 + 1))) (adw rfl rfl) rfl ?_
       refine rs (v := .int .i64 (IntKind.i64.wrap (j1 + 1))) (av (v := .int .i64 (IntKind.i64.wrap (j1 + 1))) rfl) rfl ?_
       refine rn ?_
       refine qn ?_
       replace hc := hc.rem 0 rfl rfl
       exact ⟨m1, Nat.lt_succ_self _, ⟨(IntKind.i64.wrap (j1 + 1)), rfl, hp, hc⟩, (kl rfl k0)⟩
     · replace hp := gpos hp (of_decide_eq_true hb68)
       refine Wct rfl ?_
       refine Wseq ?_
       refine Wreg ?_
       refine rs (v := .int .i64 140) (av (v := .int .i64 140) rfl) rfl ?_
       refine rn ?_
       refine qn ?_
       refine Wret ?_
       refine br ?_
       refine qr ?_
       refine qr ?_
       refine br ?_
       refine qr ?_
       replace hc := hc.rem 0 rfl rfl
       injection hp with hp; subst hp
       refine f1 (v := .int .i64 140) Try.results18 Try.ntmps18 rfl ?_
       exact ⟨_, rfl, k _ hc⟩

-- FN (*peloton/pelotonref16.Link).Tick
def ref16_Link_Tick.J2 (j1 : S_ref16_Link) (j2 : (List S_api_Seg)) (j18 : Bool) : Option ((List S_api_Seg) × S_ref16_Link) :=
  if j18 = true then
    (app j2 ([(⟨j1.Epoch, 0, j1.Got, []⟩ : S_api_Seg)])).bind fun z42 =>
    some (z42, (⟨j1.Window, j1.Span, j1.Room, j1.Epoch, j1.Next, j1.Acked, j1.Sent, j1.Got, j1.Out, j1.Early, false⟩ : S_ref16_Link))
  else
    some (j2, (⟨j1.Window, j1.Span, j1.Room, j1.Epoch, j1.Next, j1.Acked, j1.Sent, j1.Got, j1.Out, j1.Early, false⟩ : S_ref16_Link))

def ref16_Link_Tick.J3 (j6 : Int) (k1 : S_ref16_Link → (List S_api_Seg) → Int → Option ((List S_api_Seg) × S_ref16_Link)) (j49 : S_ref16_Link) (j50 : (List S_api_Seg)) : Option ((List S_api_Seg) × S_ref16_Link) :=
  k1 j49 j50 (IntKind.i64.wrap (j6 + 1))

def ref16_Link_Tick.J6 (j2 : (List S_api_Seg)) (j6 : Int) (k1 : S_ref16_Link → (List S_api_Seg) → Int → Option ((List S_api_Seg) × S_ref16_Link)) (j151 : S_ref16_Link) : Option ((List S_api_Seg) × S_ref16_Link) :=
  (idx j151.Out j6).bind fun y187 =>
  (idx j151.Out j6).bind fun y198 =>
  (app j2 ([(⟨j151.Epoch, y187.Seq, j151.Got, y198.B⟩ : S_api_Seg)])).bind fun z211 =>
  ref16_Link_Tick.J3 j6 k1 j151 z211

def ref16_Link_Tick.J5 (j2 : (List S_api_Seg)) (j6 : Int) (j54 : S_ref16_Link) (k1 : S_ref16_Link → (List S_api_Seg) → Int → Option ((List S_api_Seg) × S_ref16_Link)) (j88 : Bool) : Option ((List S_api_Seg) × S_ref16_Link) :=
  if j88 = true then
    ref16_Link_Tick.J3 j6 k1 j54 j2
  else
    (idx j54.Out j6).bind fun y143 =>
    (idx (j54.Out.set (j6).toNat ({ y143 with Since := 0 })) j6).bind fun y153 =>
    if y153.Seq > j54.Sent then
      (idx (j54.Out.set (j6).toNat ({ y143 with Since := 0 })) j6).bind fun y165 =>
      ref16_Link_Tick.J6 j2 j6 k1 (⟨j54.Window, j54.Span, j54.Room, j54.Epoch, j54.Next, j54.Acked, y165.Seq, j54.Got, (j54.Out.set (j6).toNat ({ y143 with Since := 0 })), j54.Early, j54.Owes⟩ : S_ref16_Link)
    else
      ref16_Link_Tick.J6 j2 j6 k1 (⟨j54.Window, j54.Span, j54.Room, j54.Epoch, j54.Next, j54.Acked, j54.Sent, j54.Got, (j54.Out.set (j6).toNat ({ y143 with Since := 0 })), j54.Early, j54.Owes⟩ : S_ref16_Link)

def ref16_Link_Tick.J4 (j2 : (List S_api_Seg)) (j6 : Int) (k1 : S_ref16_Link → (List S_api_Seg) → Int → Option ((List S_api_Seg) × S_ref16_Link)) (j54 : S_ref16_Link) : Option ((List S_api_Seg) × S_ref16_Link) :=
  (idx j54.Out j6).bind fun y98 =>
  if y98.Seq > (IntKind.i64.wrap (j54.Acked + j54.Window)) then
    ref16_Link_Tick.J5 j2 j6 j54 k1 true
  else
    (idx j54.Out j6).bind fun y110 =>
    if y110.Since ≥ 0 then
      (idx j54.Out j6).bind fun y122 =>
      ref16_Link_Tick.J5 j2 j6 j54 k1 (decide (y122.Since < j54.Span))
    else
      ref16_Link_Tick.J5 j2 j6 j54 k1 false

def ref16_Link_Tick.L1  : Nat → S_ref16_Link → (List S_api_Seg) → Int → Option ((List S_api_Seg) × S_ref16_Link)
  | 0, _, _, _ => none
  | m1 + 1, j1, j2, j6 =>
    if j6 < ((j1.Out.length : Nat) : Int) then
      (idx j1.Out j6).bind fun y55 =>
      if y55.Since ≥ 0 then
        (idx j1.Out j6).bind fun y68 =>
        (idx j1.Out j6).bind fun y79 =>
        ref16_Link_Tick.J4 j2 j6 (ref16_Link_Tick.L1 m1) (⟨j1.Window, j1.Span, j1.Room, j1.Epoch, j1.Next, j1.Acked, j1.Sent, j1.Got, (j1.Out.set (j6).toNat ({ y79 with Since := (IntKind.i64.wrap (y68.Since + 1)) })), j1.Early, j1.Owes⟩ : S_ref16_Link)
      else
        ref16_Link_Tick.J4 j2 j6 (ref16_Link_Tick.L1 m1) j1
    else
      if ((j2.length : Nat) : Int) = 0 then
        ref16_Link_Tick.J2 j1 j2 j1.Owes
      else
        ref16_Link_Tick.J2 j1 j2 false

def ref16_Link_Tick (N : Nat) (x0 : S_ref16_Link) : Option ((List S_api_Seg) × S_ref16_Link) :=
  ref16_Link_Tick.L1 N x0 ([]) 0

set_option maxHeartbeats 8000000 in
theorem ref16_Link_Tick_any {N : Nat} {b0 : Nat} {x0 : S_ref16_Link} {Fr : List HP} {w : World} {r : (List S_api_Seg) × S_ref16_Link} {K : Value → World → Prop}  (hc : Ctx w (S_ref16_Link.hp b0 x0 :: Fr)) (hp : ref16_Link_Tick N x0 = some r)
    (k : ∀ (a219 : Option Addr) (n220 : Nat) (q221 : Nat) w', Ctx w' (Own S_api_Seg.pr 46 (.slice a219 n220 q221) r.1 :: S_ref16_Link.hp b0 r.2 :: Fr) → K (.slice a219 n220 q221) w') : Calls Try.prog 20 #[.pointer (some ⟨b0, 0, none⟩)] w (Ret K) := by
 unfold ref16_Link_Tick at hp
 refine Center (args := [.pointer (some ⟨b0, 0, none⟩)]) (l := [(0, .pointer (some ⟨b0, 0, none⟩))]) Try.func20 Try.ntmps20 rfl rfl rfl ?_
 refine Wseq ?_
 refine Wreg ?_
 refine rs (v := .slice none 0 0) (av (v := .slice none 0 0) rfl) rfl ?_
 refine rn ?_
 refine qn ?_
 refine Wseq ?_
 refine Wreg ?_
 refine rs (v := .slice none 0 0) (av (v := .slice none 0 0) rfl) rfl ?_
 refine rn ?_
 refine qn ?_
 refine Wseq ?_
 refine Wseq ?_
 refine Wreg ?_
 refine rs (v := .int .i64 0) (av (v := .int .i64 0) rfl) rfl ?_
 refine rn ?_
 refine qn ?_
 refine Wblk ?_
 replace hc := hc.nilOwn S_api_Seg.pr 46
 replace hc := hc.pull 1 rfl rfl
 refine Wloop (3 :: 4 :: 5 :: 6 :: 7 :: 8 :: 9 :: 10 :: 11 :: 12 :: 13 :: 14 :: 15 :: 16 :: 17 :: 18 :: 19 :: 20 :: 21 :: 22 :: 23 :: 24 :: 25 :: 26 :: 27 :: 28 :: 29 :: 30 :: 31 :: 32 :: 33 :: 34 :: 35 :: 36 :: 37 :: 38 :: 39 :: 40 :: 41 :: 42 :: 43 :: 44 :: 45 :: 46 :: 47 :: 48 :: 49 :: 50 :: 51 :: 52 :: 53 :: 54 :: 55 :: 56 :: 57 :: 58 :: 59 :: 60 :: 61 :: 62 :: 63 :: 64 :: 65 :: 66 :: 67 :: 68 :: 69 :: 70 :: 71 :: 72 :: 73 :: 74 :: 75 :: 76 :: 77 :: 78 :: 79 :: 80 :: 81 :: 82 :: 83 :: 84 :: 85 :: 86 :: 87 :: 88 :: 89 :: 90 :: 91 :: 92 :: 93 :: 94 :: 95 :: 96 :: 97 :: 98 :: 99 :: 100 :: 101 :: 102 :: 103 :: 104 :: 105 :: 106 :: 107 :: 108 :: 109 :: 110 :: 111 :: 112 :: 113 :: 114 :: 115 :: 116 :: 117 :: 118 :: 119 :: 120 :: 121 :: 122 :: 123 :: 124 :: 125 :: 126 :: 127 :: 128 :: 129 :: 130 :: 131 :: 132 :: 133 :: 134 :: 135 :: 136 :: 137 :: 138 :: 139 :: 140 :: 141 :: []) [3, 4] (fun m vs w' => ∃ j1 : S_ref16_Link, ∃ j2 : (List S_api_Seg), ∃ j6 : Int, ∃ a3 : Option Addr, ∃ n4 : Nat, ∃ q5 : Nat, vs = [.slice a3 n4 q5, .int .i64 j6] ∧ ref16_Link_Tick.L1 m j1 j2 j6 = some r ∧ Ctx w' (S_ref16_Link.hp b0 j1 :: Own S_api_Seg.pr 46 (.slice a3 n4 q5) j2 :: Fr)) N ?_ ?_
 · exact ⟨x0, [], 0, none, 0, 0, rfl, hp, hc⟩
 · clear hp hc; intro m vs u w7 hJ
   obtain ⟨j1, j2, j6, a3, n4, q5, rfl, hp, hc⟩ := hJ
   obtain ⟨u8, _⟩ := Ctx.rdLen hc (k := 1) rfl rfl reads_own; subst u8
   rcases m with _ | m1
   · cases (show none = some r from hp)
   rw [ref16_Link_Tick.L1] at hp
   refine Wseq ?_
   refine Wseq ?_
   refine Wreg ?_
   refine rs (v := .int .i64 j6) (mv (v := .int .i64 j6) rfl) rfl ?_
   refine rs (v := .pointer (some ⟨b0, 0, none⟩)) (mv (v := .pointer (some ⟨b0, 0, none⟩)) rfl) rfl ?_
   refine rs (v := .pointer (some ⟨b0, 0, none⟩)) (nl rfl) rfl ?_
   refine rs (v := .pointer (some ⟨b0, 8, none⟩)) (fax 8 rfl Try.underlying61 rfl Try.sizeOf58 rfl rfl rfl) rfl ?_
   replace hc := Ctx.exF hc; obtain ⟨v9, hc⟩ := hc
   replace hc := Ctx.exF hc; obtain ⟨v10, hc⟩ := hc
   replace hc := Ctx.sepF hc
   replace hc := Ctx.sepF hc
   obtain ⟨a11, q12, u13⟩ := hc.rd (k := 1) rfl rfl reads_own; subst u13
   obtain ⟨a14, q15, u16⟩ := hc.rd (k := 2) rfl rfl reads_own; subst u16
   refine rs (v := .slice a11 j1.Out.length q12) (ld rfl Try.isAgg58 (Ctx.cell hc (k := 0) rfl rfl rfl)) rfl ?_
   refine rs (v := .int .i64 ((j1.Out.length : Nat) : Int)) (ln rfl Try.underlying58) rfl ?_
   refine rs (v := .bool (decide (j6 < ((j1.Out.length : Nat) : Int)))) (lt' rfl rfl) rfl ?_
   refine rn ?_
   refine qn ?_
   cases hb17 : (decide (j6 < ((j1.Out.length : Nat) : Int)))
   · replace hp := gneg hp (of_decide_eq_false hb17)
     refine Wcf rfl ?_
     refine Wexit ?_
     refine qx ?_
     refine qx ?_
     refine be ?_
     refine qn ?_
     refine Wseq ?_
     refine Wseqm [142, 143, 144, 145, 146, 147, 148, 149, 150] [150] (fun vs w' => ∃ j18 : Bool, vs = [.bool j18] ∧ ref16_Link_Tick.J2 j1 j2 j18 = some r ∧ Ctx w' (S_ref16_Link.hp b0 j1 :: Own S_api_Seg.pr 46 (.slice a3 j2.length q5) j2 :: Fr)) ?_ ?_
     · refine Wreg ?_
       refine rs (v := .slice a3 j2.length q5) (mv (v := .slice a3 j2.length q5) rfl) rfl ?_
       refine rs (v := .int .i64 ((j2.length : Nat) : Int)) (ln rfl Try.underlying29) rfl ?_
       refine rs (v := .bool (decide (((j2.length : Nat) : Int) = 0))) (eqd rfl rfl) rfl ?_
       refine rs (v := .bool (decide (((j2.length : Nat) : Int) = 0))) (mv (v := .bool (decide (((j2.length : Nat) : Int) = 0))) rfl) rfl ?_
       cases hb19 : (decide (((j2.length : Nat) : Int) = 0))
       · replace hp := gneg hp (of_decide_eq_false hb19)
         refine r0 rfl ?_
         refine r0 rfl ?_
         refine r0 rfl ?_
         refine r0 rfl ?_
         refine rs (v := .bool false) (pkf (v := .bool false) rfl rfl) rfl ?_
         refine rn ?_
         refine qn ?_
         replace hc := hc.pull 2 rfl rfl
         replace hc := hc.pull 2 rfl rfl
         replace hc := hc.pull 2 rfl rfl
         replace hc : Ctx w7 (S_ref16_Link.hp b0 j1 :: Own S_api_Seg.pr 46 (.slice a3 j2.length q5) j2 :: Fr) := Ctx.exB _ _ (Ctx.exB _ _ (Ctx.sepB (Ctx.sepB hc)))
         exact ⟨⟨false, rfl, hp, hc⟩, (kl rfl kb)⟩
       · replace hp := gpos hp (of_decide_eq_true hb19)
         refine rs (v := .pointer (some ⟨b0, 0, none⟩)) (mv (v := .pointer (some ⟨b0, 0, none⟩)) rfl) rfl ?_
         refine rs (v := .pointer (some ⟨b0, 0, none⟩)) (nl rfl) rfl ?_
         refine rs (v := .pointer (some ⟨b0, 10, none⟩)) (fax 10 rfl Try.underlying61 rfl Try.sizeOf4 rfl rfl rfl) rfl ?_
         refine rs (v := .bool j1.Owes) (ld rfl Try.isAgg4 (Ctx.cell hc (k := 0) rfl rfl rfl)) rfl ?_
         refine rs (v := .bool j1.Owes) (pkt (v := .bool j1.Owes) rfl rfl) rfl ?_
         refine rn ?_
         refine qn ?_
         replace hc := hc.pull 2 rfl rfl
         replace hc := hc.pull 2 rfl rfl
         replace hc := hc.pull 2 rfl rfl
         replace hc : Ctx w7 (S_ref16_Link.hp b0 j1 :: Own S_api_Seg.pr 46 (.slice a3 j2.length q5) j2 :: Fr) := Ctx.exB _ _ (Ctx.exB _ _ (Ctx.sepB (Ctx.sepB hc)))
         exact ⟨⟨j1.Owes, rfl, hp, hc⟩, (kl rfl kb)⟩
     · clear hp hc; intro vs u w20 hJ
       obtain ⟨j18, rfl, hp, hc⟩ := hJ
       unfold ref16_Link_Tick.J2 at hp
       cases hb21 : j18
       · replace hp := gneg hp (by rw [hb21]; exact Bool.false_ne_true)
         subst hb21
         refine Wcf rfl ?_
         refine Wskip ?_
         refine qn ?_
         refine Wseq ?_
         refine Wreg ?_
         refine rs (v := .pointer (some ⟨b0, 0, none⟩)) (mv (v := .pointer (some ⟨b0, 0, none⟩)) rfl) rfl ?_
         refine rs (v := .pointer (some ⟨b0, 0, none⟩)) (nl rfl) rfl ?_
         refine rs (v := .pointer (some ⟨b0, 10, none⟩)) (fax 10 rfl Try.underlying61 rfl Try.sizeOf4 rfl rfl rfl) rfl ?_
         replace hc := Ctx.exF hc; obtain ⟨v22, hc⟩ := hc
         replace hc := Ctx.exF hc; obtain ⟨v23, hc⟩ := hc
         replace hc := Ctx.sepF hc
         replace hc := Ctx.sepF hc
         obtain ⟨a24, q25, u26⟩ := hc.rd (k := 1) rfl rfl reads_own; subst u26
         obtain ⟨a27, q28, u29⟩ := hc.rd (k := 2) rfl rfl reads_own; subst u29
         refine ruE (A := fun w' => Ctx w' (B b0 [.int .i64 j1.Window, .int .i64 j1.Span, .int .i64 j1.Room, .int .i64 j1.Epoch, .int .i64 j1.Next, .int .i64 j1.Acked, .int .i64 j1.Sent, .int .i64 j1.Got, .slice a24 j1.Out.length q25, .slice a27 j1.Early.length q28, .bool false] 61 :: Own S_ref16_Body.pr 88 (.slice a24 j1.Out.length q25) j1.Out :: Own S_ref16_Early.pr 91 (.slice a27 j1.Early.length q28) j1.Early :: Own S_api_Seg.pr 46 (.slice a3 j2.length q5) j2 :: Fr)) (Ctx.putOp hc (k := 0) rfl rfl (v := .bool false) rfl rfl rfl Try.sizeOf4 rfl rfl rfl) rfl ?_
         clear hc; rintro w30 hc
         refine rn ?_
         refine qn ?_
         refine Wseq ?_
         refine Wreg ?_
         refine rs (v := .slice a3 j2.length q5) (mv (v := .slice a3 j2.length q5) rfl) rfl ?_
         refine rs (v := .slice a3 j2.length q5) (av (v := .slice a3 j2.length q5) rfl) rfl ?_
         refine rn ?_
         refine qn ?_
         refine Wret ?_
         replace hc := hc.pull 2 rfl rfl
         replace hc := hc.pull 2 rfl rfl
         replace hc := hc.pull 2 rfl rfl
         replace hc : Ctx w30 (S_ref16_Link.hp b0 (⟨j1.Window, j1.Span, j1.Room, j1.Epoch, j1.Next, j1.Acked, j1.Sent, j1.Got, j1.Out, j1.Early, false⟩ : S_ref16_Link) :: Own S_api_Seg.pr 46 (.slice a3 j2.length q5) j2 :: Fr) := Ctx.exB _ _ (Ctx.exB _ _ (Ctx.sepB (Ctx.sepB hc)))
         replace hc := hc.pull 1 rfl rfl
         injection hp with hp; subst hp
         refine f1 (v := .slice a3 j2.length q5) Try.results20 Try.ntmps20 rfl ?_
         exact ⟨_, rfl, k _ _ _ _ hc⟩
       · replace hp := gpos hp hb21
         subst hb21
         refine Wct rfl ?_
         replace hc := Ctx.exF hc; obtain ⟨v31, hc⟩ := hc
         replace hc := Ctx.exF hc; obtain ⟨v32, hc⟩ := hc
         replace hc := Ctx.sepF hc
         replace hc := Ctx.sepF hc
         obtain ⟨a33, q34, u35⟩ := hc.rd (k := 1) rfl rfl reads_own; subst u35
         obtain ⟨a36, q37, u38⟩ := hc.rd (k := 2) rfl rfl reads_own; subst u38
         replace hc := hc.drew
         refine Wdrw (fun j w' => True) [0, 0, 2, 6, 14, 0, 32, 96, 224, 510, 1022, 2047, 4095] 0 272 rfl (by kernel_rfl) (fun _ _ => trivial) ?_
         generalize hw : World.drew w20 = w39 at *
         clear hw
         refine ds (v := .slice a3 j2.length q5) rfl (fun w' hF => mv (v := .slice a3 j2.length q5) rfl) rfl ?_
         refine ds (v := .pointer (some ⟨b0, 0, none⟩)) rfl (fun w' hF => mv (v := .pointer (some ⟨b0, 0, none⟩)) rfl) rfl ?_
         refine ds (v := .pointer (some ⟨b0, 0, none⟩)) rfl (fun w' hF => nl rfl) rfl ?_
         refine ds (v := .pointer (some ⟨b0, 3, none⟩)) rfl (fun w' hF => fax 3 rfl Try.underlying61 rfl Try.sizeOf3 rfl rfl rfl) rfl ?_
         refine dx (v := .int .i64 j1.Epoch) rfl (ld rfl Try.isAgg3 (Ctx.cell hc (k := 0) rfl rfl rfl)) rfl rfl ?_
         refine ds (v := .pointer (some ⟨b0, 0, none⟩)) rfl (fun w' hF => mv (v := .pointer (some ⟨b0, 0, none⟩)) rfl) rfl ?_
         refine ds (v := .pointer (some ⟨b0, 0, none⟩)) rfl (fun w' hF => nl rfl) rfl ?_
         refine ds (v := .pointer (some ⟨b0, 7, none⟩)) rfl (fun w' hF => fax 7 rfl Try.underlying61 rfl Try.sizeOf3 rfl rfl rfl) rfl ?_
         refine dx (v := .int .i64 j1.Got) rfl (ld rfl Try.isAgg3 (Ctx.cell hc (k := 0) rfl rfl rfl)) rfl rfl ?_
         refine ds (v := .agg #[.int .i64 j1.Epoch, .int .i64 0, .int .i64 j1.Got, .slice none 0 0]) rfl (fun w' hF => bd_46_0_2 rfl rfl) rfl ?_
         replace hc := hc.nilRo (pInt .u8)
         replace hc := hc.dup (k := 0) rfl rfl
         replace hc : Ctx w39 (Hold S_api_Seg.pr [.int .i64 j1.Epoch, .int .i64 0, .int .i64 j1.Got, .slice none 0 0] (⟨j1.Epoch, 0, j1.Got, []⟩ : S_api_Seg) :: Hold (pRo (pInt .u8)) [.slice none 0 0] ([]) :: B b0 [.int .i64 j1.Window, .int .i64 j1.Span, .int .i64 j1.Room, .int .i64 j1.Epoch, .int .i64 j1.Next, .int .i64 j1.Acked, .int .i64 j1.Sent, .int .i64 j1.Got, .slice a33 j1.Out.length q34, .slice a36 j1.Early.length q37, .bool j1.Owes] 61 :: Own S_ref16_Body.pr 88 (.slice a33 j1.Out.length q34) j1.Out :: Own S_ref16_Early.pr 91 (.slice a36 j1.Early.length q37) j1.Early :: Own S_api_Seg.pr 46 (.slice a3 j2.length q5) j2 :: Fr) := S_api_Seg.cl hc
         refine deE (Ctx.builtOp (css := [[.int .i64 j1.Epoch, .int .i64 0, .int .i64 j1.Got, .slice none 0 0]]) (xs := ([(⟨j1.Epoch, 0, j1.Got, []⟩ : S_api_Seg)] : List S_api_Seg)) (E := S_api_Seg.pr) hc Try.underlying29 Try.sizeOf46 Try.zeroValue46 rfl rfl rfl rfl rfl rfl rfl rfl) rfl rfl ?_
         clear hc; rintro _ w41 ⟨a40, rfl, hc⟩
         refine ⟨fun j hj hb => trivial, ?_⟩
         replace hp := bind_some hp; obtain ⟨z42, hz42, hp⟩ := hp
         obtain ⟨hg43, e44⟩ := app_some hz42
         refine deE (Ctx.append hc (k := 5) rfl rfl (k2 := 0) rfl rfl reads_own Try.underlying29 (i := Try.t46) rfl rfl rfl rfl rfl rfl rfl rfl hg43) rfl rfl ?_
         clear hc; rintro _ w47 ⟨a45, q46, rfl, hc⟩
         rw [← e44] at hc ⊢
         refine ⟨fun j hj hb => trivial, ?_⟩
         refine ds (v := .slice a45 z42.length q46) rfl (fun w' hF => av (v := .slice a45 z42.length q46) rfl) rfl ?_
         refine dn ?_
         refine qn ?_
         refine Wseq ?_
         refine Wreg ?_
         refine rs (v := .pointer (some ⟨b0, 0, none⟩)) (mv (v := .pointer (some ⟨b0, 0, none⟩)) rfl) rfl ?_
         refine rs (v := .pointer (some ⟨b0, 0, none⟩)) (nl rfl) rfl ?_
         refine rs (v := .pointer (some ⟨b0, 10, none⟩)) (fax 10 rfl Try.underlying61 rfl Try.sizeOf4 rfl rfl rfl) rfl ?_
         refine ruE (A := fun w' => Ctx w' (Own S_api_Seg.pr 46 (.slice a40 1 1) ([(⟨j1.Epoch, 0, j1.Got, []⟩ : S_api_Seg)]) :: Hold (pRo (pInt .u8)) [.slice none 0 0] ([]) :: B b0 [.int .i64 j1.Window, .int .i64 j1.Span, .int .i64 j1.Room, .int .i64 j1.Epoch, .int .i64 j1.Next, .int .i64 j1.Acked, .int .i64 j1.Sent, .int .i64 j1.Got, .slice a33 j1.Out.length q34, .slice a36 j1.Early.length q37, .bool false] 61 :: Own S_ref16_Body.pr 88 (.slice a33 j1.Out.length q34) j1.Out :: Own S_ref16_Early.pr 91 (.slice a36 j1.Early.length q37) j1.Early :: Own S_api_Seg.pr 46 (.slice a45 z42.length q46) z42 :: Fr)) (Ctx.putOp hc (k := 2) rfl rfl (v := .bool false) rfl rfl rfl Try.sizeOf4 rfl rfl rfl) rfl ?_
         clear hc; rintro w48 hc
         refine rn ?_
         refine qn ?_
         refine Wseq ?_
         refine Wreg ?_
         refine rs (v := .slice a45 z42.length q46) (mv (v := .slice a45 z42.length q46) rfl) rfl ?_
         refine rs (v := .slice a45 z42.length q46) (av (v := .slice a45 z42.length q46) rfl) rfl ?_
         refine rn ?_
         refine qn ?_
         refine Wret ?_
         replace hc := hc.pull 4 rfl rfl
         replace hc := hc.pull 4 rfl rfl
         replace hc := hc.pull 4 rfl rfl
         replace hc : Ctx w48 (S_ref16_Link.hp b0 (⟨j1.Window, j1.Span, j1.Room, j1.Epoch, j1.Next, j1.Acked, j1.Sent, j1.Got, j1.Out, j1.Early, false⟩ : S_ref16_Link) :: Own S_api_Seg.pr 46 (.slice a40 1 1) ([(⟨j1.Epoch, 0, j1.Got, []⟩ : S_api_Seg)]) :: Hold (pRo (pInt .u8)) [.slice none 0 0] ([]) :: Own S_api_Seg.pr 46 (.slice a45 z42.length q46) z42 :: Fr) := Ctx.exB _ _ (Ctx.exB _ _ (Ctx.sepB (Ctx.sepB hc)))
         replace hc := hc.rem 2 rfl rfl
         replace hc := hc.rem 1 rfl rfl
         replace hc := hc.pull 1 rfl rfl
         injection hp with hp; subst hp
         refine f1 (v := .slice a45 z42.length q46) Try.results20 Try.ntmps20 rfl ?_
         exact ⟨_, rfl, k _ _ _ _ hc⟩
   · replace hp := gpos hp (of_decide_eq_true hb17)
     refine Wct rfl ?_
     refine Wskip ?_
     refine qn ?_
     refine Wseqm (3 :: 14 :: 15 :: 16 :: 17 :: 18 :: 19 :: 20 :: 21 :: 22 :: 23 :: 24 :: 25 :: 26 :: 27 :: 28 :: 29 :: 30 :: 31 :: 32 :: 33 :: 34 :: 35 :: 36 :: 37 :: 38 :: 39 :: 40 :: 41 :: 42 :: 43 :: 44 :: 45 :: 46 :: 47 :: 48 :: 49 :: 50 :: 51 :: 52 :: 53 :: 54 :: 55 :: 56 :: 57 :: 58 :: 59 :: 60 :: 61 :: 62 :: 63 :: 64 :: 65 :: 66 :: 67 :: 68 :: 69 :: 70 :: 71 :: 72 :: 73 :: 74 :: 75 :: 76 :: 77 :: 78 :: 79 :: 80 :: 81 :: 82 :: 83 :: 84 :: 85 :: 86 :: 87 :: 88 :: 89 :: 90 :: 91 :: 92 :: 93 :: 94 :: 95 :: 96 :: 97 :: 98 :: 99 :: 100 :: 101 :: 102 :: 103 :: 104 :: 105 :: 106 :: 107 :: 108 :: 109 :: 110 :: 111 :: 112 :: 113 :: 114 :: 115 :: 116 :: 117 :: 118 :: 119 :: 120 :: 121 :: 122 :: 123 :: 124 :: 125 :: 126 :: 127 :: 128 :: 129 :: 130 :: 131 :: 132 :: 133 :: 134 :: 135 :: 136 :: 137 :: 138 :: 139 :: 140 :: 141 :: []) [3] (fun vs w' => ∃ j49 : S_ref16_Link, ∃ j50 : (List S_api_Seg), ∃ a51 : Option Addr, ∃ n52 : Nat, ∃ q53 : Nat, vs = [.slice a51 n52 q53] ∧ ref16_Link_Tick.J3 j6 (ref16_Link_Tick.L1 m1) j49 j50 = some r ∧ Ctx w' (S_ref16_Link.hp b0 j49 :: Own S_api_Seg.pr 46 (.slice a51 n52 q53) j50 :: Fr)) ?_ ?_
     · refine Wblk ?_
       refine Wseqm [14, 15, 16, 17, 18, 19, 20, 21, 22, 23, 24, 25, 26, 27, 28, 29, 30, 31, 32, 33, 34, 35, 36, 37, 38] [] (fun vs w' => ∃ j54 : S_ref16_Link, vs = [] ∧ ref16_Link_Tick.J4 j2 j6 (ref16_Link_Tick.L1 m1) j54 = some r ∧ Ctx w' (S_ref16_Link.hp b0 j54 :: Own S_api_Seg.pr 46 (.slice a3 j2.length q5) j2 :: Fr)) ?_ ?_
       · refine Wseq ?_
         refine Wreg ?_
         refine rs (v := .pointer (some ⟨b0, 0, none⟩)) (mv (v := .pointer (some ⟨b0, 0, none⟩)) rfl) rfl ?_
         refine rs (v := .pointer (some ⟨b0, 0, none⟩)) (nl rfl) rfl ?_
         refine rs (v := .pointer (some ⟨b0, 8, none⟩)) (fax 8 rfl Try.underlying61 rfl Try.sizeOf58 rfl rfl rfl) rfl ?_
         refine rs (v := .slice a11 j1.Out.length q12) (ld rfl Try.isAgg58 (Ctx.cell hc (k := 0) rfl rfl rfl)) rfl ?_
         refine rs (v := .int .i64 j6) (mv (v := .int .i64 j6) rfl) rfl ?_
         replace hp := bind_some hp; obtain ⟨y55, hy55, hp⟩ := hp
         obtain ⟨b58, o59, u60, hi56, hi57⟩ := Ctx.rdAt hc (k := 1) rfl rfl reads_own hy55
         subst u60
         refine rs (v := .pointer (some ⟨b58, o59 + (j6).toNat * 3, none⟩)) (ixx rfl rfl Try.underlying58 Try.sizeOf88 hi56 hi57 rfl) rfl ?_
         refine rs (v := .pointer (some ⟨b58, o59 + (j6).toNat * 3 + 1, none⟩)) (fax 1 rfl Try.underlying88 rfl Try.sizeOf3 rfl rfl rfl) rfl ?_
         replace hc := Ctx.rdCell hc (k := 1) rfl rfl reads_own hy55; obtain ⟨cs61, hc, hcell62⟩ := hc
         replace hc := S_ref16_Body.op hc; obtain ⟨a64, q65, u63, hc⟩ := hc; subst u63
         refine rs (v := .int .i64 y55.Since) (ld rfl Try.isAgg3 (hcell62 1 _ rfl)) rfl ?_
         refine rs (v := .bool (decide (y55.Since ≥ 0))) (ge' rfl rfl) rfl ?_
         refine rn ?_
         refine qn ?_
         cases hb66 : (decide (y55.Since ≥ 0))
         · replace hp := gneg hp (of_decide_eq_false hb66)
           refine Wcf rfl ?_
           refine Wskip ?_
           refine qn ?_
           replace hc := hc.pull 3 rfl rfl
           replace hc := hc.pull 3 rfl rfl
           replace hc := hc.pull 3 rfl rfl
           replace hc : Ctx w7 (S_ref16_Link.hp b0 j1 :: Hold (pRo (pInt .u8)) [.slice a64 y55.B.length q65] y55.B :: Own S_api_Seg.pr 46 (.slice a3 j2.length q5) j2 :: Fr) := Ctx.exB _ _ (Ctx.exB _ _ (Ctx.sepB (Ctx.sepB hc)))
           replace hc := hc.rem 1 rfl rfl
           exact ⟨⟨j1, rfl, hp, hc⟩, (kl rfl kb)⟩
         · replace hp := gpos hp (of_decide_eq_true hb66)
           refine Wct rfl ?_
           replace hc := hc.drew
           refine Wdrw (fun j w' => True) [0, 1, 3, 7, 0, 0, 32, 96, 224, 0, 992, 2016, 4064, 8160, 16383, 32767, 65535] 0 4360 rfl (by kernel_rfl) (fun _ _ => trivial) ?_
           generalize hw : World.drew w7 = w67 at *
           clear hw
           refine ds (v := .pointer (some ⟨b0, 0, none⟩)) rfl (fun w' hF => mv (v := .pointer (some ⟨b0, 0, none⟩)) rfl) rfl ?_
           refine ds (v := .pointer (some ⟨b0, 0, none⟩)) rfl (fun w' hF => nl rfl) rfl ?_
           refine ds (v := .pointer (some ⟨b0, 8, none⟩)) rfl (fun w' hF => fax 8 rfl Try.underlying61 rfl Try.sizeOf58 rfl rfl rfl) rfl ?_
           refine dx (v := .slice (some ⟨b58, o59, none⟩) j1.Out.length q12) rfl (ld rfl Try.isAgg58 (Ctx.cell hc (k := 1) rfl rfl rfl)) rfl rfl ?_
           refine ds (v := .int .i64 j6) rfl (fun w' hF => mv (v := .int .i64 j6) rfl) rfl ?_
           refine ds (v := .pointer (some ⟨b0, 0, none⟩)) rfl (fun w' hF => mv (v := .pointer (some ⟨b0, 0, none⟩)) rfl) rfl ?_
           refine ds (v := .pointer (some ⟨b0, 0, none⟩)) rfl (fun w' hF => nl rfl) rfl ?_
           refine ds (v := .pointer (some ⟨b0, 8, none⟩)) rfl (fun w' hF => fax 8 rfl Try.underlying61 rfl Try.sizeOf58 rfl rfl rfl) rfl ?_
           refine dx (v := .slice (some ⟨b58, o59, none⟩) j1.Out.length q12) rfl (ld rfl Try.isAgg58 (Ctx.cell hc (k := 1) rfl rfl rfl)) rfl rfl ?_
           refine ds (v := .int .i64 j6) rfl (fun w' hF => mv (v := .int .i64 j6) rfl) rfl ?_
           replace hp := bind_some hp; obtain ⟨y68, hy68, hp⟩ := hp
           obtain ⟨b71, o72, u73, hi69, hi70⟩ := Ctx.rdAt hc (k := 2) rfl rfl reads_own hy68
           clear u73
           refine ds (v := .pointer (some ⟨b58, o59 + (j6).toNat * 3, none⟩)) rfl (fun w' hF => ixx rfl rfl Try.underlying58 Try.sizeOf88 hi69 hi70 rfl) rfl ?_
           refine ds (v := .pointer (some ⟨b58, o59 + (j6).toNat * 3 + 1, none⟩)) rfl (fun w' hF => fax 1 rfl Try.underlying88 rfl Try.sizeOf3 rfl rfl rfl) rfl ?_
           replace hc := Ctx.rdCell hc (k := 2) rfl rfl reads_own hy68; obtain ⟨cs74, hc, hcell75⟩ := hc
           replace hc := S_ref16_Body.op hc; obtain ⟨a77, q78, u76, hc⟩ := hc; subst u76
           refine dx (v := .int .i64 y68.Since) rfl (ld rfl Try.isAgg3 (hcell75 1 _ rfl)) rfl rfl ?_
           refine ds (v := .int .i64 (IntKind.i64.wrap (y68.Since + 1))) rfl (fun w' hF => adw rfl rfl) rfl ?_
           replace hp := bind_some hp; obtain ⟨y79, hy79, hp⟩ := hp
           obtain ⟨b82, o83, u84, hi80, hi81⟩ := Ctx.rdAt hc (k := 3) rfl rfl reads_own hy79
           clear u84
           refine ds (v := .pointer (some ⟨b58, o59 + (j6).toNat * 3, none⟩)) rfl (fun w' hF => ixx rfl rfl Try.underlying58 Try.sizeOf88 hi80 hi81 rfl) rfl ?_
           refine ds (v := .pointer (some ⟨b58, o59 + (j6).toNat * 3 + 1, none⟩)) rfl (fun w' hF => fax 1 rfl Try.underlying88 rfl Try.sizeOf3 rfl rfl rfl) rfl ?_
           refine duE (A := fun w' => Ctx w' (Hold (pRo (pInt .u8)) [.slice a77 y68.B.length q78] y68.B :: Hold (pRo (pInt .u8)) [.slice a64 y55.B.length q65] y55.B :: B b0 [.int .i64 j1.Window, .int .i64 j1.Span, .int .i64 j1.Room, .int .i64 j1.Epoch, .int .i64 j1.Next, .int .i64 j1.Acked, .int .i64 j1.Sent, .int .i64 j1.Got, .slice (some ⟨b58, o59, none⟩) j1.Out.length q12, .slice a14 j1.Early.length q15, .bool j1.Owes] 61 :: Own S_ref16_Body.pr 88 (.slice (some ⟨b58, o59, none⟩) j1.Out.length q12) (j1.Out.set (j6).toNat ({ y79 with Since := (IntKind.i64.wrap (y68.Since + 1)) })) :: Own S_ref16_Early.pr 91 (.slice a14 j1.Early.length q15) j1.Early :: Own S_api_Seg.pr 46 (.slice a3 j2.length q5) j2 :: Fr)) (Ctx.ownPutOp hc (k := 3) rfl rfl (z := y79) (z' := { y79 with Since := (IntKind.i64.wrap (y68.Since + 1)) }) hy79 1 rfl (u := .int .i64 (IntKind.i64.wrap (y68.Since + 1))) rfl rfl rfl Try.sizeOf3 (fun _ _ _ h => by obtain ⟨_, _, rfl, rfl, ⟨_, _, rfl, rfl, ⟨_, rfl, hs85⟩⟩⟩ := h; exact ⟨_, _, rfl, rfl, ⟨_, _, rfl, rfl, ⟨_, rfl, hs85⟩⟩⟩) rfl) rfl rfl ?_
           clear hc; rintro w86 hc
           refine ⟨fun j hj hb => trivial, ?_⟩
           refine dn ?_
           refine qn ?_
           replace hc := hc.pull 4 rfl rfl
           replace hc := hc.pull 4 rfl rfl
           replace hc := hc.pull 4 rfl rfl
           replace hc : Ctx w86 (S_ref16_Link.hp b0 (⟨j1.Window, j1.Span, j1.Room, j1.Epoch, j1.Next, j1.Acked, j1.Sent, j1.Got, (j1.Out.set (j6).toNat ({ y79 with Since := (IntKind.i64.wrap (y68.Since + 1)) })), j1.Early, j1.Owes⟩ : S_ref16_Link) :: Hold (pRo (pInt .u8)) [.slice a77 y68.B.length q78] y68.B :: Hold (pRo (pInt .u8)) [.slice a64 y55.B.length q65] y55.B :: Own S_api_Seg.pr 46 (.slice a3 j2.length q5) j2 :: Fr) := Ctx.exB _ _ (Ctx.exB _ _ (Ctx.sepB (Ctx.sepB hc)))
           replace hc := hc.rem 2 rfl rfl
           replace hc := hc.rem 1 rfl rfl
           exact ⟨⟨(⟨j1.Window, j1.Span, j1.Room, j1.Epoch, j1.Next, j1.Acked, j1.Sent, j1.Got, (j1.Out.set (j6).toNat ({ y79 with Since := (IntKind.i64.wrap (y68.Since + 1)) })), j1.Early, j1.Owes⟩ : S_ref16_Link), rfl, hp, hc⟩, (kl rfl kb)⟩
       · clear hp hc; intro vs u w87 hJ
         obtain ⟨j54, rfl, hp, hc⟩ := hJ
         unfold ref16_Link_Tick.J4 at hp
         refine Wseq ?_
         refine Wseqm (39 :: 40 :: 41 :: 42 :: 43 :: 44 :: 45 :: 46 :: 47 :: 48 :: 49 :: 50 :: 51 :: 52 :: 53 :: 54 :: 55 :: 56 :: 57 :: 58 :: 59 :: 60 :: 61 :: 62 :: 63 :: 64 :: 65 :: 66 :: 67 :: 68 :: 69 :: 70 :: 71 :: 72 :: 73 :: 74 :: 75 :: 76 :: 77 :: 78 :: 79 :: 80 :: 81 :: 82 :: []) [82] (fun vs w' => ∃ j88 : Bool, vs = [.bool j88] ∧ ref16_Link_Tick.J5 j2 j6 j54 (ref16_Link_Tick.L1 m1) j88 = some r ∧ Ctx w' (S_ref16_Link.hp b0 j54 :: Own S_api_Seg.pr 46 (.slice a3 j2.length q5) j2 :: Fr)) ?_ ?_
         · replace hc := Ctx.exF hc; obtain ⟨v89, hc⟩ := hc
           replace hc := Ctx.exF hc; obtain ⟨v90, hc⟩ := hc
           replace hc := Ctx.sepF hc
           replace hc := Ctx.sepF hc
           obtain ⟨a91, q92, u93⟩ := hc.rd (k := 1) rfl rfl reads_own; subst u93
           obtain ⟨a94, q95, u96⟩ := hc.rd (k := 2) rfl rfl reads_own; subst u96
           replace hc := hc.drew
           refine Wdrw (fun _ w' => w' = World.drew w87) (0 :: 1 :: 3 :: 7 :: 0 :: 31 :: 63 :: 127 :: 0 :: 256 :: 768 :: 1792 :: 0 :: 4096 :: 12288 :: 28672 :: 65280 :: 131071 :: 262143 :: 524287 :: 1048575 :: 2097151 :: 4194303 :: 524287 :: 16777215 :: 33554431 :: 67108863 :: 134217727 :: 268435455 :: 536870911 :: 1073741823 :: 2147483647 :: 4294967295 :: 536870911 :: 17179869183 :: 34359738367 :: 68719476735 :: 536870911 :: 137975824383 :: 412853731327 :: 962609545215 :: 2199023255551 :: 4398046511103 :: 8796093022207 :: []) 0 0 rfl (by kernel_rfl) (fun _ _ => rfl) ?_
           generalize hw : World.drew w87 = w97 at *
           clear hw
           refine ds (v := .pointer (some ⟨b0, 0, none⟩)) rfl (fun w' hF => by subst hF; exact mv (v := .pointer (some ⟨b0, 0, none⟩)) rfl) rfl ?_
           refine ds (v := .pointer (some ⟨b0, 0, none⟩)) rfl (fun w' hF => by subst hF; exact nl rfl) rfl ?_
           refine ds (v := .pointer (some ⟨b0, 8, none⟩)) rfl (fun w' hF => by subst hF; exact fax 8 rfl Try.underlying61 rfl Try.sizeOf58 rfl rfl rfl) rfl ?_
           refine ds (v := .slice a91 j54.Out.length q92) rfl (fun w' hF => by subst hF; exact ld rfl Try.isAgg58 (Ctx.cell hc (k := 0) rfl rfl rfl)) rfl ?_
           refine ds (v := .int .i64 j6) rfl (fun w' hF => by subst hF; exact mv (v := .int .i64 j6) rfl) rfl ?_
           replace hp := bind_some hp; obtain ⟨y98, hy98, hp⟩ := hp
           obtain ⟨b101, o102, u103, hi99, hi100⟩ := Ctx.rdAt hc (k := 1) rfl rfl reads_own hy98
           subst u103
           refine ds (v := .pointer (some ⟨b101, o102 + (j6).toNat * 3, none⟩)) rfl (fun w' hF => by subst hF; exact ixx rfl rfl Try.underlying58 Try.sizeOf88 hi99 hi100 rfl) rfl ?_
           refine ds (v := .pointer (some ⟨b101, o102 + (j6).toNat * 3 + 0, none⟩)) rfl (fun w' hF => by subst hF; exact fax 0 rfl Try.underlying88 rfl Try.sizeOf3 rfl rfl rfl) rfl ?_
           replace hc := Ctx.rdCell hc (k := 1) rfl rfl reads_own hy98; obtain ⟨cs104, hc, hcell105⟩ := hc
           replace hc := S_ref16_Body.op hc; obtain ⟨a107, q108, u106, hc⟩ := hc; subst u106
           refine ds (v := .int .i64 y98.Seq) rfl (fun w' hF => by subst hF; exact ld rfl Try.isAgg3 (hcell105 0 _ rfl)) rfl ?_
           refine ds (v := .pointer (some ⟨b0, 0, none⟩)) rfl (fun w' hF => by subst hF; exact mv (v := .pointer (some ⟨b0, 0, none⟩)) rfl) rfl ?_
           refine ds (v := .pointer (some ⟨b0, 0, none⟩)) rfl (fun w' hF => by subst hF; exact nl rfl) rfl ?_
           refine ds (v := .pointer (some ⟨b0, 5, none⟩)) rfl (fun w' hF => by subst hF; exact fax 5 rfl Try.underlying61 rfl Try.sizeOf3 rfl rfl rfl) rfl ?_
           refine ds (v := .int .i64 j54.Acked) rfl (fun w' hF => by subst hF; exact ld rfl Try.isAgg3 (Ctx.cell hc (k := 1) rfl rfl rfl)) rfl ?_
           refine ds (v := .pointer (some ⟨b0, 0, none⟩)) rfl (fun w' hF => by subst hF; exact mv (v := .pointer (some ⟨b0, 0, none⟩)) rfl) rfl ?_
           refine ds (v := .pointer (some ⟨b0, 0, none⟩)) rfl (fun w' hF => by subst hF; exact nl rfl) rfl ?_
           refine ds (v := .pointer (some ⟨b0, 0, none⟩)) rfl (fun w' hF => by subst hF; exact fax 0 rfl Try.underlying61 rfl Try.sizeOf3 rfl rfl rfl) rfl ?_
           refine ds (v := .int .i64 j54.Window) rfl (fun w' hF => by subst hF; exact ld rfl Try.isAgg3 (Ctx.cell hc (k := 1) rfl rfl rfl)) rfl ?_
           refine ds (v := .int .i64 (IntKind.i64.wrap (j54.Acked + j54.Window))) rfl (fun w' hF => by subst hF; exact adw rfl rfl) rfl ?_
           refine ds (v := .bool (decide (y98.Seq > (IntKind.i64.wrap (j54.Acked + j54.Window))))) rfl (fun w' hF => by subst hF; exact gt' rfl rfl) rfl ?_
           refine ds (v := .bool (decide (y98.Seq > (IntKind.i64.wrap (j54.Acked + j54.Window))))) rfl (fun w' hF => by subst hF; exact mv (v := .bool (decide (y98.Seq > (IntKind.i64.wrap (j54.Acked + j54.Window))))) rfl) rfl ?_
           cases hb109 : (decide (y98.Seq > (IntKind.i64.wrap (j54.Acked + j54.Window))))
           · replace hp := gneg hp (of_decide_eq_false hb109)
             refine ds (v := .pointer (some ⟨b0, 0, none⟩)) rfl (fun w' hF => by subst hF; exact mv (v := .pointer (some ⟨b0, 0, none⟩)) rfl) rfl ?_
             refine ds (v := .pointer (some ⟨b0, 0, none⟩)) rfl (fun w' hF => by subst hF; exact nl rfl) rfl ?_
             refine ds (v := .pointer (some ⟨b0, 8, none⟩)) rfl (fun w' hF => by subst hF; exact fax 8 rfl Try.underlying61 rfl Try.sizeOf58 rfl rfl rfl) rfl ?_
             refine ds (v := .slice (some ⟨b101, o102, none⟩) j54.Out.length q92) rfl (fun w' hF => by subst hF; exact ld rfl Try.isAgg58 (Ctx.cell hc (k := 1) rfl rfl rfl)) rfl ?_
             refine ds (v := .int .i64 j6) rfl (fun w' hF => by subst hF; exact mv (v := .int .i64 j6) rfl) rfl ?_
             replace hp := bind_some hp; obtain ⟨y110, hy110, hp⟩ := hp
             obtain ⟨b113, o114, u115, hi111, hi112⟩ := Ctx.rdAt hc (k := 2) rfl rfl reads_own hy110
             clear u115
             refine ds (v := .pointer (some ⟨b101, o102 + (j6).toNat * 3, none⟩)) rfl (fun w' hF => by subst hF; exact ixx rfl rfl Try.underlying58 Try.sizeOf88 hi111 hi112 rfl) rfl ?_
             refine ds (v := .pointer (some ⟨b101, o102 + (j6).toNat * 3 + 1, none⟩)) rfl (fun w' hF => by subst hF; exact fax 1 rfl Try.underlying88 rfl Try.sizeOf3 rfl rfl rfl) rfl ?_
             replace hc := Ctx.rdCell hc (k := 2) rfl rfl reads_own hy110; obtain ⟨cs116, hc, hcell117⟩ := hc
             replace hc := S_ref16_Body.op hc; obtain ⟨a119, q120, u118, hc⟩ := hc; subst u118
             refine ds (v := .int .i64 y110.Since) rfl (fun w' hF => by subst hF; exact ld rfl Try.isAgg3 (hcell117 1 _ rfl)) rfl ?_
             refine ds (v := .bool (decide (y110.Since ≥ 0))) rfl (fun w' hF => by subst hF; exact ge' rfl rfl) rfl ?_
             refine ds (v := .bool (decide (y110.Since ≥ 0))) rfl (fun w' hF => by subst hF; exact mv (v := .bool (decide (y110.Since ≥ 0))) rfl) rfl ?_
             cases hb121 : (decide (y110.Since ≥ 0))
             · replace hp := gneg hp (of_decide_eq_false hb121)
               refine d0 rfl rfl ?_
               refine d0 rfl rfl ?_
               refine d0 rfl rfl ?_
               refine d0 rfl rfl ?_
               refine d0 rfl rfl ?_
               refine d0 rfl rfl ?_
               refine d0 rfl rfl ?_
               refine d0 rfl rfl ?_
               refine d0 rfl rfl ?_
               refine d0 rfl rfl ?_
               refine d0 rfl rfl ?_
               refine d0 rfl rfl ?_
               refine d0 rfl rfl ?_
               refine ds (v := .bool false) rfl (fun w' hF => by subst hF; exact pkf (v := .bool false) rfl rfl) rfl ?_
               refine ds (v := .bool false) rfl (fun w' hF => by subst hF; exact pkf (v := .bool false) rfl rfl) rfl ?_
               refine dn ?_
               refine qn ?_
               replace hc := hc.pull 4 rfl rfl
               replace hc := hc.pull 4 rfl rfl
               replace hc := hc.pull 4 rfl rfl
               replace hc : Ctx w97 (S_ref16_Link.hp b0 j54 :: Hold (pRo (pInt .u8)) [.slice a119 y110.B.length q120] y110.B :: Hold (pRo (pInt .u8)) [.slice a107 y98.B.length q108] y98.B :: Own S_api_Seg.pr 46 (.slice a3 j2.length q5) j2 :: Fr) := Ctx.exB _ _ (Ctx.exB _ _ (Ctx.sepB (Ctx.sepB hc)))
               replace hc := hc.rem 2 rfl rfl
               replace hc := hc.rem 1 rfl rfl
               exact ⟨⟨false, rfl, hp, hc⟩, (kl rfl kb)⟩
             · replace hp := gpos hp (of_decide_eq_true hb121)
               refine ds (v := .pointer (some ⟨b0, 0, none⟩)) rfl (fun w' hF => by subst hF; exact mv (v := .pointer (some ⟨b0, 0, none⟩)) rfl) rfl ?_
               refine ds (v := .pointer (some ⟨b0, 0, none⟩)) rfl (fun w' hF => by subst hF; exact nl rfl) rfl ?_
               refine ds (v := .pointer (some ⟨b0, 8, none⟩)) rfl (fun w' hF => by subst hF; exact fax 8 rfl Try.underlying61 rfl Try.sizeOf58 rfl rfl rfl) rfl ?_
               refine ds (v := .slice (some ⟨b101, o102, none⟩) j54.Out.length q92) rfl (fun w' hF => by subst hF; exact ld rfl Try.isAgg58 (Ctx.cell hc (k := 2) rfl rfl rfl)) rfl ?_
               refine ds (v := .int .i64 j6) rfl (fun w' hF => by subst hF; exact mv (v := .int .i64 j6) rfl) rfl ?_
               replace hp := bind_some hp; obtain ⟨y122, hy122, hp⟩ := hp
               obtain ⟨b125, o126, u127, hi123, hi124⟩ := Ctx.rdAt hc (k := 3) rfl rfl reads_own hy122
               clear u127
               refine ds (v := .pointer (some ⟨b101, o102 + (j6).toNat * 3, none⟩)) rfl (fun w' hF => by subst hF; exact ixx rfl rfl Try.underlying58 Try.sizeOf88 hi123 hi124 rfl) rfl ?_
               refine ds (v := .pointer (some ⟨b101, o102 + (j6).toNat * 3 + 1, none⟩)) rfl (fun w' hF => by subst hF; exact fax 1 rfl Try.underlying88 rfl Try.sizeOf3 rfl rfl rfl) rfl ?_
               replace hc := Ctx.rdCell hc (k := 3) rfl rfl reads_own hy122; obtain ⟨cs128, hc, hcell129⟩ := hc
               replace hc := S_ref16_Body.op hc; obtain ⟨a131, q132, u130, hc⟩ := hc; subst u130
               refine ds (v := .int .i64 y122.Since) rfl (fun w' hF => by subst hF; exact ld rfl Try.isAgg3 (hcell129 1 _ rfl)) rfl ?_
               refine ds (v := .pointer (some ⟨b0, 0, none⟩)) rfl (fun w' hF => by subst hF; exact mv (v := .pointer (some ⟨b0, 0, none⟩)) rfl) rfl ?_
               refine ds (v := .pointer (some ⟨b0, 0, none⟩)) rfl (fun w' hF => by subst hF; exact nl rfl) rfl ?_
               refine ds (v := .pointer (some ⟨b0, 1, none⟩)) rfl (fun w' hF => by subst hF; exact fax 1 rfl Try.underlying61 rfl Try.sizeOf3 rfl rfl rfl) rfl ?_
               refine ds (v := .int .i64 j54.Span) rfl (fun w' hF => by subst hF; exact ld rfl Try.isAgg3 (Ctx.cell hc (k := 3) rfl rfl rfl)) rfl ?_
               refine ds (v := .bool (decide (y122.Since < j54.Span))) rfl (fun w' hF => by subst hF; exact lt' rfl rfl) rfl ?_
               refine ds (v := .bool (decide (y122.Since < j54.Span))) rfl (fun w' hF => by subst hF; exact pkt (v := .bool (decide (y122.Since < j54.Span))) rfl rfl) rfl ?_
               refine ds (v := .bool (decide (y122.Since < j54.Span))) rfl (fun w' hF => by subst hF; exact pkf (v := .bool (decide (y122.Since < j54.Span))) rfl rfl) rfl ?_
               refine dn ?_
               refine qn ?_
               replace hc := hc.pull 5 rfl rfl
               replace hc := hc.pull 5 rfl rfl
               replace hc := hc.pull 5 rfl rfl
               replace hc : Ctx w97 (S_ref16_Link.hp b0 j54 :: Hold (pRo (pInt .u8)) [.slice a131 y122.B.length q132] y122.B :: Hold (pRo (pInt .u8)) [.slice a119 y110.B.length q120] y110.B :: Hold (pRo (pInt .u8)) [.slice a107 y98.B.length q108] y98.B :: Own S_api_Seg.pr 46 (.slice a3 j2.length q5) j2 :: Fr) := Ctx.exB _ _ (Ctx.exB _ _ (Ctx.sepB (Ctx.sepB hc)))
               replace hc := hc.rem 3 rfl rfl
               replace hc := hc.rem 2 rfl rfl
               replace hc := hc.rem 1 rfl rfl
               exact ⟨⟨decide (y122.Since < j54.Span), rfl, hp, hc⟩, (kl rfl kb)⟩
           · replace hp := gpos hp (of_decide_eq_true hb109)
             refine d0 rfl rfl ?_
             refine d0 rfl rfl ?_
             refine d0 rfl rfl ?_
             refine d0 rfl rfl ?_
             refine d0 rfl rfl ?_
             refine d0 rfl rfl ?_
             refine d0 rfl rfl ?_
             refine d0 rfl rfl ?_
             refine d0 rfl rfl ?_
             refine d0 rfl rfl ?_
             refine d0 rfl rfl ?_
             refine d0 rfl rfl ?_
             refine d0 rfl rfl ?_
             refine d0 rfl rfl ?_
             refine d0 rfl rfl ?_
             refine d0 rfl rfl ?_
             refine d0 rfl rfl ?_
             refine d0 rfl rfl ?_
             refine d0 rfl rfl ?_
             refine d0 rfl rfl ?_
             refine d0 rfl rfl ?_
             refine d0 rfl rfl ?_
             refine d0 rfl rfl ?_
             refine d0 rfl rfl ?_
             refine ds (v := .bool true) rfl (fun w' hF => by subst hF; exact pkt (v := .bool true) rfl rfl) rfl ?_
             refine dn ?_
             refine qn ?_
             replace hc := hc.pull 3 rfl rfl
             replace hc := hc.pull 3 rfl rfl
             replace hc := hc.pull 3 rfl rfl
             replace hc : Ctx w97 (S_ref16_Link.hp b0 j54 :: Hold (pRo (pInt .u8)) [.slice a107 y98.B.length q108] y98.B :: Own S_api_Seg.pr 46 (.slice a3 j2.length q5) j2 :: Fr) := Ctx.exB _ _ (Ctx.exB _ _ (Ctx.sepB (Ctx.sepB hc)))
             replace hc := hc.rem 1 rfl rfl
             exact ⟨⟨true, rfl, hp, hc⟩, (kl rfl kb)⟩
         · clear hp hc; intro vs u w133 hJ
           obtain ⟨j88, rfl, hp, hc⟩ := hJ
           unfold ref16_Link_Tick.J5 at hp
           cases hb134 : j88
           · replace hp := gneg hp (by rw [hb134]; exact Bool.false_ne_true)
             subst hb134
             refine Wcf rfl ?_
             refine Wskip ?_
             refine qn ?_
             refine Wseq ?_
             refine Wreg ?_
             refine rs (v := .pointer (some ⟨b0, 0, none⟩)) (mv (v := .pointer (some ⟨b0, 0, none⟩)) rfl) rfl ?_
             refine rs (v := .pointer (some ⟨b0, 0, none⟩)) (nl rfl) rfl ?_
             refine rs (v := .pointer (some ⟨b0, 8, none⟩)) (fax 8 rfl Try.underlying61 rfl Try.sizeOf58 rfl rfl rfl) rfl ?_
             replace hc := Ctx.exF hc; obtain ⟨v135, hc⟩ := hc
             replace hc := Ctx.exF hc; obtain ⟨v136, hc⟩ := hc
             replace hc := Ctx.sepF hc
             replace hc := Ctx.sepF hc
             obtain ⟨a137, q138, u139⟩ := hc.rd (k := 1) rfl rfl reads_own; subst u139
             obtain ⟨a140, q141, u142⟩ := hc.rd (k := 2) rfl rfl reads_own; subst u142
             refine rs (v := .slice a137 j54.Out.length q138) (ld rfl Try.isAgg58 (Ctx.cell hc (k := 0) rfl rfl rfl)) rfl ?_
             refine rs (v := .int .i64 j6) (mv (v := .int .i64 j6) rfl) rfl ?_
             replace hp := bind_some hp; obtain ⟨y143, hy143, hp⟩ := hp
             obtain ⟨b146, o147, u148, hi144, hi145⟩ := Ctx.rdAt hc (k := 1) rfl rfl reads_own hy143
             subst u148
             refine rs (v := .pointer (some ⟨b146, o147 + (j6).toNat * 3, none⟩)) (ixx rfl rfl Try.underlying58 Try.sizeOf88 hi144 hi145 rfl) rfl ?_
             refine rs (v := .pointer (some ⟨b146, o147 + (j6).toNat * 3 + 1, none⟩)) (fax 1 rfl Try.underlying88 rfl Try.sizeOf3 rfl rfl rfl) rfl ?_
             refine ruE (A := fun w' => Ctx w' (B b0 [.int .i64 j54.Window, .int .i64 j54.Span, .int .i64 j54.Room, .int .i64 j54.Epoch, .int .i64 j54.Next, .int .i64 j54.Acked, .int .i64 j54.Sent, .int .i64 j54.Got, .slice (some ⟨b146, o147, none⟩) j54.Out.length q138, .slice a140 j54.Early.length q141, .bool j54.Owes] 61 :: Own S_ref16_Body.pr 88 (.slice (some ⟨b146, o147, none⟩) j54.Out.length q138) (j54.Out.set (j6).toNat ({ y143 with Since := 0 })) :: Own S_ref16_Early.pr 91 (.slice a140 j54.Early.length q141) j54.Early :: Own S_api_Seg.pr 46 (.slice a3 j2.length q5) j2 :: Fr)) (Ctx.ownPutOp hc (k := 1) rfl rfl (z := y143) (z' := { y143 with Since := 0 }) hy143 1 rfl (u := .int .i64 0) rfl rfl rfl Try.sizeOf3 (fun _ _ _ h => by obtain ⟨_, _, rfl, rfl, ⟨_, _, rfl, rfl, ⟨_, rfl, hs149⟩⟩⟩ := h; exact ⟨_, _, rfl, rfl, ⟨_, _, rfl, rfl, ⟨_, rfl, hs149⟩⟩⟩) rfl) rfl ?_
             clear hc; rintro w150 hc
             refine rn ?_
             refine qn ?_
             refine Wseqm [90, 91, 92, 93, 94, 95, 96, 97, 98, 99, 100, 101, 102, 103, 104, 105, 106, 107, 108, 109, 110, 111, 112, 113] [] (fun vs w' => ∃ j151 : S_ref16_Link, vs = [] ∧ ref16_Link_Tick.J6 j2 j6 (ref16_Link_Tick.L1 m1) j151 = some r ∧ Ctx w' (S_ref16_Link.hp b0 j151 :: Own S_api_Seg.pr 46 (.slice a3 j2.length q5) j2 :: Fr)) ?_ ?_
             · refine Wseq ?_
               replace hc := hc.drew
               refine Wdrw (fun _ w' => w' = World.drew w150) [0, 1, 3, 7, 0, 31, 63, 127, 0, 256, 768, 1792, 4095] 0 0 rfl (by kernel_rfl) (fun _ _ => rfl) ?_
               generalize hw : World.drew w150 = w152 at *
               clear hw
               refine ds (v := .pointer (some ⟨b0, 0, none⟩)) rfl (fun w' hF => by subst hF; exact mv (v := .pointer (some ⟨b0, 0, none⟩)) rfl) rfl ?_
               refine ds (v := .pointer (some ⟨b0, 0, none⟩)) rfl (fun w' hF => by subst hF; exact nl rfl) rfl ?_
               refine ds (v := .pointer (some ⟨b0, 8, none⟩)) rfl (fun w' hF => by subst hF; exact fax 8 rfl Try.underlying61 rfl Try.sizeOf58 rfl rfl rfl) rfl ?_
               refine ds (v := .slice (some ⟨b146, o147, none⟩) j54.Out.length q138) rfl (fun w' hF => by subst hF; exact ld rfl Try.isAgg58 (Ctx.cell hc (k := 0) rfl rfl rfl)) rfl ?_
               refine ds (v := .int .i64 j6) rfl (fun w' hF => by subst hF; exact mv (v := .int .i64 j6) rfl) rfl ?_
               replace hp := bind_some hp; obtain ⟨y153, hy153, hp⟩ := hp
               obtain ⟨b156, o157, u158, hi154, hi155⟩ := Ctx.rdAt hc (k := 1) rfl rfl reads_own hy153
               clear u158
               refine ds (v := .pointer (some ⟨b146, o147 + (j6).toNat * 3, none⟩)) rfl (fun w' hF => by subst hF; exact ixx rfl rfl Try.underlying58 Try.sizeOf88 hi154 hi155 rfl) rfl ?_
               refine ds (v := .pointer (some ⟨b146, o147 + (j6).toNat * 3 + 0, none⟩)) rfl (fun w' hF => by subst hF; exact fax 0 rfl Try.underlying88 rfl Try.sizeOf3 rfl rfl rfl) rfl ?_
               replace hc := Ctx.rdCell hc (k := 1) rfl rfl reads_own hy153; obtain ⟨cs159, hc, hcell160⟩ := hc
               replace hc := S_ref16_Body.op hc; obtain ⟨a162, q163, u161, hc⟩ := hc; subst u161
               refine ds (v := .int .i64 y153.Seq) rfl (fun w' hF => by subst hF; exact ld rfl Try.isAgg3 (hcell160 0 _ rfl)) rfl ?_
               refine ds (v := .pointer (some ⟨b0, 0, none⟩)) rfl (fun w' hF => by subst hF; exact mv (v := .pointer (some ⟨b0, 0, none⟩)) rfl) rfl ?_
               refine ds (v := .pointer (some ⟨b0, 0, none⟩)) rfl (fun w' hF => by subst hF; exact nl rfl) rfl ?_
               refine ds (v := .pointer (some ⟨b0, 6, none⟩)) rfl (fun w' hF => by subst hF; exact fax 6 rfl Try.underlying61 rfl Try.sizeOf3 rfl rfl rfl) rfl ?_
               refine ds (v := .int .i64 j54.Sent) rfl (fun w' hF => by subst hF; exact ld rfl Try.isAgg3 (Ctx.cell hc (k := 1) rfl rfl rfl)) rfl ?_
               refine ds (v := .bool (decide (y153.Seq > j54.Sent))) rfl (fun w' hF => by subst hF; exact gt' rfl rfl) rfl ?_
               refine dn ?_
               refine qn ?_
               cases hb164 : (decide (y153.Seq > j54.Sent))
               · replace hp := gneg hp (of_decide_eq_false hb164)
                 refine Wcf rfl ?_
                 refine Wskip ?_
                 refine qn ?_
                 replace hc := hc.pull 3 rfl rfl
                 replace hc := hc.pull 3 rfl rfl
                 replace hc := hc.pull 3 rfl rfl
                 replace hc : Ctx w152 (S_ref16_Link.hp b0 (⟨j54.Window, j54.Span, j54.Room, j54.Epoch, j54.Next, j54.Acked, j54.Sent, j54.Got, (j54.Out.set (j6).toNat ({ y143 with Since := 0 })), j54.Early, j54.Owes⟩ : S_ref16_Link) :: Hold (pRo (pInt .u8)) [.slice a162 y153.B.length q163] y153.B :: Own S_api_Seg.pr 46 (.slice a3 j2.length q5) j2 :: Fr) := Ctx.exB _ _ (Ctx.exB _ _ (Ctx.sepB (Ctx.sepB hc)))
                 replace hc := hc.rem 1 rfl rfl
                 exact ⟨⟨(⟨j54.Window, j54.Span, j54.Room, j54.Epoch, j54.Next, j54.Acked, j54.Sent, j54.Got, (j54.Out.set (j6).toNat ({ y143 with Since := 0 })), j54.Early, j54.Owes⟩ : S_ref16_Link), rfl, hp, hc⟩, (kl rfl kb)⟩
               · replace hp := gpos hp (of_decide_eq_true hb164)
                 refine Wct rfl ?_
                 refine Wreg ?_
                 refine rs (v := .pointer (some ⟨b0, 0, none⟩)) (mv (v := .pointer (some ⟨b0, 0, none⟩)) rfl) rfl ?_
                 refine rs (v := .pointer (some ⟨b0, 0, none⟩)) (mv (v := .pointer (some ⟨b0, 0, none⟩)) rfl) rfl ?_
                 refine rs (v := .pointer (some ⟨b0, 0, none⟩)) (nl rfl) rfl ?_
                 refine rs (v := .pointer (some ⟨b0, 8, none⟩)) (fax 8 rfl Try.underlying61 rfl Try.sizeOf58 rfl rfl rfl) rfl ?_
                 refine rs (v := .slice (some ⟨b146, o147, none⟩) j54.Out.length q138) (ld rfl Try.isAgg58 (Ctx.cell hc (k := 1) rfl rfl rfl)) rfl ?_
                 refine rs (v := .int .i64 j6) (mv (v := .int .i64 j6) rfl) rfl ?_
                 replace hp := bind_some hp; obtain ⟨y165, hy165, hp⟩ := hp
                 obtain ⟨b168, o169, u170, hi166, hi167⟩ := Ctx.rdAt hc (k := 2) rfl rfl reads_own hy165
                 clear u170
                 refine rs (v := .pointer (some ⟨b146, o147 + (j6).toNat * 3, none⟩)) (ixx rfl rfl Try.underlying58 Try.sizeOf88 hi166 hi167 rfl) rfl ?_
                 refine rs (v := .pointer (some ⟨b146, o147 + (j6).toNat * 3 + 0, none⟩)) (fax 0 rfl Try.underlying88 rfl Try.sizeOf3 rfl rfl rfl) rfl ?_
                 replace hc := Ctx.rdCell hc (k := 2) rfl rfl reads_own hy165; obtain ⟨cs171, hc, hcell172⟩ := hc
                 replace hc := S_ref16_Body.op hc; obtain ⟨a174, q175, u173, hc⟩ := hc; subst u173
                 refine rs (v := .int .i64 y165.Seq) (ld rfl Try.isAgg3 (hcell172 0 _ rfl)) rfl ?_
                 refine rs (v := .pointer (some ⟨b0, 0, none⟩)) (nl rfl) rfl ?_
                 refine rs (v := .pointer (some ⟨b0, 6, none⟩)) (fax 6 rfl Try.underlying61 rfl Try.sizeOf3 rfl rfl rfl) rfl ?_
                 refine ruE (A := fun w' => Ctx w' (Hold (pRo (pInt .u8)) [.slice a174 y165.B.length q175] y165.B :: Hold (pRo (pInt .u8)) [.slice a162 y153.B.length q163] y153.B :: B b0 [.int .i64 j54.Window, .int .i64 j54.Span, .int .i64 j54.Room, .int .i64 j54.Epoch, .int .i64 j54.Next, .int .i64 j54.Acked, .int .i64 y165.Seq, .int .i64 j54.Got, .slice (some ⟨b146, o147, none⟩) j54.Out.length q138, .slice a140 j54.Early.length q141, .bool j54.Owes] 61 :: Own S_ref16_Body.pr 88 (.slice (some ⟨b146, o147, none⟩) j54.Out.length q138) (j54.Out.set (j6).toNat ({ y143 with Since := 0 })) :: Own S_ref16_Early.pr 91 (.slice a140 j54.Early.length q141) j54.Early :: Own S_api_Seg.pr 46 (.slice a3 j2.length q5) j2 :: Fr)) (Ctx.putOp hc (k := 2) rfl rfl (v := .int .i64 y165.Seq) rfl rfl rfl Try.sizeOf3 rfl rfl rfl) rfl ?_
                 clear hc; rintro w176 hc
                 refine rn ?_
                 refine qn ?_
                 replace hc := hc.pull 4 rfl rfl
                 replace hc := hc.pull 4 rfl rfl
                 replace hc := hc.pull 4 rfl rfl
                 replace hc : Ctx w176 (S_ref16_Link.hp b0 (⟨j54.Window, j54.Span, j54.Room, j54.Epoch, j54.Next, j54.Acked, y165.Seq, j54.Got, (j54.Out.set (j6).toNat ({ y143 with Since := 0 })), j54.Early, j54.Owes⟩ : S_ref16_Link) :: Hold (pRo (pInt .u8)) [.slice a174 y165.B.length q175] y165.B :: Hold (pRo (pInt .u8)) [.slice a162 y153.B.length q163] y153.B :: Own S_api_Seg.pr 46 (.slice a3 j2.length q5) j2 :: Fr) := Ctx.exB _ _ (Ctx.exB _ _ (Ctx.sepB (Ctx.sepB hc)))
                 replace hc := hc.rem 2 rfl rfl
                 replace hc := hc.rem 1 rfl rfl
                 exact ⟨⟨(⟨j54.Window, j54.Span, j54.Room, j54.Epoch, j54.Next, j54.Acked, y165.Seq, j54.Got, (j54.Out.set (j6).toNat ({ y143 with Since := 0 })), j54.Early, j54.Owes⟩ : S_ref16_Link), rfl, hp, hc⟩, (kl rfl kb)⟩
             · clear hp hc; intro vs u w177 hJ
               obtain ⟨j151, rfl, hp, hc⟩ := hJ
               unfold ref16_Link_Tick.J6 at hp
               replace hc := Ctx.exF hc; obtain ⟨v178, hc⟩ := hc
               replace hc := Ctx.exF hc; obtain ⟨v179, hc⟩ := hc
               replace hc := Ctx.sepF hc
               replace hc := Ctx.sepF hc
               obtain ⟨a180, q181, u182⟩ := hc.rd (k := 1) rfl rfl reads_own; subst u182
               obtain ⟨a183, q184, u185⟩ := hc.rd (k := 2) rfl rfl reads_own; subst u185
               replace hc := hc.drew
               refine Wdrw (fun j w' => True) (0 :: 0 :: 2 :: 6 :: 14 :: 0 :: 32 :: 96 :: 224 :: 0 :: 992 :: 2016 :: 4064 :: 0 :: 8192 :: 24576 :: 57344 :: 0 :: 131072 :: 393216 :: 917504 :: 0 :: 4063232 :: 8257536 :: 16646144 :: 33554430 :: 67108862 :: 134217727 :: 268435455 :: []) 0 17895696 rfl (by kernel_rfl) (fun _ _ => trivial) ?_
               generalize hw : World.drew w177 = w186 at *
               clear hw
               refine ds (v := .slice a3 j2.length q5) rfl (fun w' hF => mv (v := .slice a3 j2.length q5) rfl) rfl ?_
               refine ds (v := .pointer (some ⟨b0, 0, none⟩)) rfl (fun w' hF => mv (v := .pointer (some ⟨b0, 0, none⟩)) rfl) rfl ?_
               refine ds (v := .pointer (some ⟨b0, 0, none⟩)) rfl (fun w' hF => nl rfl) rfl ?_
               refine ds (v := .pointer (some ⟨b0, 3, none⟩)) rfl (fun w' hF => fax 3 rfl Try.underlying61 rfl Try.sizeOf3 rfl rfl rfl) rfl ?_
               refine dx (v := .int .i64 j151.Epoch) rfl (ld rfl Try.isAgg3 (Ctx.cell hc (k := 0) rfl rfl rfl)) rfl rfl ?_
               refine ds (v := .pointer (some ⟨b0, 0, none⟩)) rfl (fun w' hF => mv (v := .pointer (some ⟨b0, 0, none⟩)) rfl) rfl ?_
               refine ds (v := .pointer (some ⟨b0, 0, none⟩)) rfl (fun w' hF => nl rfl) rfl ?_
               refine ds (v := .pointer (some ⟨b0, 8, none⟩)) rfl (fun w' hF => fax 8 rfl Try.underlying61 rfl Try.sizeOf58 rfl rfl rfl) rfl ?_
               refine dx (v := .slice a180 j151.Out.length q181) rfl (ld rfl Try.isAgg58 (Ctx.cell hc (k := 0) rfl rfl rfl)) rfl rfl ?_
               refine ds (v := .int .i64 j6) rfl (fun w' hF => mv (v := .int .i64 j6) rfl) rfl ?_
               replace hp := bind_some hp; obtain ⟨y187, hy187, hp⟩ := hp
               obtain ⟨b190, o191, u192, hi188, hi189⟩ := Ctx.rdAt hc (k := 1) rfl rfl reads_own hy187
               subst u192
               refine ds (v := .pointer (some ⟨b190, o191 + (j6).toNat * 3, none⟩)) rfl (fun w' hF => ixx rfl rfl Try.underlying58 Try.sizeOf88 hi188 hi189 rfl) rfl ?_
               refine ds (v := .pointer (some ⟨b190, o191 + (j6).toNat * 3 + 0, none⟩)) rfl (fun w' hF => fax 0 rfl Try.underlying88 rfl Try.sizeOf3 rfl rfl rfl) rfl ?_
               replace hc := Ctx.rdCell hc (k := 1) rfl rfl reads_own hy187; obtain ⟨cs193, hc, hcell194⟩ := hc
               replace hc := S_ref16_Body.op hc; obtain ⟨a196, q197, u195, hc⟩ := hc; subst u195
               refine dx (v := .int .i64 y187.Seq) rfl (ld rfl Try.isAgg3 (hcell194 0 _ rfl)) rfl rfl ?_
               refine ds (v := .pointer (some ⟨b0, 0, none⟩)) rfl (fun w' hF => mv (v := .pointer (some ⟨b0, 0, none⟩)) rfl) rfl ?_
               refine ds (v := .pointer (some ⟨b0, 0, none⟩)) rfl (fun w' hF => nl rfl) rfl ?_
               refine ds (v := .pointer (some ⟨b0, 7, none⟩)) rfl (fun w' hF => fax 7 rfl Try.underlying61 rfl Try.sizeOf3 rfl rfl rfl) rfl ?_
               refine dx (v := .int .i64 j151.Got) rfl (ld rfl Try.isAgg3 (Ctx.cell hc (k := 1) rfl rfl rfl)) rfl rfl ?_
               refine ds (v := .pointer (some ⟨b0, 0, none⟩)) rfl (fun w' hF => mv (v := .pointer (some ⟨b0, 0, none⟩)) rfl) rfl ?_
               refine ds (v := .pointer (some ⟨b0, 0, none⟩)) rfl (fun w' hF => nl rfl) rfl ?_
               refine ds (v := .pointer (some ⟨b0, 8, none⟩)) rfl (fun w' hF => fax 8 rfl Try.underlying61 rfl Try.sizeOf58 rfl rfl rfl) rfl ?_
               refine dx (v := .slice (some ⟨b190, o191, none⟩) j151.Out.length q181) rfl (ld rfl Try.isAgg58 (Ctx.cell hc (k := 1) rfl rfl rfl)) rfl rfl ?_
               refine ds (v := .int .i64 j6) rfl (fun w' hF => mv (v := .int .i64 j6) rfl) rfl ?_
               replace hp := bind_some hp; obtain ⟨y198, hy198, hp⟩ := hp
               obtain ⟨b201, o202, u203, hi199, hi200⟩ := Ctx.rdAt hc (k := 2) rfl rfl reads_own hy198
               clear u203
               refine ds (v := .pointer (some ⟨b190, o191 + (j6).toNat * 3, none⟩)) rfl (fun w' hF => ixx rfl rfl Try.underlying58 Try.sizeOf88 hi199 hi200 rfl) rfl ?_
               refine ds (v := .pointer (some ⟨b190, o191 + (j6).toNat * 3 + 2, none⟩)) rfl (fun w' hF => fax 2 rfl Try.underlying88 rfl Try.sizeOf38 rfl rfl rfl) rfl ?_
               replace hc := Ctx.rdCell hc (k := 2) rfl rfl reads_own hy198; obtain ⟨cs204, hc, hcell205⟩ := hc
               replace hc := S_ref16_Body.op hc; obtain ⟨a207, q208, u206, hc⟩ := hc; subst u206
               refine dx (v := .slice a207 y198.B.length q208) rfl (ld rfl Try.isAgg38 (hcell205 2 _ rfl)) rfl rfl ?_
               refine ds (v := .agg #[.int .i64 j151.Epoch, .int .i64 y187.Seq, .int .i64 j151.Got, .slice a207 y198.B.length q208]) rfl (fun w' hF => bd_46_0_1_2_3 rfl rfl rfl rfl) rfl ?_
               replace hc := hc.dup (k := 0) rfl rfl
               replace hc : Ctx w186 (Hold S_api_Seg.pr [.int .i64 j151.Epoch, .int .i64 y187.Seq, .int .i64 j151.Got, .slice a207 y198.B.length q208] (⟨j151.Epoch, y187.Seq, j151.Got, y198.B⟩ : S_api_Seg) :: Hold (pRo (pInt .u8)) [.slice a207 y198.B.length q208] y198.B :: Hold (pRo (pInt .u8)) [.slice a196 y187.B.length q197] y187.B :: B b0 [.int .i64 j151.Window, .int .i64 j151.Span, .int .i64 j151.Room, .int .i64 j151.Epoch, .int .i64 j151.Next, .int .i64 j151.Acked, .int .i64 j151.Sent, .int .i64 j151.Got, .slice (some ⟨b190, o191, none⟩) j151.Out.length q181, .slice a183 j151.Early.length q184, .bool j151.Owes] 61 :: Own S_ref16_Body.pr 88 (.slice (some ⟨b190, o191, none⟩) j151.Out.length q181) j151.Out :: Own S_ref16_Early.pr 91 (.slice a183 j151.Early.length q184) j151.Early :: Own S_api_Seg.pr 46 (.slice a3 j2.length q5) j2 :: Fr) := S_api_Seg.cl hc
               refine deE (Ctx.builtOp (css := [[.int .i64 j151.Epoch, .int .i64 y187.Seq, .int .i64 j151.Got, .slice a207 y198.B.length q208]]) (xs := ([(⟨j151.Epoch, y187.Seq, j151.Got, y198.B⟩ : S_api_Seg)] : List S_api_Seg)) (E := S_api_Seg.pr) hc Try.underlying29 Try.sizeOf46 Try.zeroValue46 rfl rfl rfl rfl rfl rfl rfl rfl) rfl rfl ?_
               clear hc; rintro _ w210 ⟨a209, rfl, hc⟩
               refine ⟨fun j hj hb => trivial, ?_⟩
               replace hp := bind_some hp; obtain ⟨z211, hz211, hp⟩ := hp
               obtain ⟨hg212, e213⟩ := app_some hz211
               refine deE (Ctx.append hc (k := 6) rfl rfl (k2 := 0) rfl rfl reads_own Try.underlying29 (i := Try.t46) rfl rfl rfl rfl rfl rfl rfl rfl hg212) rfl rfl ?_
               clear hc; rintro _ w216 ⟨a214, q215, rfl, hc⟩
               rw [← e213] at hc ⊢
               refine ⟨fun j hj hb => trivial, ?_⟩
               refine ds (v := .slice a214 z211.length q215) rfl (fun w' hF => av (v := .slice a214 z211.length q215) rfl) rfl ?_
               refine dn ?_
               refine bn ?_
               refine qn ?_
               replace hc := hc.pull 5 rfl rfl
               replace hc := hc.pull 5 rfl rfl
               replace hc := hc.pull 5 rfl rfl
               replace hc : Ctx w216 (S_ref16_Link.hp b0 j151 :: Own S_api_Seg.pr 46 (.slice a209 1 1) ([(⟨j151.Epoch, y187.Seq, j151.Got, y198.B⟩ : S_api_Seg)]) :: Hold (pRo (pInt .u8)) [.slice a207 y198.B.length q208] y198.B :: Hold (pRo (pInt .u8)) [.slice a196 y187.B.length q197] y187.B :: Own S_api_Seg.pr 46 (.slice a214 z211.length q215) z211 :: Fr) := Ctx.exB _ _ (Ctx.exB _ _ (Ctx.sepB (Ctx.sepB hc)))
               replace hc := hc.rem 3 rfl rfl
               replace hc := hc.rem 2 rfl rfl
               replace hc := hc.rem 1 rfl rfl
               exact ⟨⟨j151, z211, a214, z211.length, q215, rfl, hp, hc⟩, (kl rfl (km rfl (kl rfl (km rfl (kl rfl (km rfl (kl rfl kb)))))))⟩
           · replace hp := gpos hp hb134
             subst hb134
             refine Wct rfl ?_
             refine Wexit ?_
             refine qx ?_
             refine be ?_
             refine qn ?_
             exact ⟨⟨j54, j2, a3, j2.length, q5, rfl, hp, hc⟩, (kl rfl (km rfl (kl rfl (km rfl (kl rfl kb)))))⟩
     · clear hp hc; intro vs u w217 hJ
       obtain ⟨j49, j50, a51, n52, q53, rfl, hp, hc⟩ := hJ
       obtain ⟨u218, _⟩ := Ctx.rdLen hc (k := 1) rfl rfl reads_own; subst u218
       unfold ref16_Link_Tick.J3 at hp
       refine Wreg ?_
       refine rs (v := .int .i64 j6) (mv (v := .int .i64 j6) rfl) rfl ?_
       refine rs (v := .int .i64 (IntKind.i64.wrap (j6 + 1))) (adw rfl rfl) rfl ?_
       refine rs (v := .int .i64 (IntKind.i64.wrap (j6 + 1))) (av (v := .int .i64 (IntKind.i64.wrap (j6 + 1))) rfl) rfl ?_
       refine rn ?_
       refine qn ?_
       exact ⟨m1, Nat.lt_succ_self _, ⟨j49, j50, (IntKind.i64.wrap (j6 + 1)), a51, j50.length, q53, rfl, hp, hc⟩, (kl rfl (km rfl (kl rfl k0)))⟩

-- FN (*peloton/pelotonref16.Link).Hear
theorem bd_91_0_1 {ρ : Operand → Value} {w : World} {dst : Option Nat} {ty : TypeId} {pos : String} {after : Array Edge} {g : Option (Nat × Bool)} {x0 x1 : Operand} {k0 : IntKind} {a0 : Int} {a1 : Option Addr} {l1 c1 : Nat} (h0 : ρ x0 = (.int k0 a0)) (h1 : ρ x1 = (.slice a1 l1 c1)) :
    (execOp ρ ⟨dst, .build 91 #[(0, x0), (1, x1)], ty, pos, after, g⟩).run Try.prog w = .ok (.value (.agg #[(.int k0 a0), (.slice a1 l1 c1)])) w := by
  simp [execOp, Instr.build, Instr.fill, Try.zeroValue91, Try.runUnderlying91, Try.sizeOf3, Try.sizeOf38, h0, h1, Value.cells]

def ref16_Link_Hear.J8 (j136 : S_ref16_Link) (j141 : Int) (k7 : S_ref16_Link → (List S_ref16_Early) → Int → Option ((List (List Int)) × Int × S_ref16_Link)) (j154 : (List S_ref16_Early)) : Option ((List (List Int)) × Int × S_ref16_Link) :=
  k7 j136 j154 (IntKind.i64.wrap (j141 + 1))

def ref16_Link_Hear.L7 (z130 : (List (List Int))) (k6 : S_ref16_Link → (List (List Int)) → Option ((List (List Int)) × Int × S_ref16_Link)) : Nat → S_ref16_Link → (List S_ref16_Early) → Int → Option ((List (List Int)) × Int × S_ref16_Link)
  | 0, _, _, _ => none
  | m7 + 1, j136, j137, j141 =>
    if j141 < ((j136.Early.length : Nat) : Int) then
      (idx j136.Early j141).bind fun y159 =>
      if y159.Seq ≠ j136.Got then
        (idx j136.Early j141).bind fun y171 =>
        (app j137 ([y171])).bind fun z184 =>
        ref16_Link_Hear.J8 j136 j141 (ref16_Link_Hear.L7 z130 k6 m7) z184
      else
        ref16_Link_Hear.J8 j136 j141 (ref16_Link_Hear.L7 z130 k6 m7) j137
    else
      k6 (⟨j136.Window, j136.Span, j136.Room, j136.Epoch, j136.Next, j136.Acked, j136.Sent, j136.Got, j136.Out, j137, j136.Owes⟩ : S_ref16_Link) z130

def ref16_Link_Hear.L6 (N : Nat) : Nat → S_ref16_Link → (List (List Int)) → Option ((List (List Int)) × Int × S_ref16_Link)
  | 0, _, _ => none
  | m6 + 1, j95, j96 =>
    (ref16_Link_find N j95 (IntKind.i64.wrap (j95.Got + 1))).bind fun r110 =>
    if r110 ≥ 0 then
      (ref16_Link_find N (⟨j95.Window, j95.Span, j95.Room, j95.Epoch, j95.Next, j95.Acked, j95.Sent, (IntKind.i64.wrap (j95.Got + 1)), j95.Out, j95.Early, j95.Owes⟩ : S_ref16_Link) (IntKind.i64.wrap (j95.Got + 1))).bind fun r115 =>
      (idx j95.Early r115).bind fun y117 =>
      (app j96 ([y117.B])).bind fun z130 =>
      ref16_Link_Hear.L7 z130 (ref16_Link_Hear.L6 N m6) N (⟨j95.Window, j95.Span, j95.Room, j95.Epoch, j95.Next, j95.Acked, j95.Sent, (IntKind.i64.wrap (j95.Got + 1)), j95.Out, j95.Early, j95.Owes⟩ : S_ref16_Link) ([]) 0
    else
      some (j96, 0, j95)

def ref16_Link_Hear.J4 (N : Nat) (j58 : S_ref16_Link) : Option ((List (List Int)) × Int × S_ref16_Link) :=
  ref16_Link_Hear.L6 N N j58 ([])

def ref16_Link_Hear.J5 (N : Nat) (x1 : S_api_Seg) (j59 : S_ref16_Link) (j60 : Bool) : Option ((List (List Int)) × Int × S_ref16_Link) :=
  if j60 = true then
    (app ([]) x1.Body).bind fun z79 =>
    (app j59.Early ([(⟨x1.Seq, z79⟩ : S_ref16_Early)])).bind fun z87 =>
    ref16_Link_Hear.J4 N (⟨j59.Window, j59.Span, j59.Room, j59.Epoch, j59.Next, j59.Acked, j59.Sent, j59.Got, j59.Out, z87, j59.Owes⟩ : S_ref16_Link)
  else
    ref16_Link_Hear.J4 N j59

def ref16_Link_Hear.J9 (j43 : Int) (k3 : (List S_ref16_Body) → Int → Option ((List (List Int)) × Int × S_ref16_Link)) (j192 : (List S_ref16_Body)) : Option ((List (List Int)) × Int × S_ref16_Link) :=
  k3 j192 (IntKind.i64.wrap (j43 + 1))

def ref16_Link_Hear.L3 (N : Nat) (x1 : S_api_Seg) (j26 : S_ref16_Link) : Nat → (List S_ref16_Body) → Int → Option ((List (List Int)) × Int × S_ref16_Link)
  | 0, _, _ => none
  | m3 + 1, j39, j43 =>
    if j43 < ((j26.Out.length : Nat) : Int) then
      (idx j26.Out j43).bind fun y197 =>
      if y197.Seq > j26.Acked then
        (idx j26.Out j43).bind fun y209 =>
        (app j39 ([y209])).bind fun z222 =>
        ref16_Link_Hear.J9 j43 (ref16_Link_Hear.L3 N x1 j26 m3) z222
      else
        ref16_Link_Hear.J9 j43 (ref16_Link_Hear.L3 N x1 j26 m3) j39
    else
      if x1.Seq = 0 then
        some ([], 0, (⟨j26.Window, j26.Span, j26.Room, j26.Epoch, j26.Next, j26.Acked, j26.Sent, j26.Got, j39, j26.Early, j26.Owes⟩ : S_ref16_Link))
      else
        if x1.Seq > j26.Got then
          if x1.Seq ≤ (IntKind.i64.wrap (j26.Got + j26.Window)) then
            (ref16_Link_find N (⟨j26.Window, j26.Span, j26.Room, j26.Epoch, j26.Next, j26.Acked, j26.Sent, j26.Got, j39, j26.Early, true⟩ : S_ref16_Link) x1.Seq).bind fun r64 =>
            ref16_Link_Hear.J5 N x1 (⟨j26.Window, j26.Span, j26.Room, j26.Epoch, j26.Next, j26.Acked, j26.Sent, j26.Got, j39, j26.Early, true⟩ : S_ref16_Link) (decide (r64 < 0))
          else
            ref16_Link_Hear.J5 N x1 (⟨j26.Window, j26.Span, j26.Room, j26.Epoch, j26.Next, j26.Acked, j26.Sent, j26.Got, j39, j26.Early, true⟩ : S_ref16_Link) false
        else
          ref16_Link_Hear.J5 N x1 (⟨j26.Window, j26.Span, j26.Room, j26.Epoch, j26.Next, j26.Acked, j26.Sent, j26.Got, j39, j26.Early, true⟩ : S_ref16_Link) false

def ref16_Link_Hear.J2 (N : Nat) (x1 : S_api_Seg) (j26 : S_ref16_Link) : Option ((List (List Int)) × Int × S_ref16_Link) :=
  ref16_Link_Hear.L3 N x1 j26 N ([]) 0

def ref16_Link_Hear.J1 (N : Nat) (x0 : S_ref16_Link) (x1 : S_api_Seg) (j18 : Bool) : Option ((List (List Int)) × Int × S_ref16_Link) :=
  if j18 = true then
    some ([], 150, x0)
  else
    if x1.Ack > x0.Acked then
      ref16_Link_Hear.J2 N x1 (⟨x0.Window, x0.Span, x0.Room, x0.Epoch, x0.Next, x1.Ack, x0.Sent, x0.Got, x0.Out, x0.Early, x0.Owes⟩ : S_ref16_Link)
    else
      ref16_Link_Hear.J2 N x1 x0

def ref16_Link_Hear (N : Nat) (x0 : S_ref16_Link) (x1 : S_api_Seg) : Option ((List (List Int)) × Int × S_ref16_Link) :=
  if x1.Epoch ≠ x0.Epoch then
    some ([], 160, x0)
  else
    if x1.Ack < 0 then
      ref16_Link_Hear.J1 N x0 x1 true
    else
      if x1.Ack > x0.Sent then
        ref16_Link_Hear.J1 N x0 x1 true
      else
        if x1.Seq < 0 then
          ref16_Link_Hear.J1 N x0 x1 true
        else
          if x1.Seq = 0 then
            ref16_Link_Hear.J1 N x0 x1 (decide (((x1.Body.length : Nat) : Int) > 0))
          else
            ref16_Link_Hear.J1 N x0 x1 false

set_option maxHeartbeats 8000000 in
theorem ref16_Link_Hear_any {N : Nat} {b0 : Nat} {x0 : S_ref16_Link} {x1 : S_api_Seg} {a1 : Option Addr} {n2 : Nat} {q3 : Nat} {Fr : List HP} {w : World} {r : (List (List Int)) × Int × S_ref16_Link} {K : Value → World → Prop}  (hc : Ctx w (S_ref16_Link.hp b0 x0 :: Hold (pRo (pInt .u8)) [.slice a1 n2 q3] x1.Body :: Fr)) (hp : ref16_Link_Hear N x0 x1 = some r)
    (k : ∀ (a230 : Option Addr) (n231 : Nat) (q232 : Nat) w', Ctx w' (Own (pRo (pInt .u8)) 38 (.slice a230 n231 q232) r.1 :: S_ref16_Link.hp b0 r.2.2 :: Fr) → K (.tuple #[.slice a230 n231 q232, .int .i64 r.2.1]) w') : Calls Try.prog 21 #[.pointer (some ⟨b0, 0, none⟩), .agg #[.int .i64 x1.Epoch, .int .i64 x1.Seq, .int .i64 x1.Ack, .slice a1 n2 q3]] w (Ret K) := by
 unfold ref16_Link_Hear at hp
 refine Center (args := [.pointer (some ⟨b0, 0, none⟩), .agg #[.int .i64 x1.Epoch, .int .i64 x1.Seq, .int .i64 x1.Ack, .slice a1 n2 q3]]) (l := [(0, .pointer (some ⟨b0, 0, none⟩)), (1, .agg #[.int .i64 x1.Epoch, .int .i64 x1.Seq, .int .i64 x1.Ack, .slice a1 n2 q3])]) Try.func21 Try.ntmps21 rfl rfl rfl ?_
 obtain ⟨u4, _⟩ := Ctx.rdLen hc (k := 1) rfl rfl reads_ro; subst u4
 refine Wseq ?_
 refine Wreg ?_
 refine rsE (Ctx.boxOp (cs := [.int .i64 x1.Epoch, .int .i64 x1.Seq, .int .i64 x1.Ack, .slice a1 x1.Body.length q3]) (v := .agg #[.int .i64 x1.Epoch, .int .i64 x1.Seq, .int .i64 x1.Ack, .slice a1 x1.Body.length q3]) hc rfl rfl) rfl ?_
 clear hc; rintro _ w7 ⟨b5, rfl, hc⟩
 refine rs (v := .slice none 0 0) (av (v := .slice none 0 0) rfl) rfl ?_
 refine rs (v := .int .i64 0) (av (v := .int .i64 0) rfl) rfl ?_
 refine rn ?_
 refine qn ?_
 refine Wseq ?_
 refine Wseq ?_
 replace hc := hc.pull 1 rfl rfl
 replace hc := Ctx.exF hc; obtain ⟨v8, hc⟩ := hc
 replace hc := Ctx.exF hc; obtain ⟨v9, hc⟩ := hc
 replace hc := Ctx.sepF hc
 replace hc := Ctx.sepF hc
 obtain ⟨a10, q11, u12⟩ := hc.rd (k := 1) rfl rfl reads_own; subst u12
 obtain ⟨a13, q14, u15⟩ := hc.rd (k := 2) rfl rfl reads_own; subst u15
 replace hc := hc.drew
 refine Wdrw (fun _ w' => w' = World.drew w7) [0, 1, 0, 4, 12, 28, 63] 0 0 rfl (by kernel_rfl) (fun _ _ => rfl) ?_
 generalize hw : World.drew w7 = w16 at *
 clear hw
 refine ds (v := .pointer (some ⟨b5, 0, none⟩)) rfl (fun w' hF => by subst hF; exact fax 0 rfl Try.underlying46 rfl Try.sizeOf3 rfl rfl rfl) rfl ?_
 refine ds (v := .int .i64 x1.Epoch) rfl (fun w' hF => by subst hF; exact ld rfl Try.isAgg3 (Ctx.cell hc (k := 3) rfl rfl rfl)) rfl ?_
 refine ds (v := .pointer (some ⟨b0, 0, none⟩)) rfl (fun w' hF => by subst hF; exact mv (v := .pointer (some ⟨b0, 0, none⟩)) rfl) rfl ?_
 refine ds (v := .pointer (some ⟨b0, 0, none⟩)) rfl (fun w' hF => by subst hF; exact nl rfl) rfl ?_
 refine ds (v := .pointer (some ⟨b0, 3, none⟩)) rfl (fun w' hF => by subst hF; exact fax 3 rfl Try.underlying61 rfl Try.sizeOf3 rfl rfl rfl) rfl ?_
 refine ds (v := .int .i64 x0.Epoch) rfl (fun w' hF => by subst hF; exact ld rfl Try.isAgg3 (Ctx.cell hc (k := 0) rfl rfl rfl)) rfl ?_
 refine ds (v := .bool (decide (x1.Epoch ≠ x0.Epoch))) rfl (fun w' hF => by subst hF; exact ned rfl rfl) rfl ?_
 refine dn ?_
 refine qn ?_
 cases hb17 : (decide (x1.Epoch ≠ x0.Epoch))
 · replace hp := gneg hp (of_decide_eq_false hb17)
   refine Wcf rfl ?_
   refine Wskip ?_
   refine qn ?_
   refine Wseq ?_
   refine Wseqm [18, 19, 20, 21, 22, 23, 24, 25, 26, 27, 28, 29, 30, 31, 32, 33, 34, 35, 36, 37, 38, 39, 40, 41, 42, 43, 44, 45] [45] (fun vs w' => ∃ j18 : Bool, vs = [.bool j18] ∧ ref16_Link_Hear.J1 N x0 x1 j18 = some r ∧ Ctx w' (S_ref16_Link.hp b0 x0 :: B b5 [.int .i64 x1.Epoch, .int .i64 x1.Seq, .int .i64 x1.Ack, .slice a1 x1.Body.length q3] 46 :: Hold (pRo (pInt .u8)) [.slice a1 x1.Body.length q3] x1.Body :: Fr)) ?_ ?_
   · replace hc := hc.drew
     refine Wdrw (fun _ w' => w' = World.drew w16) [0, 1, 3, 7, 15, 31, 15, 79, 207, 463, 1023, 2047, 4095, 8191, 16383, 32767, 65535, 131071, 262143, 524287, 1048575, 2097151, 4194303, 8388607, 16777215, 33554431, 67108863, 134217727] 0 0 rfl (by kernel_rfl) (fun _ _ => rfl) ?_
     generalize hw : World.drew w16 = w19 at *
     clear hw
     refine ds (v := .pointer (some ⟨b5, 2, none⟩)) rfl (fun w' hF => by subst hF; exact fax 2 rfl Try.underlying46 rfl Try.sizeOf3 rfl rfl rfl) rfl ?_
     refine ds (v := .int .i64 x1.Ack) rfl (fun w' hF => by subst hF; exact ld rfl Try.isAgg3 (Ctx.cell hc (k := 3) rfl rfl rfl)) rfl ?_
     refine ds (v := .bool (decide (x1.Ack < 0))) rfl (fun w' hF => by subst hF; exact lt' rfl rfl) rfl ?_
     refine ds (v := .bool (decide (x1.Ack < 0))) rfl (fun w' hF => by subst hF; exact mv (v := .bool (decide (x1.Ack < 0))) rfl) rfl ?_
     cases hb20 : (decide (x1.Ack < 0))
     · replace hp := gneg hp (of_decide_eq_false hb20)
       refine ds (v := .pointer (some ⟨b5, 2, none⟩)) rfl (fun w' hF => by subst hF; exact fax 2 rfl Try.underlying46 rfl Try.sizeOf3 rfl rfl rfl) rfl ?_
       refine ds (v := .int .i64 x1.Ack) rfl (fun w' hF => by subst hF; exact ld rfl Try.isAgg3 (Ctx.cell hc (k := 3) rfl rfl rfl)) rfl ?_
       refine ds (v := .pointer (some ⟨b0, 0, none⟩)) rfl (fun w' hF => by subst hF; exact mv (v := .pointer (some ⟨b0, 0, none⟩)) rfl) rfl ?_
       refine ds (v := .pointer (some ⟨b0, 0, none⟩)) rfl (fun w' hF => by subst hF; exact nl rfl) rfl ?_
       refine ds (v := .pointer (some ⟨b0, 6, none⟩)) rfl (fun w' hF => by subst hF; exact fax 6 rfl Try.underlying61 rfl Try.sizeOf3 rfl rfl rfl) rfl ?_
       refine ds (v := .int .i64 x0.Sent) rfl (fun w' hF => by subst hF; exact ld rfl Try.isAgg3 (Ctx.cell hc (k := 0) rfl rfl rfl)) rfl ?_
       refine ds (v := .bool (decide (x1.Ack > x0.Sent))) rfl (fun w' hF => by subst hF; exact gt' rfl rfl) rfl ?_
       refine ds (v := .bool (decide (x1.Ack > x0.Sent))) rfl (fun w' hF => by subst hF; exact pkf (v := .bool (decide (x1.Ack > x0.Sent))) rfl rfl) rfl ?_
       refine ds (v := .bool (decide (x1.Ack > x0.Sent))) rfl (fun w' hF => by subst hF; exact mv (v := .bool (decide (x1.Ack > x0.Sent))) rfl) rfl ?_
       cases hb21 : (decide (x1.Ack > x0.Sent))
       · replace hp := gneg hp (of_decide_eq_false hb21)
         refine ds (v := .pointer (some ⟨b5, 1, none⟩)) rfl (fun w' hF => by subst hF; exact fax 1 rfl Try.underlying46 rfl Try.sizeOf3 rfl rfl rfl) rfl ?_
         refine ds (v := .int .i64 x1.Seq) rfl (fun w' hF => by subst hF; exact ld rfl Try.isAgg3 (Ctx.cell hc (k := 3) rfl rfl rfl)) rfl ?_
         refine ds (v := .bool (decide (x1.Seq < 0))) rfl (fun w' hF => by subst hF; exact lt' rfl rfl) rfl ?_
         refine ds (v := .bool (decide (x1.Seq < 0))) rfl (fun w' hF => by subst hF; exact pkf (v := .bool (decide (x1.Seq < 0))) rfl rfl) rfl ?_
         refine ds (v := .bool (decide (x1.Seq < 0))) rfl (fun w' hF => by subst hF; exact mv (v := .bool (decide (x1.Seq < 0))) rfl) rfl ?_
         cases hb22 : (decide (x1.Seq < 0))
         · replace hp := gneg hp (of_decide_eq_false hb22)
           refine ds (v := .pointer (some ⟨b5, 1, none⟩)) rfl (fun w' hF => by subst hF; exact fax 1 rfl Try.underlying46 rfl Try.sizeOf3 rfl rfl rfl) rfl ?_
           refine ds (v := .int .i64 x1.Seq) rfl (fun w' hF => by subst hF; exact ld rfl Try.isAgg3 (Ctx.cell hc (k := 3) rfl rfl rfl)) rfl ?_
           refine ds (v := .bool (decide (x1.Seq = 0))) rfl (fun w' hF => by subst hF; exact eqd rfl rfl) rfl ?_
           refine ds (v := .bool (decide (x1.Seq = 0))) rfl (fun w' hF => by subst hF; exact mv (v := .bool (decide (x1.Seq = 0))) rfl) rfl ?_
           cases hb23 : (decide (x1.Seq = 0))
           · replace hp := gneg hp (of_decide_eq_false hb23)
             refine d0 rfl rfl ?_
             refine d0 rfl rfl ?_
             refine d0 rfl rfl ?_
             refine d0 rfl rfl ?_
             refine ds (v := .bool false) rfl (fun w' hF => by subst hF; exact pkf (v := .bool false) rfl rfl) rfl ?_
             refine ds (v := .bool false) rfl (fun w' hF => by subst hF; exact pkf (v := .bool false) rfl rfl) rfl ?_
             refine dn ?_
             refine qn ?_
             replace hc := hc.pull 2 rfl rfl
             replace hc := hc.pull 2 rfl rfl
             replace hc := hc.pull 2 rfl rfl
             replace hc : Ctx w19 (S_ref16_Link.hp b0 x0 :: B b5 [.int .i64 x1.Epoch, .int .i64 x1.Seq, .int .i64 x1.Ack, .slice a1 x1.Body.length q3] 46 :: Hold (pRo (pInt .u8)) [.slice a1 x1.Body.length q3] x1.Body :: Fr) := Ctx.exB _ _ (Ctx.exB _ _ (Ctx.sepB (Ctx.sepB hc)))
             exact ⟨⟨false, rfl, hp, hc⟩, (kl rfl kb)⟩
           · replace hp := gpos hp (of_decide_eq_true hb23)
             refine ds (v := .pointer (some ⟨b5, 3, none⟩)) rfl (fun w' hF => by subst hF; exact fax 3 rfl Try.underlying46 rfl Try.sizeOf38 rfl rfl rfl) rfl ?_
             refine ds (v := .slice a1 x1.Body.length q3) rfl (fun w' hF => by subst hF; exact ld rfl Try.isAgg38 (Ctx.cell hc (k := 3) rfl rfl rfl)) rfl ?_
             refine ds (v := .int .i64 ((x1.Body.length : Nat) : Int)) rfl (fun w' hF => by subst hF; exact ln rfl Try.underlying38) rfl ?_
             refine ds (v := .bool (decide (((x1.Body.length : Nat) : Int) > 0))) rfl (fun w' hF => by subst hF; exact gt' rfl rfl) rfl ?_
             refine ds (v := .bool (decide (((x1.Body.length : Nat) : Int) > 0))) rfl (fun w' hF => by subst hF; exact pkt (v := .bool (decide (((x1.Body.length : Nat) : Int) > 0))) rfl rfl) rfl ?_
             refine ds (v := .bool (decide (((x1.Body.length : Nat) : Int) > 0))) rfl (fun w' hF => by subst hF; exact pkf (v := .bool (decide (((x1.Body.length : Nat) : Int) > 0))) rfl rfl) rfl ?_
             refine dn ?_
             refine qn ?_
             replace hc := hc.pull 2 rfl rfl
             replace hc := hc.pull 2 rfl rfl
             replace hc := hc.pull 2 rfl rfl
             replace hc : Ctx w19 (S_ref16_Link.hp b0 x0 :: B b5 [.int .i64 x1.Epoch, .int .i64 x1.Seq, .int .i64 x1.Ack, .slice a1 x1.Body.length q3] 46 :: Hold (pRo (pInt .u8)) [.slice a1 x1.Body.length q3] x1.Body :: Fr) := Ctx.exB _ _ (Ctx.exB _ _ (Ctx.sepB (Ctx.sepB hc)))
             exact ⟨⟨decide (((x1.Body.length : Nat) : Int) > 0), rfl, hp, hc⟩, (kl rfl kb)⟩
         · replace hp := gpos hp (of_decide_eq_true hb22)
           refine d0 rfl rfl ?_
           refine d0 rfl rfl ?_
           refine d0 rfl rfl ?_
           refine d0 rfl rfl ?_
           refine d0 rfl rfl ?_
           refine d0 rfl rfl ?_
           refine d0 rfl rfl ?_
           refine d0 rfl rfl ?_
           refine d0 rfl rfl ?_
           refine ds (v := .bool true) rfl (fun w' hF => by subst hF; exact pkt (v := .bool true) rfl rfl) rfl ?_
           refine dn ?_
           refine qn ?_
           replace hc := hc.pull 2 rfl rfl
           replace hc := hc.pull 2 rfl rfl
           replace hc := hc.pull 2 rfl rfl
           replace hc : Ctx w19 (S_ref16_Link.hp b0 x0 :: B b5 [.int .i64 x1.Epoch, .int .i64 x1.Seq, .int .i64 x1.Ack, .slice a1 x1.Body.length q3] 46 :: Hold (pRo (pInt .u8)) [.slice a1 x1.Body.length q3] x1.Body :: Fr) := Ctx.exB _ _ (Ctx.exB _ _ (Ctx.sepB (Ctx.sepB hc)))
           exact ⟨⟨true, rfl, hp, hc⟩, (kl rfl kb)⟩
       · replace hp := gpos hp (of_decide_eq_true hb21)
         refine d0 rfl rfl ?_
         refine d0 rfl rfl ?_
         refine d0 rfl rfl ?_
         refine ds (v := .bool true) rfl (fun w' hF => by subst hF; exact pkt (v := .bool true) rfl rfl) rfl ?_
         refine ds (v := .bool true) rfl (fun w' hF => by subst hF; exact mv (v := .bool true) rfl) rfl ?_
         refine d0 rfl rfl ?_
         refine d0 rfl rfl ?_
         refine d0 rfl rfl ?_
         refine d0 rfl rfl ?_
         refine d0 rfl rfl ?_
         refine d0 rfl rfl ?_
         refine d0 rfl rfl ?_
         refine d0 rfl rfl ?_
         refine d0 rfl rfl ?_
         refine ds (v := .bool true) rfl (fun w' hF => by subst hF; exact pkt (v := .bool true) rfl rfl) rfl ?_
         refine dn ?_
         refine qn ?_
         replace hc := hc.pull 2 rfl rfl
         replace hc := hc.pull 2 rfl rfl
         replace hc := hc.pull 2 rfl rfl
         replace hc : Ctx w19 (S_ref16_Link.hp b0 x0 :: B b5 [.int .i64 x1.Epoch, .int .i64 x1.Seq, .int .i64 x1.Ack, .slice a1 x1.Body.length q3] 46 :: Hold (pRo (pInt .u8)) [.slice a1 x1.Body.length q3] x1.Body :: Fr) := Ctx.exB _ _ (Ctx.exB _ _ (Ctx.sepB (Ctx.sepB hc)))
         exact ⟨⟨true, rfl, hp, hc⟩, (kl rfl kb)⟩
     · replace hp := gpos hp (of_decide_eq_true hb20)
       refine d0 rfl rfl ?_
       refine d0 rfl rfl ?_
       refine d0 rfl rfl ?_
       refine d0 rfl rfl ?_
       refine d0 rfl rfl ?_
       refine d0 rfl rfl ?_
       refine d0 rfl rfl ?_
       refine ds (v := .bool true) rfl (fun w' hF => by subst hF; exact pkt (v := .bool true) rfl rfl) rfl ?_
       refine ds (v := .bool true) rfl (fun w' hF => by subst hF; exact mv (v := .bool true) rfl) rfl ?_
       refine d0 rfl rfl ?_
       refine d0 rfl rfl ?_
       refine d0 rfl rfl ?_
       refine ds (v := .bool true) rfl (fun w' hF => by subst hF; exact pkt (v := .bool true) rfl rfl) rfl ?_
       refine ds (v := .bool true) rfl (fun w' hF => by subst hF; exact mv (v := .bool true) rfl) rfl ?_
       refine d0 rfl rfl ?_
       refine d0 rfl rfl ?_
       refine d0 rfl rfl ?_
       refine d0 rfl rfl ?_
       refine d0 rfl rfl ?_
       refine d0 rfl rfl ?_
       refine d0 rfl rfl ?_
       refine d0 rfl rfl ?_
       refine d0 rfl rfl ?_
       refine ds (v := .bool true) rfl (fun w' hF => by subst hF; exact pkt (v := .bool true) rfl rfl) rfl ?_
       refine dn ?_
       refine qn ?_
       replace hc := hc.pull 2 rfl rfl
       replace hc := hc.pull 2 rfl rfl
       replace hc := hc.pull 2 rfl rfl
       replace hc : Ctx w19 (S_ref16_Link.hp b0 x0 :: B b5 [.int .i64 x1.Epoch, .int .i64 x1.Seq, .int .i64 x1.Ack, .slice a1 x1.Body.length q3] 46 :: Hold (pRo (pInt .u8)) [.slice a1 x1.Body.length q3] x1.Body :: Fr) := Ctx.exB _ _ (Ctx.exB _ _ (Ctx.sepB (Ctx.sepB hc)))
       exact ⟨⟨true, rfl, hp, hc⟩, (kl rfl kb)⟩
   · clear hp hc; intro vs u w24 hJ
     obtain ⟨j18, rfl, hp, hc⟩ := hJ
     unfold ref16_Link_Hear.J1 at hp
     cases hb25 : j18
     · replace hp := gneg hp (by rw [hb25]; exact Bool.false_ne_true)
       subst hb25
       refine Wcf rfl ?_
       refine Wskip ?_
       refine qn ?_
       refine Wseqm [46, 47, 48, 49, 50, 51, 52, 53, 54, 55, 56, 57] [] (fun vs w' => ∃ j26 : S_ref16_Link, vs = [] ∧ ref16_Link_Hear.J2 N x1 j26 = some r ∧ Ctx w' (S_ref16_Link.hp b0 j26 :: B b5 [.int .i64 x1.Epoch, .int .i64 x1.Seq, .int .i64 x1.Ack, .slice a1 x1.Body.length q3] 46 :: Hold (pRo (pInt .u8)) [.slice a1 x1.Body.length q3] x1.Body :: Fr)) ?_ ?_
       · refine Wseq ?_
         replace hc := Ctx.exF hc; obtain ⟨v27, hc⟩ := hc
         replace hc := Ctx.exF hc; obtain ⟨v28, hc⟩ := hc
         replace hc := Ctx.sepF hc
         replace hc := Ctx.sepF hc
         obtain ⟨a29, q30, u31⟩ := hc.rd (k := 1) rfl rfl reads_own; subst u31
         obtain ⟨a32, q33, u34⟩ := hc.rd (k := 2) rfl rfl reads_own; subst u34
         replace hc := hc.drew
         refine Wdrw (fun _ w' => w' = World.drew w24) [0, 1, 0, 4, 12, 28, 63] 0 0 rfl (by kernel_rfl) (fun _ _ => rfl) ?_
         generalize hw : World.drew w24 = w35 at *
         clear hw
         refine ds (v := .pointer (some ⟨b5, 2, none⟩)) rfl (fun w' hF => by subst hF; exact fax 2 rfl Try.underlying46 rfl Try.sizeOf3 rfl rfl rfl) rfl ?_
         refine ds (v := .int .i64 x1.Ack) rfl (fun w' hF => by subst hF; exact ld rfl Try.isAgg3 (Ctx.cell hc (k := 3) rfl rfl rfl)) rfl ?_
         refine ds (v := .pointer (some ⟨b0, 0, none⟩)) rfl (fun w' hF => by subst hF; exact mv (v := .pointer (some ⟨b0, 0, none⟩)) rfl) rfl ?_
         refine ds (v := .pointer (some ⟨b0, 0, none⟩)) rfl (fun w' hF => by subst hF; exact nl rfl) rfl ?_
         refine ds (v := .pointer (some ⟨b0, 5, none⟩)) rfl (fun w' hF => by subst hF; exact fax 5 rfl Try.underlying61 rfl Try.sizeOf3 rfl rfl rfl) rfl ?_
         refine ds (v := .int .i64 x0.Acked) rfl (fun w' hF => by subst hF; exact ld rfl Try.isAgg3 (Ctx.cell hc (k := 0) rfl rfl rfl)) rfl ?_
         refine ds (v := .bool (decide (x1.Ack > x0.Acked))) rfl (fun w' hF => by subst hF; exact gt' rfl rfl) rfl ?_
         refine dn ?_
         refine qn ?_
         cases hb36 : (decide (x1.Ack > x0.Acked))
         · replace hp := gneg hp (of_decide_eq_false hb36)
           refine Wcf rfl ?_
           refine Wskip ?_
           refine qn ?_
           replace hc := hc.pull 2 rfl rfl
           replace hc := hc.pull 2 rfl rfl
           replace hc := hc.pull 2 rfl rfl
           replace hc : Ctx w35 (S_ref16_Link.hp b0 x0 :: B b5 [.int .i64 x1.Epoch, .int .i64 x1.Seq, .int .i64 x1.Ack, .slice a1 x1.Body.length q3] 46 :: Hold (pRo (pInt .u8)) [.slice a1 x1.Body.length q3] x1.Body :: Fr) := Ctx.exB _ _ (Ctx.exB _ _ (Ctx.sepB (Ctx.sepB hc)))
           exact ⟨⟨x0, rfl, hp, hc⟩, (kl rfl kb)⟩
         · replace hp := gpos hp (of_decide_eq_true hb36)
           refine Wct rfl ?_
           refine Wreg ?_
           refine rs (v := .pointer (some ⟨b0, 0, none⟩)) (mv (v := .pointer (some ⟨b0, 0, none⟩)) rfl) rfl ?_
           refine rs (v := .pointer (some ⟨b5, 2, none⟩)) (fax 2 rfl Try.underlying46 rfl Try.sizeOf3 rfl rfl rfl) rfl ?_
           refine rs (v := .int .i64 x1.Ack) (ld rfl Try.isAgg3 (Ctx.cell hc (k := 3) rfl rfl rfl)) rfl ?_
           refine rs (v := .pointer (some ⟨b0, 0, none⟩)) (nl rfl) rfl ?_
           refine rs (v := .pointer (some ⟨b0, 5, none⟩)) (fax 5 rfl Try.underlying61 rfl Try.sizeOf3 rfl rfl rfl) rfl ?_
           refine ruE (A := fun w' => Ctx w' (B b0 [.int .i64 x0.Window, .int .i64 x0.Span, .int .i64 x0.Room, .int .i64 x0.Epoch, .int .i64 x0.Next, .int .i64 x1.Ack, .int .i64 x0.Sent, .int .i64 x0.Got, .slice a29 x0.Out.length q30, .slice a32 x0.Early.length q33, .bool x0.Owes] 61 :: Own S_ref16_Body.pr 88 (.slice a29 x0.Out.length q30) x0.Out :: Own S_ref16_Early.pr 91 (.slice a32 x0.Early.length q33) x0.Early :: B b5 [.int .i64 x1.Epoch, .int .i64 x1.Seq, .int .i64 x1.Ack, .slice a1 x1.Body.length q3] 46 :: Hold (pRo (pInt .u8)) [.slice a1 x1.Body.length q3] x1.Body :: Fr)) (Ctx.putOp hc (k := 0) rfl rfl (v := .int .i64 x1.Ack) rfl rfl rfl Try.sizeOf3 rfl rfl rfl) rfl ?_
           clear hc; rintro w37 hc
           refine rn ?_
           refine qn ?_
           replace hc := hc.pull 2 rfl rfl
           replace hc := hc.pull 2 rfl rfl
           replace hc := hc.pull 2 rfl rfl
           replace hc : Ctx w37 (S_ref16_Link.hp b0 (⟨x0.Window, x0.Span, x0.Room, x0.Epoch, x0.Next, x1.Ack, x0.Sent, x0.Got, x0.Out, x0.Early, x0.Owes⟩ : S_ref16_Link) :: B b5 [.int .i64 x1.Epoch, .int .i64 x1.Seq, .int .i64 x1.Ack, .slice a1 x1.Body.length q3] 46 :: Hold (pRo (pInt .u8)) [.slice a1 x1.Body.length q3] x1.Body :: Fr) := Ctx.exB _ _ (Ctx.exB _ _ (Ctx.sepB (Ctx.sepB hc)))
           exact ⟨⟨(⟨x0.Window, x0.Span, x0.Room, x0.Epoch, x0.Next, x1.Ack, x0.Sent, x0.Got, x0.Out, x0.Early, x0.Owes⟩ : S_ref16_Link), rfl, hp, hc⟩, (kl rfl kb)⟩
       · clear hp hc; intro vs u w38 hJ
         obtain ⟨j26, rfl, hp, hc⟩ := hJ
         unfold ref16_Link_Hear.J2 at hp
         refine Wseq ?_
         refine Wreg ?_
         refine rs (v := .slice none 0 0) (av (v := .slice none 0 0) rfl) rfl ?_
         refine rn ?_
         refine qn ?_
         refine Wseq ?_
         refine Wseq ?_
         refine Wreg ?_
         refine rs (v := .int .i64 0) (av (v := .int .i64 0) rfl) rfl ?_
         refine rn ?_
         refine qn ?_
         refine Wblk ?_
         replace hc := hc.nilOwn S_ref16_Body.pr 88
         replace hc := hc.pull 3 rfl rfl
         replace hc := hc.pull 3 rfl rfl
         replace hc := hc.pull 3 rfl rfl
         refine Wloop (6 :: 7 :: 58 :: 59 :: 60 :: 61 :: 62 :: 63 :: 64 :: 65 :: 66 :: 67 :: 68 :: 69 :: 70 :: 71 :: 72 :: 73 :: 74 :: 75 :: 76 :: 77 :: 78 :: 79 :: 80 :: 81 :: 82 :: 83 :: 84 :: 85 :: 86 :: 87 :: 88 :: 89 :: []) [6, 7] (fun m vs w' => ∃ j39 : (List S_ref16_Body), ∃ j43 : Int, ∃ a40 : Option Addr, ∃ n41 : Nat, ∃ q42 : Nat, vs = [.slice a40 n41 q42, .int .i64 j43] ∧ ref16_Link_Hear.L3 N x1 j26 m j39 j43 = some r ∧ Ctx w' (S_ref16_Link.hp b0 j26 :: B b5 [.int .i64 x1.Epoch, .int .i64 x1.Seq, .int .i64 x1.Ack, .slice a1 x1.Body.length q3] 46 :: Hold (pRo (pInt .u8)) [.slice a1 x1.Body.length q3] x1.Body :: Own S_ref16_Body.pr 88 (.slice a40 n41 q42) j39 :: Fr)) N ?_ ?_
         · exact ⟨[], 0, none, 0, 0, rfl, hp, hc⟩
         · clear hp hc; intro m vs u w44 hJ
           obtain ⟨j39, j43, a40, n41, q42, rfl, hp, hc⟩ := hJ
           obtain ⟨u45, _⟩ := Ctx.rdLen hc (k := 3) rfl rfl reads_own; subst u45
           rcases m with _ | m3
           · cases (show none = some r from hp)
           rw [ref16_Link_Hear.L3] at hp
           refine Wseq ?_
           refine Wseq ?_
           refine Wreg ?_
           refine rs (v := .int .i64 j43) (mv (v := .int .i64 j43) rfl) rfl ?_
           refine rs (v := .pointer (some ⟨b0, 0, none⟩)) (mv (v := .pointer (some ⟨b0, 0, none⟩)) rfl) rfl ?_
           refine rs (v := .pointer (some ⟨b0, 0, none⟩)) (nl rfl) rfl ?_
           refine rs (v := .pointer (some ⟨b0, 8, none⟩)) (fax 8 rfl Try.underlying61 rfl Try.sizeOf58 rfl rfl rfl) rfl ?_
           replace hc := Ctx.exF hc; obtain ⟨v46, hc⟩ := hc
           replace hc := Ctx.exF hc; obtain ⟨v47, hc⟩ := hc
           replace hc := Ctx.sepF hc
           replace hc := Ctx.sepF hc
           obtain ⟨a48, q49, u50⟩ := hc.rd (k := 1) rfl rfl reads_own; subst u50
           obtain ⟨a51, q52, u53⟩ := hc.rd (k := 2) rfl rfl reads_own; subst u53
           refine rs (v := .slice a48 j26.Out.length q49) (ld rfl Try.isAgg58 (Ctx.cell hc (k := 0) rfl rfl rfl)) rfl ?_
           refine rs (v := .int .i64 ((j26.Out.length : Nat) : Int)) (ln rfl Try.underlying58) rfl ?_
           refine rs (v := .bool (decide (j43 < ((j26.Out.length : Nat) : Int)))) (lt' rfl rfl) rfl ?_
           refine rn ?_
           refine qn ?_
           cases hb54 : (decide (j43 < ((j26.Out.length : Nat) : Int)))
           · replace hp := gneg hp (of_decide_eq_false hb54)
             refine Wcf rfl ?_
             refine Wexit ?_
             refine qx ?_
             refine qx ?_
             refine be ?_
             refine qn ?_
             refine Wseq ?_
             refine Wreg ?_
             refine rs (v := .pointer (some ⟨b0, 0, none⟩)) (mv (v := .pointer (some ⟨b0, 0, none⟩)) rfl) rfl ?_
             refine rs (v := .slice a40 j39.length q42) (mv (v := .slice a40 j39.length q42) rfl) rfl ?_
             refine rs (v := .pointer (some ⟨b0, 0, none⟩)) (nl rfl) rfl ?_
             refine rs (v := .pointer (some ⟨b0, 8, none⟩)) (fax 8 rfl Try.underlying61 rfl Try.sizeOf58 rfl rfl rfl) rfl ?_
             refine ruE (A := fun w' => Ctx w' (B b0 [.int .i64 j26.Window, .int .i64 j26.Span, .int .i64 j26.Room, .int .i64 j26.Epoch, .int .i64 j26.Next, .int .i64 j26.Acked, .int .i64 j26.Sent, .int .i64 j26.Got, .slice a40 j39.length q42, .slice a51 j26.Early.length q52, .bool j26.Owes] 61 :: Own S_ref16_Body.pr 88 (.slice a48 j26.Out.length q49) j26.Out :: Own S_ref16_Early.pr 91 (.slice a51 j26.Early.length q52) j26.Early :: B b5 [.int .i64 x1.Epoch, .int .i64 x1.Seq, .int .i64 x1.Ack, .slice a1 x1.Body.length q3] 46 :: Hold (pRo (pInt .u8)) [.slice a1 x1.Body.length q3] x1.Body :: Own S_ref16_Body.pr 88 (.slice a40 j39.length q42) j39 :: Fr)) (Ctx.putOp hc (k := 0) rfl rfl (v := .slice a40 j39.length q42) rfl rfl rfl Try.sizeOf58 rfl rfl rfl) rfl ?_
             clear hc; rintro w55 hc
             refine rn ?_
             refine qn ?_
             refine Wseq ?_
             refine Wseq ?_
             refine Wreg ?_
             refine rs (v := .pointer (some ⟨b5, 1, none⟩)) (fax 1 rfl Try.underlying46 rfl Try.sizeOf3 rfl rfl rfl) rfl ?_
             refine rs (v := .int .i64 x1.Seq) (ld rfl Try.isAgg3 (Ctx.cell hc (k := 3) rfl rfl rfl)) rfl ?_
             refine rs (v := .bool (decide (x1.Seq = 0))) (eqd rfl rfl) rfl ?_
             refine rn ?_
             refine qn ?_
             cases hb56 : (decide (x1.Seq = 0))
             · replace hp := gneg hp (of_decide_eq_false hb56)
               refine Wcf rfl ?_
               refine Wskip ?_
               refine qn ?_
               refine Wseq ?_
               refine Wreg ?_
               refine rs (v := .pointer (some ⟨b0, 0, none⟩)) (mv (v := .pointer (some ⟨b0, 0, none⟩)) rfl) rfl ?_
               refine rs (v := .pointer (some ⟨b0, 0, none⟩)) (nl rfl) rfl ?_
               refine rs (v := .pointer (some ⟨b0, 10, none⟩)) (fax 10 rfl Try.underlying61 rfl Try.sizeOf4 rfl rfl rfl) rfl ?_
               refine ruE (A := fun w' => Ctx w' (B b0 [.int .i64 j26.Window, .int .i64 j26.Span, .int .i64 j26.Room, .int .i64 j26.Epoch, .int .i64 j26.Next, .int .i64 j26.Acked, .int .i64 j26.Sent, .int .i64 j26.Got, .slice a40 j39.length q42, .slice a51 j26.Early.length q52, .bool true] 61 :: Own S_ref16_Body.pr 88 (.slice a48 j26.Out.length q49) j26.Out :: Own S_ref16_Early.pr 91 (.slice a51 j26.Early.length q52) j26.Early :: B b5 [.int .i64 x1.Epoch, .int .i64 x1.Seq, .int .i64 x1.Ack, .slice a1 x1.Body.length q3] 46 :: Hold (pRo (pInt .u8)) [.slice a1 x1.Body.length q3] x1.Body :: Own S_ref16_Body.pr 88 (.slice a40 j39.length q42) j39 :: Fr)) (Ctx.putOp hc (k := 0) rfl rfl (v := .bool true) rfl rfl rfl Try.sizeOf4 rfl rfl rfl) rfl ?_
               clear hc; rintro w57 hc
               refine rn ?_
               refine qn ?_
               refine Wseqm (100 :: 101 :: 102 :: 103 :: 104 :: 105 :: 106 :: 107 :: 108 :: 109 :: 110 :: 111 :: 112 :: 113 :: 114 :: 115 :: 116 :: 117 :: 118 :: 119 :: 120 :: 121 :: 122 :: 123 :: 124 :: 125 :: 126 :: 127 :: 128 :: 129 :: 130 :: 131 :: 132 :: 133 :: 134 :: 135 :: 136 :: 137 :: 138 :: 139 :: 140 :: 141 :: 142 :: 143 :: []) [] (fun vs w' => ∃ j58 : S_ref16_Link, vs = [] ∧ ref16_Link_Hear.J4 N j58 = some r ∧ Ctx w' (S_ref16_Link.hp b0 j58 :: Fr)) ?_ ?_
               · refine Wseqm [100, 101, 102, 103, 104, 105, 106, 107, 108, 109, 110, 111, 112, 113, 114, 115, 116, 117, 118, 119, 120, 121, 122, 123, 124, 125, 126, 127] [127] (fun vs w' => ∃ j59 : S_ref16_Link, ∃ j60 : Bool, vs = [.bool j60] ∧ ref16_Link_Hear.J5 N x1 j59 j60 = some r ∧ Ctx w' (S_ref16_Link.hp b0 j59 :: B b5 [.int .i64 x1.Epoch, .int .i64 x1.Seq, .int .i64 x1.Ack, .slice a1 x1.Body.length q3] 46 :: Hold (pRo (pInt .u8)) [.slice a1 x1.Body.length q3] x1.Body :: Fr)) ?_ ?_
                 · replace hc := hc.drew
                   refine Wdrw (fun j w' => True) [0, 1, 0, 4, 12, 28, 63, 127, 255, 511, 255, 1279, 3327, 7423, 255, 16639, 49407, 114943, 261375, 524287, 1048575, 2097151, 4194303, 4194303, 12582911, 33554431, 67108863, 134217727] 0 16917026 rfl (by kernel_rfl) (fun _ _ => trivial) ?_
                   generalize hw : World.drew w57 = w61 at *
                   clear hw
                   refine ds (v := .pointer (some ⟨b5, 1, none⟩)) rfl (fun w' hF => fax 1 rfl Try.underlying46 rfl Try.sizeOf3 rfl rfl rfl) rfl ?_
                   refine dx (v := .int .i64 x1.Seq) rfl (ld rfl Try.isAgg3 (Ctx.cell hc (k := 3) rfl rfl rfl)) rfl rfl ?_
                   refine ds (v := .pointer (some ⟨b0, 0, none⟩)) rfl (fun w' hF => mv (v := .pointer (some ⟨b0, 0, none⟩)) rfl) rfl ?_
                   refine ds (v := .pointer (some ⟨b0, 0, none⟩)) rfl (fun w' hF => nl rfl) rfl ?_
                   refine ds (v := .pointer (some ⟨b0, 7, none⟩)) rfl (fun w' hF => fax 7 rfl Try.underlying61 rfl Try.sizeOf3 rfl rfl rfl) rfl ?_
                   refine dx (v := .int .i64 j26.Got) rfl (ld rfl Try.isAgg3 (Ctx.cell hc (k := 0) rfl rfl rfl)) rfl rfl ?_
                   refine ds (v := .bool (decide (x1.Seq > j26.Got))) rfl (fun w' hF => gt' rfl rfl) rfl ?_
                   refine ds (v := .bool (decide (x1.Seq > j26.Got))) rfl (fun w' hF => mv (v := .bool (decide (x1.Seq > j26.Got))) rfl) rfl ?_
                   cases hb62 : (decide (x1.Seq > j26.Got))
                   · replace hp := gneg hp (of_decide_eq_false hb62)
                     refine d0 rfl rfl ?_
                     refine d0 rfl rfl ?_
                     refine d0 rfl rfl ?_
                     refine d0 rfl rfl ?_
                     refine d0 rfl rfl ?_
                     refine d0 rfl rfl ?_
                     refine d0 rfl rfl ?_
                     refine d0 rfl rfl ?_
                     refine d0 rfl rfl ?_
                     refine d0 rfl rfl ?_
                     refine d0 rfl rfl ?_
                     refine d0 rfl rfl ?_
                     refine ds (v := .bool false) rfl (fun w' hF => pkf (v := .bool false) rfl rfl) rfl ?_
                     refine ds (v := .bool false) rfl (fun w' hF => mv (v := .bool false) rfl) rfl ?_
                     refine d0 rfl rfl ?_
                     refine d0 rfl rfl ?_
                     refine d0 rfl rfl ?_
                     refine d0 rfl rfl ?_
                     refine d0 rfl rfl ?_
                     refine ds (v := .bool false) rfl (fun w' hF => pkf (v := .bool false) rfl rfl) rfl ?_
                     refine dn ?_
                     refine qn ?_
                     replace hc := hc.pull 2 rfl rfl
                     replace hc := hc.pull 5 rfl rfl
                     replace hc := hc.pull 2 rfl rfl
                     replace hc : Ctx w61 (S_ref16_Link.hp b0 (⟨j26.Window, j26.Span, j26.Room, j26.Epoch, j26.Next, j26.Acked, j26.Sent, j26.Got, j39, j26.Early, true⟩ : S_ref16_Link) :: Own S_ref16_Body.pr 88 (.slice a48 j26.Out.length q49) j26.Out :: B b5 [.int .i64 x1.Epoch, .int .i64 x1.Seq, .int .i64 x1.Ack, .slice a1 x1.Body.length q3] 46 :: Hold (pRo (pInt .u8)) [.slice a1 x1.Body.length q3] x1.Body :: Fr) := Ctx.exB _ _ (Ctx.exB _ _ (Ctx.sepB (Ctx.sepB hc)))
                     replace hc := hc.rem 1 rfl rfl
                     exact ⟨⟨(⟨j26.Window, j26.Span, j26.Room, j26.Epoch, j26.Next, j26.Acked, j26.Sent, j26.Got, j39, j26.Early, true⟩ : S_ref16_Link), false, rfl, hp, hc⟩, (kl rfl kb)⟩
                   · replace hp := gpos hp (of_decide_eq_true hb62)
                     refine ds (v := .pointer (some ⟨b5, 1, none⟩)) rfl (fun w' hF => fax 1 rfl Try.underlying46 rfl Try.sizeOf3 rfl rfl rfl) rfl ?_
                     refine dx (v := .int .i64 x1.Seq) rfl (ld rfl Try.isAgg3 (Ctx.cell hc (k := 3) rfl rfl rfl)) rfl rfl ?_
                     refine ds (v := .pointer (some ⟨b0, 0, none⟩)) rfl (fun w' hF => mv (v := .pointer (some ⟨b0, 0, none⟩)) rfl) rfl ?_
                     refine ds (v := .pointer (some ⟨b0, 0, none⟩)) rfl (fun w' hF => nl rfl) rfl ?_
                     refine ds (v := .pointer (some ⟨b0, 7, none⟩)) rfl (fun w' hF => fax 7 rfl Try.underlying61 rfl Try.sizeOf3 rfl rfl rfl) rfl ?_
                     refine dx (v := .int .i64 j26.Got) rfl (ld rfl Try.isAgg3 (Ctx.cell hc (k := 0) rfl rfl rfl)) rfl rfl ?_
                     refine ds (v := .pointer (some ⟨b0, 0, none⟩)) rfl (fun w' hF => mv (v := .pointer (some ⟨b0, 0, none⟩)) rfl) rfl ?_
                     refine ds (v := .pointer (some ⟨b0, 0, none⟩)) rfl (fun w' hF => nl rfl) rfl ?_
                     refine ds (v := .pointer (some ⟨b0, 0, none⟩)) rfl (fun w' hF => fax 0 rfl Try.underlying61 rfl Try.sizeOf3 rfl rfl rfl) rfl ?_
                     refine dx (v := .int .i64 j26.Window) rfl (ld rfl Try.isAgg3 (Ctx.cell hc (k := 0) rfl rfl rfl)) rfl rfl ?_
                     refine ds (v := .int .i64 (IntKind.i64.wrap (j26.Got + j26.Window))) rfl (fun w' hF => adw rfl rfl) rfl ?_
                     refine ds (v := .bool (decide (x1.Seq ≤ (IntKind.i64.wrap (j26.Got + j26.Window))))) rfl (fun w' hF => le' rfl rfl) rfl ?_
                     refine ds (v := .bool (decide (x1.Seq ≤ (IntKind.i64.wrap (j26.Got + j26.Window))))) rfl (fun w' hF => pkt (v := .bool (decide (x1.Seq ≤ (IntKind.i64.wrap (j26.Got + j26.Window))))) rfl rfl) rfl ?_
                     refine ds (v := .bool (decide (x1.Seq ≤ (IntKind.i64.wrap (j26.Got + j26.Window))))) rfl (fun w' hF => mv (v := .bool (decide (x1.Seq ≤ (IntKind.i64.wrap (j26.Got + j26.Window))))) rfl) rfl ?_
                     cases hb63 : (decide (x1.Seq ≤ (IntKind.i64.wrap (j26.Got + j26.Window))))
                     · replace hp := gneg hp (of_decide_eq_false hb63)
                       refine d0 rfl rfl ?_
                       refine d0 rfl rfl ?_
                       refine d0 rfl rfl ?_
                       refine d0 rfl rfl ?_
                       refine d0 rfl rfl ?_
                       refine ds (v := .bool false) rfl (fun w' hF => pkf (v := .bool false) rfl rfl) rfl ?_
                       refine dn ?_
                       refine qn ?_
                       replace hc := hc.pull 2 rfl rfl
                       replace hc := hc.pull 5 rfl rfl
                       replace hc := hc.pull 2 rfl rfl
                       replace hc : Ctx w61 (S_ref16_Link.hp b0 (⟨j26.Window, j26.Span, j26.Room, j26.Epoch, j26.Next, j26.Acked, j26.Sent, j26.Got, j39, j26.Early, true⟩ : S_ref16_Link) :: Own S_ref16_Body.pr 88 (.slice a48 j26.Out.length q49) j26.Out :: B b5 [.int .i64 x1.Epoch, .int .i64 x1.Seq, .int .i64 x1.Ack, .slice a1 x1.Body.length q3] 46 :: Hold (pRo (pInt .u8)) [.slice a1 x1.Body.length q3] x1.Body :: Fr) := Ctx.exB _ _ (Ctx.exB _ _ (Ctx.sepB (Ctx.sepB hc)))
                       replace hc := hc.rem 1 rfl rfl
                       exact ⟨⟨(⟨j26.Window, j26.Span, j26.Room, j26.Epoch, j26.Next, j26.Acked, j26.Sent, j26.Got, j39, j26.Early, true⟩ : S_ref16_Link), false, rfl, hp, hc⟩, (kl rfl kb)⟩
                     · replace hp := gpos hp (of_decide_eq_true hb63)
                       refine ds (v := .pointer (some ⟨b0, 0, none⟩)) rfl (fun w' hF => mv (v := .pointer (some ⟨b0, 0, none⟩)) rfl) rfl ?_
                       refine ds (v := .pointer (some ⟨b5, 1, none⟩)) rfl (fun w' hF => fax 1 rfl Try.underlying46 rfl Try.sizeOf3 rfl rfl rfl) rfl ?_
                       refine dx (v := .int .i64 x1.Seq) rfl (ld rfl Try.isAgg3 (Ctx.cell hc (k := 3) rfl rfl rfl)) rfl rfl ?_
                       replace hp := bind_some hp; obtain ⟨r64, hr64, hp⟩ := hp
                       replace hc := hc.pull 2 rfl rfl
                       replace hc := hc.pull 5 rfl rfl
                       replace hc := hc.pull 2 rfl rfl
                       refine dc (cl Try.call34 rfl rfl) rfl rfl ?_
                       refine ref16_Link_find_any (x0 := (⟨j26.Window, j26.Span, j26.Room, j26.Epoch, j26.Next, j26.Acked, j26.Sent, j26.Got, j39, j26.Early, true⟩ : S_ref16_Link)) hc hr64 ?_
                       clear hc; intro w65 hc
                       refine ⟨fun j hj hb => trivial, ?_⟩
                       refine ds (v := .bool (decide (r64 < 0))) rfl (fun w' hF => lt' rfl rfl) rfl ?_
                       refine ds (v := .bool (decide (r64 < 0))) rfl (fun w' hF => pkt (v := .bool (decide (r64 < 0))) rfl rfl) rfl ?_
                       refine dn ?_
                       refine qn ?_
                       replace hc := hc.pull 2 rfl rfl
                       replace hc := hc.pull 2 rfl rfl
                       replace hc := hc.pull 2 rfl rfl
                       replace hc : Ctx w65 (S_ref16_Link.hp b0 (⟨j26.Window, j26.Span, j26.Room, j26.Epoch, j26.Next, j26.Acked, j26.Sent, j26.Got, j39, j26.Early, true⟩ : S_ref16_Link) :: Own S_ref16_Body.pr 88 (.slice a48 j26.Out.length q49) j26.Out :: B b5 [.int .i64 x1.Epoch, .int .i64 x1.Seq, .int .i64 x1.Ack, .slice a1 x1.Body.length q3] 46 :: Hold (pRo (pInt .u8)) [.slice a1 x1.Body.length q3] x1.Body :: Fr) := Ctx.exB _ _ (Ctx.exB _ _ (Ctx.sepB (Ctx.sepB hc)))
                       replace hc := hc.rem 1 rfl rfl
                       exact ⟨⟨(⟨j26.Window, j26.Span, j26.Room, j26.Epoch, j26.Next, j26.Acked, j26.Sent, j26.Got, j39, j26.Early, true⟩ : S_ref16_Link), decide (r64 < 0), rfl, hp, hc⟩, (kl rfl kb)⟩
                 · clear hp hc; intro vs u w66 hJ
                   obtain ⟨j59, j60, rfl, hp, hc⟩ := hJ
                   unfold ref16_Link_Hear.J5 at hp
                   cases hb67 : j60
                   · replace hp := gneg hp (by rw [hb67]; exact Bool.false_ne_true)
                     subst hb67
                     refine Wcf rfl ?_
                     refine Wskip ?_
                     refine qn ?_
                     replace hc := hc.rem 2 rfl rfl
                     replace hc := hc.rem 1 rfl rfl
                     exact ⟨⟨j59, rfl, hp, hc⟩, (kl rfl (km rfl (kl rfl kb)))⟩
                   · replace hp := gpos hp hb67
                     subst hb67
                     refine Wct rfl ?_
                     replace hc := Ctx.exF hc; obtain ⟨v68, hc⟩ := hc
                     replace hc := Ctx.exF hc; obtain ⟨v69, hc⟩ := hc
                     replace hc := Ctx.sepF hc
                     replace hc := Ctx.sepF hc
                     obtain ⟨a70, q71, u72⟩ := hc.rd (k := 1) rfl rfl reads_own; subst u72
                     obtain ⟨a73, q74, u75⟩ := hc.rd (k := 2) rfl rfl reads_own; subst u75
                     replace hc := hc.drew
                     have hF : ∀ j, free [0, 0, 2, 6, 14, 0, 32, 0, 0, 256, 896, 2016, 4064, 8190, 16383, 32767, 65535] 0 j = true → (fun j w' => (j = 4 → w'.cell? ⟨b0, 9, none⟩ = some (.slice a73 j59.Early.length q74)) ∧ (j = 6 → w'.cell? ⟨b5, 1, none⟩ = some (.int .i64 x1.Seq)) ∧ (j = 9 → w'.cell? ⟨b5, 3, none⟩ = some (.slice a1 x1.Body.length q3)) ∧ True) j (World.drew w66) := fun j hj => ⟨fun _ => hc.cell (k := 0) rfl rfl rfl, fun _ => hc.cell (k := 3) rfl rfl rfl, fun _ => hc.cell (k := 3) rfl rfl rfl, trivial⟩
                     refine Wdrw (fun j w' => (j = 4 → w'.cell? ⟨b0, 9, none⟩ = some (.slice a73 j59.Early.length q74)) ∧ (j = 6 → w'.cell? ⟨b5, 1, none⟩ = some (.int .i64 x1.Seq)) ∧ (j = 9 → w'.cell? ⟨b5, 3, none⟩ = some (.slice a1 x1.Body.length q3)) ∧ True) [0, 0, 2, 6, 14, 0, 32, 0, 0, 256, 896, 2016, 4064, 8190, 16383, 32767, 65535] 0 0 rfl (by kernel_rfl) (hF) ?_
                     generalize hw : World.drew w66 = w76 at *
                     clear hw
                     refine ds (v := .pointer (some ⟨b0, 0, none⟩)) rfl (fun w' hF => mv (v := .pointer (some ⟨b0, 0, none⟩)) rfl) rfl ?_
                     refine ds (v := .pointer (some ⟨b0, 0, none⟩)) rfl (fun w' hF => mv (v := .pointer (some ⟨b0, 0, none⟩)) rfl) rfl ?_
                     refine ds (v := .pointer (some ⟨b0, 0, none⟩)) rfl (fun w' hF => nl rfl) rfl ?_
                     refine ds (v := .pointer (some ⟨b0, 9, none⟩)) rfl (fun w' hF => fax 9 rfl Try.underlying61 rfl Try.sizeOf59 rfl rfl rfl) rfl ?_
                     refine ds (v := .slice a73 j59.Early.length q74) rfl (fun w' hF => ld rfl Try.isAgg59 ((hF.1 rfl))) rfl ?_
                     refine ds (v := .pointer (some ⟨b5, 1, none⟩)) rfl (fun w' hF => fax 1 rfl Try.underlying46 rfl Try.sizeOf3 rfl rfl rfl) rfl ?_
                     refine ds (v := .int .i64 x1.Seq) rfl (fun w' hF => ld rfl Try.isAgg3 ((hF.2.1 rfl))) rfl ?_
                     refine deE (Ctx.builtOp (css := []) (xs := ([] : List Int)) (E := (pInt .u8)) hc Try.underlying38 Try.sizeOf5 Try.zeroValue5 rfl rfl rfl rfl rfl rfl rfl rfl) rfl rfl ?_
                     clear hc; rintro _ w78 ⟨a77, rfl, hc⟩
                     refine ⟨fun j hj hb => ⟨fun _ => hc.cell (k := 1) rfl rfl rfl, fun _ => hc.cell (k := 4) rfl rfl rfl, fun _ => hc.cell (k := 4) rfl rfl rfl, trivial⟩, ?_⟩
                     refine ds (v := .pointer (some ⟨b5, 3, none⟩)) rfl (fun w' hF => fax 3 rfl Try.underlying46 rfl Try.sizeOf38 rfl rfl rfl) rfl ?_
                     refine ds (v := .slice a1 x1.Body.length q3) rfl (fun w' hF => ld rfl Try.isAgg38 ((hF.2.2.1 rfl))) rfl ?_
                     replace hp := bind_some hp; obtain ⟨z79, hz79, hp⟩ := hp
                     obtain ⟨hg80, e81⟩ := app_some hz79
                     refine deE (Ctx.append hc (k := 0) rfl rfl (k2 := 5) rfl rfl reads_ro Try.underlying38 (i := Try.t5) rfl rfl rfl rfl rfl rfl rfl rfl hg80) rfl rfl ?_
                     clear hc; rintro _ w84 ⟨a82, q83, rfl, hc⟩
                     rw [← e81] at hc ⊢
                     refine ⟨fun j hj hb => ⟨fun _ => hc.cell (k := 1) rfl rfl rfl, fun _ => hc.cell (k := 4) rfl rfl rfl, fun e => (by subst e; exact absurd hj (by decide)), trivial⟩, ?_⟩
                     refine ds (v := .agg #[.int .i64 x1.Seq, .slice a82 z79.length q83]) rfl (fun w' hF => bd_91_0_1 rfl rfl) rfl ?_
                     replace hc := hc.freeze (k := 0) rfl rfl rfl
                     replace hc := hc.dup (k := 0) rfl rfl
                     replace hc : Ctx w84 (Hold S_ref16_Early.pr [.int .i64 x1.Seq, .slice a82 z79.length q83] (⟨x1.Seq, z79⟩ : S_ref16_Early) :: Hold (pRo (pInt .u8)) [.slice a82 z79.length q83] z79 :: B b0 [.int .i64 j59.Window, .int .i64 j59.Span, .int .i64 j59.Room, .int .i64 j59.Epoch, .int .i64 j59.Next, .int .i64 j59.Acked, .int .i64 j59.Sent, .int .i64 j59.Got, .slice a70 j59.Out.length q71, .slice a73 j59.Early.length q74, .bool j59.Owes] 61 :: Own S_ref16_Body.pr 88 (.slice a70 j59.Out.length q71) j59.Out :: Own S_ref16_Early.pr 91 (.slice a73 j59.Early.length q74) j59.Early :: B b5 [.int .i64 x1.Epoch, .int .i64 x1.Seq, .int .i64 x1.Ack, .slice a1 x1.Body.length q3] 46 :: Hold (pRo (pInt .u8)) [.slice a1 x1.Body.length q3] x1.Body :: Fr) := S_ref16_Early.cl hc
                     refine deE (Ctx.builtOp (css := [[.int .i64 x1.Seq, .slice a82 z79.length q83]]) (xs := ([(⟨x1.Seq, z79⟩ : S_ref16_Early)] : List S_ref16_Early)) (E := S_ref16_Early.pr) hc Try.underlying59 Try.sizeOf91 Try.zeroValue91 rfl rfl rfl rfl rfl rfl rfl rfl) rfl rfl ?_
                     clear hc; rintro _ w86 ⟨a85, rfl, hc⟩
                     refine ⟨fun j hj hb => ⟨fun _ => hc.cell (k := 2) rfl rfl rfl, fun e => (by subst e; exact absurd hj (by decide)), fun e => (by subst e; exact absurd hj (by decide)), trivial⟩, ?_⟩
                     replace hp := bind_some hp; obtain ⟨z87, hz87, hp⟩ := hp
                     obtain ⟨hg88, e89⟩ := app_some hz87
                     refine deE (Ctx.append hc (k := 4) rfl rfl (k2 := 0) rfl rfl reads_own Try.underlying59 (i := Try.t91) rfl rfl rfl rfl rfl rfl rfl rfl hg88) rfl rfl ?_
                     clear hc; rintro _ w92 ⟨a90, q91, rfl, hc⟩
                     rw [← e89] at hc ⊢
                     refine ⟨fun j hj hb => ⟨fun e => (by subst e; exact absurd hj (by decide)), fun e => (by subst e; exact absurd hj (by decide)), fun e => (by subst e; exact absurd hj (by decide)), trivial⟩, ?_⟩
                     refine ds (v := .pointer (some ⟨b0, 0, none⟩)) rfl (fun w' hF => nl rfl) rfl ?_
                     refine ds (v := .pointer (some ⟨b0, 9, none⟩)) rfl (fun w' hF => fax 9 rfl Try.underlying61 rfl Try.sizeOf59 rfl rfl rfl) rfl ?_
                     refine duE (A := fun w' => Ctx w' (Own S_ref16_Early.pr 91 (.slice a85 1 1) ([(⟨x1.Seq, z79⟩ : S_ref16_Early)]) :: Hold (pRo (pInt .u8)) [.slice a82 z79.length q83] z79 :: B b0 [.int .i64 j59.Window, .int .i64 j59.Span, .int .i64 j59.Room, .int .i64 j59.Epoch, .int .i64 j59.Next, .int .i64 j59.Acked, .int .i64 j59.Sent, .int .i64 j59.Got, .slice a70 j59.Out.length q71, .slice a90 z87.length q91, .bool j59.Owes] 61 :: Own S_ref16_Body.pr 88 (.slice a70 j59.Out.length q71) j59.Out :: Own S_ref16_Early.pr 91 (.slice a90 z87.length q91) z87 :: B b5 [.int .i64 x1.Epoch, .int .i64 x1.Seq, .int .i64 x1.Ack, .slice a1 x1.Body.length q3] 46 :: Hold (pRo (pInt .u8)) [.slice a1 x1.Body.length q3] x1.Body :: Fr)) (Ctx.putOp hc (k := 2) rfl rfl (v := .slice a90 z87.length q91) rfl rfl rfl Try.sizeOf59 rfl rfl rfl) rfl rfl ?_
                     clear hc; rintro w93 hc
                     refine ⟨fun j hj hb => ⟨fun e => (by subst e; exact absurd hj (by decide)), fun e => (by subst e; exact absurd hj (by decide)), fun e => (by subst e; exact absurd hj (by decide)), trivial⟩, ?_⟩
                     refine dn ?_
                     refine qn ?_
                     replace hc := hc.pull 4 rfl rfl
                     replace hc := hc.pull 4 rfl rfl
                     replace hc := hc.pull 4 rfl rfl
                     replace hc : Ctx w93 (S_ref16_Link.hp b0 (⟨j59.Window, j59.Span, j59.Room, j59.Epoch, j59.Next, j59.Acked, j59.Sent, j59.Got, j59.Out, z87, j59.Owes⟩ : S_ref16_Link) :: Own S_ref16_Early.pr 91 (.slice a85 1 1) ([(⟨x1.Seq, z79⟩ : S_ref16_Early)]) :: Hold (pRo (pInt .u8)) [.slice a82 z79.length q83] z79 :: B b5 [.int .i64 x1.Epoch, .int .i64 x1.Seq, .int .i64 x1.Ack, .slice a1 x1.Body.length q3] 46 :: Hold (pRo (pInt .u8)) [.slice a1 x1.Body.length q3] x1.Body :: Fr) := Ctx.exB _ _ (Ctx.exB _ _ (Ctx.sepB (Ctx.sepB hc)))
                     replace hc := hc.rem 4 rfl rfl
                     replace hc := hc.rem 3 rfl rfl
                     replace hc := hc.rem 2 rfl rfl
                     replace hc := hc.rem 1 rfl rfl
                     exact ⟨⟨(⟨j59.Window, j59.Span, j59.Room, j59.Epoch, j59.Next, j59.Acked, j59.Sent, j59.Got, j59.Out, z87, j59.Owes⟩ : S_ref16_Link), rfl, hp, hc⟩, (kl rfl (km rfl (kl rfl kb)))⟩
               · clear hp hc; intro vs u w94 hJ
                 obtain ⟨j58, rfl, hp, hc⟩ := hJ
                 unfold ref16_Link_Hear.J4 at hp
                 refine Wseq ?_
                 refine Wreg ?_
                 refine rs (v := .slice none 0 0) (av (v := .slice none 0 0) rfl) rfl ?_
                 refine rn ?_
                 refine qn ?_
                 refine Wseq ?_
                 refine Wblk ?_
                 replace hc := hc.nilOwn (pRo (pInt .u8)) 38
                 replace hc := hc.pull 1 rfl rfl
                 refine Wloop (8 :: 9 :: 10 :: 144 :: 145 :: 146 :: 147 :: 148 :: 149 :: 150 :: 151 :: 152 :: 153 :: 154 :: 155 :: 156 :: 157 :: 158 :: 159 :: 160 :: 161 :: 162 :: 163 :: 164 :: 165 :: 166 :: 167 :: 168 :: 169 :: 170 :: 171 :: 172 :: 173 :: 174 :: 175 :: 176 :: 177 :: 178 :: 179 :: 180 :: 181 :: 182 :: 183 :: 184 :: 185 :: 186 :: 187 :: 188 :: 189 :: 190 :: 191 :: 192 :: 193 :: 194 :: 195 :: 196 :: 197 :: 198 :: 199 :: 200 :: 201 :: 202 :: 203 :: 204 :: 205 :: 206 :: 207 :: 208 :: 209 :: 210 :: 211 :: []) [8] (fun m vs w' => ∃ j95 : S_ref16_Link, ∃ j96 : (List (List Int)), ∃ a97 : Option Addr, ∃ n98 : Nat, ∃ q99 : Nat, vs = [.slice a97 n98 q99] ∧ ref16_Link_Hear.L6 N m j95 j96 = some r ∧ Ctx w' (S_ref16_Link.hp b0 j95 :: Own (pRo (pInt .u8)) 38 (.slice a97 n98 q99) j96 :: Fr)) N ?_ ?_
                 · exact ⟨j58, [], none, 0, 0, rfl, hp, hc⟩
                 · clear hp hc; intro m vs u w100 hJ
                   obtain ⟨j95, j96, a97, n98, q99, rfl, hp, hc⟩ := hJ
                   obtain ⟨u101, _⟩ := Ctx.rdLen hc (k := 1) rfl rfl reads_own; subst u101
                   rcases m with _ | m6
                   · cases (show none = some r from hp)
                   rw [ref16_Link_Hear.L6] at hp
                   refine Wseq ?_
                   refine Wseq ?_
                   refine Wreg ?_
                   refine rs (v := .pointer (some ⟨b0, 0, none⟩)) (mv (v := .pointer (some ⟨b0, 0, none⟩)) rfl) rfl ?_
                   refine rs (v := .pointer (some ⟨b0, 0, none⟩)) (mv (v := .pointer (some ⟨b0, 0, none⟩)) rfl) rfl ?_
                   refine rs (v := .pointer (some ⟨b0, 0, none⟩)) (nl rfl) rfl ?_
                   refine rs (v := .pointer (some ⟨b0, 7, none⟩)) (fax 7 rfl Try.underlying61 rfl Try.sizeOf3 rfl rfl rfl) rfl ?_
                   replace hc := Ctx.exF hc; obtain ⟨v102, hc⟩ := hc
                   replace hc := Ctx.exF hc; obtain ⟨v103, hc⟩ := hc
                   replace hc := Ctx.sepF hc
                   replace hc := Ctx.sepF hc
                   obtain ⟨a104, q105, u106⟩ := hc.rd (k := 1) rfl rfl reads_own; subst u106
                   obtain ⟨a107, q108, u109⟩ := hc.rd (k := 2) rfl rfl reads_own; subst u109
                   refine rs (v := .int .i64 j95.Got) (ld rfl Try.isAgg3 (Ctx.cell hc (k := 0) rfl rfl rfl)) rfl ?_
                   refine rs (v := .int .i64 (IntKind.i64.wrap (j95.Got + 1))) (adw rfl rfl) rfl ?_
                   replace hp := bind_some hp; obtain ⟨r110, hr110, hp⟩ := hp
                   replace hc := hc.pull 2 rfl rfl
                   replace hc := hc.pull 2 rfl rfl
                   replace hc := hc.pull 2 rfl rfl
                   refine rc (cl Try.call34 rfl rfl) rfl ?_
                   refine ref16_Link_find_any hc hr110 ?_
                   clear hc; intro w111 hc
                   refine rs (v := .bool (decide (r110 ≥ 0))) (ge' rfl rfl) rfl ?_
                   refine rn ?_
                   refine qn ?_
                   cases hb112 : (decide (r110 ≥ 0))
                   · replace hp := gneg hp (of_decide_eq_false hb112)
                     refine Wcf rfl ?_
                     refine Wexit ?_
                     refine qx ?_
                     refine qx ?_
                     refine be ?_
                     refine qn ?_
                     refine Wseq ?_
                     refine Wreg ?_
                     refine rs (v := .slice a97 j96.length q99) (mv (v := .slice a97 j96.length q99) rfl) rfl ?_
                     refine rs (v := .slice a97 j96.length q99) (av (v := .slice a97 j96.length q99) rfl) rfl ?_
                     refine rs (v := .int .i64 0) (av (v := .int .i64 0) rfl) rfl ?_
                     refine rn ?_
                     refine qn ?_
                     refine Wret ?_
                     replace hc := hc.pull 2 rfl rfl
                     replace hc := hc.pull 2 rfl rfl
                     replace hc := hc.pull 2 rfl rfl
                     replace hc : Ctx w111 (S_ref16_Link.hp b0 j95 :: Own (pRo (pInt .u8)) 38 (.slice a97 j96.length q99) j96 :: Fr) := Ctx.exB _ _ (Ctx.exB _ _ (Ctx.sepB (Ctx.sepB hc)))
                     replace hc := hc.pull 1 rfl rfl
                     injection hp with hp; subst hp
                     refine f2 (v := .slice a97 j96.length q99) (u := .int .i64 0) Try.results21 Try.ntmps21 rfl rfl ?_
                     exact ⟨_, rfl, k _ _ _ _ hc⟩
                   · replace hp := gpos hp (of_decide_eq_true hb112)
                     refine Wct rfl ?_
                     refine Wskip ?_
                     refine qn ?_
                     refine Wblk ?_
                     refine Wseq ?_
                     refine Wreg ?_
                     refine rs (v := .pointer (some ⟨b0, 0, none⟩)) (mv (v := .pointer (some ⟨b0, 0, none⟩)) rfl) rfl ?_
                     refine rs (v := .pointer (some ⟨b0, 0, none⟩)) (mv (v := .pointer (some ⟨b0, 0, none⟩)) rfl) rfl ?_
                     refine rs (v := .pointer (some ⟨b0, 0, none⟩)) (nl rfl) rfl ?_
                     refine rs (v := .pointer (some ⟨b0, 7, none⟩)) (fax 7 rfl Try.underlying61 rfl Try.sizeOf3 rfl rfl rfl) rfl ?_
                     refine rs (v := .int .i64 j95.Got) (ld rfl Try.isAgg3 (Ctx.cell hc (k := 0) rfl rfl rfl)) rfl ?_
                     refine rs (v := .int .i64 (IntKind.i64.wrap (j95.Got + 1))) (adw rfl rfl) rfl ?_
                     refine rs (v := .pointer (some ⟨b0, 0, none⟩)) (nl rfl) rfl ?_
                     refine rs (v := .pointer (some ⟨b0, 7, none⟩)) (fax 7 rfl Try.underlying61 rfl Try.sizeOf3 rfl rfl rfl) rfl ?_
                     refine ruE (A := fun w' => Ctx w' (B b0 [.int .i64 j95.Window, .int .i64 j95.Span, .int .i64 j95.Room, .int .i64 j95.Epoch, .int .i64 j95.Next, .int .i64 j95.Acked, .int .i64 j95.Sent, .int .i64 (IntKind.i64.wrap (j95.Got + 1)), .slice a104 j95.Out.length q105, .slice a107 j95.Early.length q108, .bool j95.Owes] 61 :: Own S_ref16_Body.pr 88 (.slice a104 j95.Out.length q105) j95.Out :: Own S_ref16_Early.pr 91 (.slice a107 j95.Early.length q108) j95.Early :: Own (pRo (pInt .u8)) 38 (.slice a97 j96.length q99) j96 :: Fr)) (Ctx.putOp hc (k := 0) rfl rfl (v := .int .i64 (IntKind.i64.wrap (j95.Got + 1))) rfl rfl rfl Try.sizeOf3 rfl rfl rfl) rfl ?_
                     clear hc; rintro w113 hc
                     refine rn ?_
                     refine qn ?_
                     refine Wseq ?_
                     replace hc := hc.drew
                     have hF : ∀ j, free [0, 0, 2, 6, 14, 0, 0, 64, 192, 448, 992, 2046, 4094, 8190, 16382, 32767, 65535] 0 j = true → (fun j w' => (j = 4 → w'.cell? ⟨b0, 9, none⟩ = some (.slice a107 j95.Early.length q108)) ∧ True) j (World.drew w113) := fun j hj => ⟨fun _ => hc.cell (k := 0) rfl rfl rfl, trivial⟩
                     refine Wdrw (fun j w' => (j = 4 → w'.cell? ⟨b0, 9, none⟩ = some (.slice a107 j95.Early.length q108)) ∧ True) [0, 0, 2, 6, 14, 0, 0, 64, 192, 448, 992, 2046, 4094, 8190, 16382, 32767, 65535] 0 8704 rfl (by kernel_rfl) (hF) ?_
                     generalize hw : World.drew w113 = w114 at *
                     clear hw
                     refine ds (v := .slice a97 j96.length q99) rfl (fun w' hF => mv (v := .slice a97 j96.length q99) rfl) rfl ?_
                     refine ds (v := .pointer (some ⟨b0, 0, none⟩)) rfl (fun w' hF => mv (v := .pointer (some ⟨b0, 0, none⟩)) rfl) rfl ?_
                     refine ds (v := .pointer (some ⟨b0, 0, none⟩)) rfl (fun w' hF => nl rfl) rfl ?_
                     refine ds (v := .pointer (some ⟨b0, 9, none⟩)) rfl (fun w' hF => fax 9 rfl Try.underlying61 rfl Try.sizeOf59 rfl rfl rfl) rfl ?_
                     refine ds (v := .slice a107 j95.Early.length q108) rfl (fun w' hF => ld rfl Try.isAgg59 ((hF.1 rfl))) rfl ?_
                     refine ds (v := .pointer (some ⟨b0, 0, none⟩)) rfl (fun w' hF => mv (v := .pointer (some ⟨b0, 0, none⟩)) rfl) rfl ?_
                     refine ds (v := .pointer (some ⟨b0, 0, none⟩)) rfl (fun w' hF => mv (v := .pointer (some ⟨b0, 0, none⟩)) rfl) rfl ?_
                     refine ds (v := .pointer (some ⟨b0, 0, none⟩)) rfl (fun w' hF => nl rfl) rfl ?_
                     refine ds (v := .pointer (some ⟨b0, 7, none⟩)) rfl (fun w' hF => fax 7 rfl Try.underlying61 rfl Try.sizeOf3 rfl rfl rfl) rfl ?_
                     refine dx (v := .int .i64 (IntKind.i64.wrap (j95.Got + 1))) rfl (ld rfl Try.isAgg3 (Ctx.cell hc (k := 0) rfl rfl rfl)) rfl rfl ?_
                     replace hp := bind_some hp; obtain ⟨r115, hr115, hp⟩ := hp
                     replace hc := hc.pull 2 rfl rfl
                     replace hc := hc.pull 2 rfl rfl
                     replace hc := hc.pull 2 rfl rfl
                     refine dc (cl Try.call34 rfl rfl) rfl rfl ?_
                     refine ref16_Link_find_any (x0 := (⟨j95.Window, j95.Span, j95.Room, j95.Epoch, j95.Next, j95.Acked, j95.Sent, (IntKind.i64.wrap (j95.Got + 1)), j95.Out, j95.Early, j95.Owes⟩ : S_ref16_Link)) hc hr115 ?_
                     clear hc; intro w116 hc
                     refine ⟨fun j hj hb => ⟨fun _ => hc.cell (k := 0) rfl rfl rfl, trivial⟩, ?_⟩
                     replace hp := bind_some hp; obtain ⟨y117, hy117, hp⟩ := hp
                     obtain ⟨b120, o121, u122, hi118, hi119⟩ := Ctx.rdAt hc (k := 2) rfl rfl reads_own hy117
                     subst u122
                     refine ds (v := .pointer (some ⟨b120, o121 + (r115).toNat * 2, none⟩)) rfl (fun w' hF => ixx rfl rfl Try.underlying59 Try.sizeOf91 hi118 hi119 rfl) rfl ?_
                     refine ds (v := .pointer (some ⟨b120, o121 + (r115).toNat * 2 + 1, none⟩)) rfl (fun w' hF => fax 1 rfl Try.underlying91 rfl Try.sizeOf38 rfl rfl rfl) rfl ?_
                     replace hc := Ctx.rdCell hc (k := 2) rfl rfl reads_own hy117; obtain ⟨cs123, hc, hcell124⟩ := hc
                     replace hc := S_ref16_Early.op hc; obtain ⟨a126, q127, u125, hc⟩ := hc; subst u125
                     refine dx (v := .slice a126 y117.B.length q127) rfl (ld rfl Try.isAgg38 (hcell124 1 _ rfl)) rfl rfl ?_
                     replace hc := hc.dup (k := 0) rfl rfl
                     refine deE (Ctx.builtOp (css := [[.slice a126 y117.B.length q127]]) (xs := ([y117.B] : List (List Int))) (E := (pRo (pInt .u8))) hc Try.underlying51 Try.sizeOf38 Try.zeroValue38 rfl rfl rfl rfl rfl rfl rfl rfl) rfl rfl ?_
                     clear hc; rintro _ w129 ⟨a128, rfl, hc⟩
                     refine ⟨fun j hj hb => ⟨fun e => (by subst e; exact absurd hj (by decide)), trivial⟩, ?_⟩
                     replace hp := bind_some hp; obtain ⟨z130, hz130, hp⟩ := hp
                     obtain ⟨hg131, e132⟩ := app_some hz130
                     refine deE (Ctx.append hc (k := 5) rfl rfl (k2 := 0) rfl rfl reads_own Try.underlying51 (i := Try.t38) rfl rfl rfl rfl rfl rfl rfl rfl hg131) rfl rfl ?_
                     clear hc; rintro _ w135 ⟨a133, q134, rfl, hc⟩
                     rw [← e132] at hc ⊢
                     refine ⟨fun j hj hb => ⟨fun e => (by subst e; exact absurd hj (by decide)), trivial⟩, ?_⟩
                     refine ds (v := .slice a133 z130.length q134) rfl (fun w' hF => av (v := .slice a133 z130.length q134) rfl) rfl ?_
                     refine dn ?_
                     refine qn ?_
                     refine Wseq ?_
                     refine Wreg ?_
                     refine rs (v := .slice none 0 0) (av (v := .slice none 0 0) rfl) rfl ?_
                     refine rn ?_
                     refine qn ?_
                     refine Wseq ?_
                     refine Wseq ?_
                     refine Wreg ?_
                     refine rs (v := .int .i64 0) (av (v := .int .i64 0) rfl) rfl ?_
                     refine rn ?_
                     refine qn ?_
                     refine Wblk ?_
                     replace hc := hc.pull 4 rfl rfl
                     replace hc := hc.pull 4 rfl rfl
                     replace hc := hc.pull 4 rfl rfl
                     replace hc : Ctx w135 (S_ref16_Link.hp b0 (⟨j95.Window, j95.Span, j95.Room, j95.Epoch, j95.Next, j95.Acked, j95.Sent, (IntKind.i64.wrap (j95.Got + 1)), j95.Out, j95.Early, j95.Owes⟩ : S_ref16_Link) :: Own (pRo (pInt .u8)) 38 (.slice a128 1 1) ([y117.B]) :: Hold (pRo (pInt .u8)) [.slice a126 y117.B.length q127] y117.B :: Own (pRo (pInt .u8)) 38 (.slice a133 z130.length q134) z130 :: Fr) := Ctx.exB _ _ (Ctx.exB _ _ (Ctx.sepB (Ctx.sepB hc)))
                     replace hc := hc.nilOwn S_ref16_Early.pr 91
                     replace hc := hc.rem 3 rfl rfl
                     replace hc := hc.rem 2 rfl rfl
                     replace hc := hc.pull 2 rfl rfl
                     replace hc := hc.pull 2 rfl rfl
                     refine Wloop (9 :: 10 :: 176 :: 177 :: 178 :: 179 :: 180 :: 181 :: 182 :: 183 :: 184 :: 185 :: 186 :: 187 :: 188 :: 189 :: 190 :: 191 :: 192 :: 193 :: 194 :: 195 :: 196 :: 197 :: 198 :: 199 :: 200 :: 201 :: 202 :: 203 :: 204 :: 205 :: 206 :: 207 :: []) [9, 10] (fun m vs w' => ∃ j136 : S_ref16_Link, ∃ j137 : (List S_ref16_Early), ∃ j141 : Int, ∃ a138 : Option Addr, ∃ n139 : Nat, ∃ q140 : Nat, vs = [.slice a138 n139 q140, .int .i64 j141] ∧ ref16_Link_Hear.L7 z130 (ref16_Link_Hear.L6 N m6) m j136 j137 j141 = some r ∧ Ctx w' (S_ref16_Link.hp b0 j136 :: Own (pRo (pInt .u8)) 38 (.slice a133 z130.length q134) z130 :: Own S_ref16_Early.pr 91 (.slice a138 n139 q140) j137 :: Fr)) N ?_ ?_
                     · exact ⟨(⟨j95.Window, j95.Span, j95.Room, j95.Epoch, j95.Next, j95.Acked, j95.Sent, (IntKind.i64.wrap (j95.Got + 1)), j95.Out, j95.Early, j95.Owes⟩ : S_ref16_Link), [], 0, none, 0, 0, rfl, hp, hc⟩
                     · clear hp hc; intro m vs u w142 hJ
                       obtain ⟨j136, j137, j141, a138, n139, q140, rfl, hp, hc⟩ := hJ
                       obtain ⟨u143, _⟩ := Ctx.rdLen hc (k := 2) rfl rfl reads_own; subst u143
                       rcases m with _ | m7
                       · cases (show none = some r from hp)
                       rw [ref16_Link_Hear.L7] at hp
                       refine Wseq ?_
                       refine Wseq ?_
                       refine Wreg ?_
                       refine rs (v := .int .i64 j141) (mv (v := .int .i64 j141) rfl) rfl ?_
                       refine rs (v := .pointer (some ⟨b0, 0, none⟩)) (mv (v := .pointer (some ⟨b0, 0, none⟩)) rfl) rfl ?_
                       refine rs (v := .pointer (some ⟨b0, 0, none⟩)) (nl rfl) rfl ?_
                       refine rs (v := .pointer (some ⟨b0, 9, none⟩)) (fax 9 rfl Try.underlying61 rfl Try.sizeOf59 rfl rfl rfl) rfl ?_
                       replace hc := Ctx.exF hc; obtain ⟨v144, hc⟩ := hc
                       replace hc := Ctx.exF hc; obtain ⟨v145, hc⟩ := hc
                       replace hc := Ctx.sepF hc
                       replace hc := Ctx.sepF hc
                       obtain ⟨a146, q147, u148⟩ := hc.rd (k := 1) rfl rfl reads_own; subst u148
                       obtain ⟨a149, q150, u151⟩ := hc.rd (k := 2) rfl rfl reads_own; subst u151
                       refine rs (v := .slice a149 j136.Early.length q150) (ld rfl Try.isAgg59 (Ctx.cell hc (k := 0) rfl rfl rfl)) rfl ?_
                       refine rs (v := .int .i64 ((j136.Early.length : Nat) : Int)) (ln rfl Try.underlying59) rfl ?_
                       refine rs (v := .bool (decide (j141 < ((j136.Early.length : Nat) : Int)))) (lt' rfl rfl) rfl ?_
                       refine rn ?_
                       refine qn ?_
                       cases hb152 : (decide (j141 < ((j136.Early.length : Nat) : Int)))
                       · replace hp := gneg hp (of_decide_eq_false hb152)
                         refine Wcf rfl ?_
                         refine Wexit ?_
                         refine qx ?_
                         refine qx ?_
                         refine be ?_
                         refine qn ?_
                         refine Wreg ?_
                         refine rs (v := .pointer (some ⟨b0, 0, none⟩)) (mv (v := .pointer (some ⟨b0, 0, none⟩)) rfl) rfl ?_
                         refine rs (v := .slice a138 j137.length q140) (mv (v := .slice a138 j137.length q140) rfl) rfl ?_
                         refine rs (v := .pointer (some ⟨b0, 0, none⟩)) (nl rfl) rfl ?_
                         refine rs (v := .pointer (some ⟨b0, 9, none⟩)) (fax 9 rfl Try.underlying61 rfl Try.sizeOf59 rfl rfl rfl) rfl ?_
                         refine ruE (A := fun w' => Ctx w' (B b0 [.int .i64 j136.Window, .int .i64 j136.Span, .int .i64 j136.Room, .int .i64 j136.Epoch, .int .i64 j136.Next, .int .i64 j136.Acked, .int .i64 j136.Sent, .int .i64 j136.Got, .slice a146 j136.Out.length q147, .slice a138 j137.length q140, .bool j136.Owes] 61 :: Own S_ref16_Body.pr 88 (.slice a146 j136.Out.length q147) j136.Out :: Own S_ref16_Early.pr 91 (.slice a149 j136.Early.length q150) j136.Early :: Own (pRo (pInt .u8)) 38 (.slice a133 z130.length q134) z130 :: Own S_ref16_Early.pr 91 (.slice a138 j137.length q140) j137 :: Fr)) (Ctx.putOp hc (k := 0) rfl rfl (v := .slice a138 j137.length q140) rfl rfl rfl Try.sizeOf59 rfl rfl rfl) rfl ?_
                         clear hc; rintro w153 hc
                         refine rn ?_
                         refine bn ?_
                         refine qn ?_
                         replace hc := hc.pull 4 rfl rfl
                         replace hc := hc.pull 2 rfl rfl
                         replace hc := hc.pull 2 rfl rfl
                         replace hc : Ctx w153 (S_ref16_Link.hp b0 (⟨j136.Window, j136.Span, j136.Room, j136.Epoch, j136.Next, j136.Acked, j136.Sent, j136.Got, j136.Out, j137, j136.Owes⟩ : S_ref16_Link) :: Own S_ref16_Early.pr 91 (.slice a149 j136.Early.length q150) j136.Early :: Own (pRo (pInt .u8)) 38 (.slice a133 z130.length q134) z130 :: Fr) := Ctx.exB _ _ (Ctx.exB _ _ (Ctx.sepB (Ctx.sepB hc)))
                         replace hc := hc.rem 1 rfl rfl
                         exact ⟨m6, Nat.lt_succ_self _, ⟨(⟨j136.Window, j136.Span, j136.Room, j136.Epoch, j136.Next, j136.Acked, j136.Sent, j136.Got, j136.Out, j137, j136.Owes⟩ : S_ref16_Link), z130, a133, z130.length, q134, rfl, hp, hc⟩, (kl rfl (km rfl (kl rfl k0)))⟩
                       · replace hp := gpos hp (of_decide_eq_true hb152)
                         refine Wct rfl ?_
                         refine Wskip ?_
                         refine qn ?_
                         refine Wseqm [9, 185, 186, 187, 188, 189, 190, 191, 192, 193, 194, 195, 196, 197, 198, 199, 200, 201, 202, 203, 204, 205, 206, 207] [9] (fun vs w' => ∃ j154 : (List S_ref16_Early), ∃ a155 : Option Addr, ∃ n156 : Nat, ∃ q157 : Nat, vs = [.slice a155 n156 q157] ∧ ref16_Link_Hear.J8 j136 j141 (ref16_Link_Hear.L7 z130 (ref16_Link_Hear.L6 N m6) m7) j154 = some r ∧ Ctx w' (S_ref16_Link.hp b0 j136 :: Own (pRo (pInt .u8)) 38 (.slice a133 z130.length q134) z130 :: Own S_ref16_Early.pr 91 (.slice a155 n156 q157) j154 :: Fr)) ?_ ?_
                         · refine Wblk ?_
                           refine Wseq ?_
                           replace hc := hc.drew
                           refine Wdrw (fun _ w' => w' = World.drew w142) [0, 1, 3, 7, 0, 31, 63, 127, 0, 256, 768, 1792, 4095] 0 0 rfl (by kernel_rfl) (fun _ _ => rfl) ?_
                           generalize hw : World.drew w142 = w158 at *
                           clear hw
                           refine ds (v := .pointer (some ⟨b0, 0, none⟩)) rfl (fun w' hF => by subst hF; exact mv (v := .pointer (some ⟨b0, 0, none⟩)) rfl) rfl ?_
                           refine ds (v := .pointer (some ⟨b0, 0, none⟩)) rfl (fun w' hF => by subst hF; exact nl rfl) rfl ?_
                           refine ds (v := .pointer (some ⟨b0, 9, none⟩)) rfl (fun w' hF => by subst hF; exact fax 9 rfl Try.underlying61 rfl Try.sizeOf59 rfl rfl rfl) rfl ?_
                           refine ds (v := .slice a149 j136.Early.length q150) rfl (fun w' hF => by subst hF; exact ld rfl Try.isAgg59 (Ctx.cell hc (k := 0) rfl rfl rfl)) rfl ?_
                           refine ds (v := .int .i64 j141) rfl (fun w' hF => by subst hF; exact mv (v := .int .i64 j141) rfl) rfl ?_
                           replace hp := bind_some hp; obtain ⟨y159, hy159, hp⟩ := hp
                           obtain ⟨b162, o163, u164, hi160, hi161⟩ := Ctx.rdAt hc (k := 2) rfl rfl reads_own hy159
                           subst u164
                           refine ds (v := .pointer (some ⟨b162, o163 + (j141).toNat * 2, none⟩)) rfl (fun w' hF => by subst hF; exact ixx rfl rfl Try.underlying59 Try.sizeOf91 hi160 hi161 rfl) rfl ?_
                           refine ds (v := .pointer (some ⟨b162, o163 + (j141).toNat * 2 + 0, none⟩)) rfl (fun w' hF => by subst hF; exact fax 0 rfl Try.underlying91 rfl Try.sizeOf3 rfl rfl rfl) rfl ?_
                           replace hc := Ctx.rdCell hc (k := 2) rfl rfl reads_own hy159; obtain ⟨cs165, hc, hcell166⟩ := hc
                           replace hc := S_ref16_Early.op hc; obtain ⟨a168, q169, u167, hc⟩ := hc; subst u167
                           refine ds (v := .int .i64 y159.Seq) rfl (fun w' hF => by subst hF; exact ld rfl Try.isAgg3 (hcell166 0 _ rfl)) rfl ?_
                           refine ds (v := .pointer (some ⟨b0, 0, none⟩)) rfl (fun w' hF => by subst hF; exact mv (v := .pointer (some ⟨b0, 0, none⟩)) rfl) rfl ?_
                           refine ds (v := .pointer (some ⟨b0, 0, none⟩)) rfl (fun w' hF => by subst hF; exact nl rfl) rfl ?_
                           refine ds (v := .pointer (some ⟨b0, 7, none⟩)) rfl (fun w' hF => by subst hF; exact fax 7 rfl Try.underlying61 rfl Try.sizeOf3 rfl rfl rfl) rfl ?_
                           refine ds (v := .int .i64 j136.Got) rfl (fun w' hF => by subst hF; exact ld rfl Try.isAgg3 (Ctx.cell hc (k := 1) rfl rfl rfl)) rfl ?_
                           refine ds (v := .bool (decide (y159.Seq ≠ j136.Got))) rfl (fun w' hF => by subst hF; exact ned rfl rfl) rfl ?_
                           refine dn ?_
                           refine qn ?_
                           cases hb170 : (decide (y159.Seq ≠ j136.Got))
                           · replace hp := gneg hp (of_decide_eq_false hb170)
                             refine Wcf rfl ?_
                             refine Wskip ?_
                             refine bn ?_
                             refine qn ?_
                             replace hc := hc.pull 3 rfl rfl
                             replace hc := hc.pull 3 rfl rfl
                             replace hc := hc.pull 3 rfl rfl
                             replace hc : Ctx w158 (S_ref16_Link.hp b0 j136 :: Hold (pRo (pInt .u8)) [.slice a168 y159.B.length q169] y159.B :: Own (pRo (pInt .u8)) 38 (.slice a133 z130.length q134) z130 :: Own S_ref16_Early.pr 91 (.slice a138 j137.length q140) j137 :: Fr) := Ctx.exB _ _ (Ctx.exB _ _ (Ctx.sepB (Ctx.sepB hc)))
                             replace hc := hc.rem 1 rfl rfl
                             exact ⟨⟨j137, a138, j137.length, q140, rfl, hp, hc⟩, (kl rfl kb)⟩
                           · replace hp := gpos hp (of_decide_eq_true hb170)
                             refine Wct rfl ?_
                             refine Wreg ?_
                             refine rs (v := .slice a138 j137.length q140) (mv (v := .slice a138 j137.length q140) rfl) rfl ?_
                             refine rs (v := .pointer (some ⟨b0, 0, none⟩)) (mv (v := .pointer (some ⟨b0, 0, none⟩)) rfl) rfl ?_
                             refine rs (v := .pointer (some ⟨b0, 0, none⟩)) (nl rfl) rfl ?_
                             refine rs (v := .pointer (some ⟨b0, 9, none⟩)) (fax 9 rfl Try.underlying61 rfl Try.sizeOf59 rfl rfl rfl) rfl ?_
                             refine rs (v := .slice (some ⟨b162, o163, none⟩) j136.Early.length q150) (ld rfl Try.isAgg59 (Ctx.cell hc (k := 1) rfl rfl rfl)) rfl ?_
                             refine rs (v := .int .i64 j141) (mv (v := .int .i64 j141) rfl) rfl ?_
                             replace hp := bind_some hp; obtain ⟨y171, hy171, hp⟩ := hp
                             obtain ⟨b174, o175, u176, hi172, hi173⟩ := Ctx.rdAt hc (k := 3) rfl rfl reads_own hy171
                             clear u176
                             refine rs (v := .pointer (some ⟨b162, o163 + (j141).toNat * 2, none⟩)) (ixx rfl rfl Try.underlying59 Try.sizeOf91 hi172 hi173 rfl) rfl ?_
                             replace hc := Ctx.rdCell hc (k := 3) rfl rfl reads_own hy171; obtain ⟨cs177, hc, hcell178⟩ := hc
                             replace hc := S_ref16_Early.op hc; obtain ⟨a180, q181, u179, hc⟩ := hc; subst u179
                             refine rs (v := .agg #[.int .i64 y171.Seq, .slice a180 y171.B.length q181]) (ldg rfl Try.isAgg91 Try.sizeOf91 rfl (elCells hcell178 0 (vs := [.int .i64 y171.Seq, .slice a180 y171.B.length q181]) rfl)) rfl ?_
                             replace hc := hc.dup (k := 0) rfl rfl
                             replace hc : Ctx w158 (Hold S_ref16_Early.pr [.int .i64 y171.Seq, .slice a180 y171.B.length q181] y171 :: Hold (pRo (pInt .u8)) [.slice a180 y171.B.length q181] y171.B :: Hold (pRo (pInt .u8)) [.slice a168 y159.B.length q169] y159.B :: B b0 [.int .i64 j136.Window, .int .i64 j136.Span, .int .i64 j136.Room, .int .i64 j136.Epoch, .int .i64 j136.Next, .int .i64 j136.Acked, .int .i64 j136.Sent, .int .i64 j136.Got, .slice a146 j136.Out.length q147, .slice (some ⟨b162, o163, none⟩) j136.Early.length q150, .bool j136.Owes] 61 :: Own S_ref16_Body.pr 88 (.slice a146 j136.Out.length q147) j136.Out :: Own S_ref16_Early.pr 91 (.slice (some ⟨b162, o163, none⟩) j136.Early.length q150) j136.Early :: Own (pRo (pInt .u8)) 38 (.slice a133 z130.length q134) z130 :: Own S_ref16_Early.pr 91 (.slice a138 j137.length q140) j137 :: Fr) := S_ref16_Early.cl hc
                             refine rsE (Ctx.builtOp (css := [[.int .i64 y171.Seq, .slice a180 y171.B.length q181]]) (xs := ([y171] : List S_ref16_Early)) (E := S_ref16_Early.pr) hc Try.underlying59 Try.sizeOf91 Try.zeroValue91 rfl rfl rfl rfl rfl rfl rfl rfl) rfl ?_
                             clear hc; rintro _ w183 ⟨a182, rfl, hc⟩
                             replace hp := bind_some hp; obtain ⟨z184, hz184, hp⟩ := hp
                             obtain ⟨hg185, e186⟩ := app_some hz184
                             refine rsE (Ctx.append hc (k := 7) rfl rfl (k2 := 0) rfl rfl reads_own Try.underlying59 (i := Try.t91) rfl rfl rfl rfl rfl rfl rfl rfl hg185) rfl ?_
                             clear hc; rintro _ w189 ⟨a187, q188, rfl, hc⟩
                             rw [← e186] at hc ⊢
                             refine rs (v := .slice a187 z184.length q188) (av (v := .slice a187 z184.length q188) rfl) rfl ?_
                             refine rn ?_
                             refine bn ?_
                             refine qn ?_
                             replace hc := hc.pull 5 rfl rfl
                             replace hc := hc.pull 5 rfl rfl
                             replace hc := hc.pull 5 rfl rfl
                             replace hc : Ctx w189 (S_ref16_Link.hp b0 j136 :: Own S_ref16_Early.pr 91 (.slice a182 1 1) ([y171]) :: Hold (pRo (pInt .u8)) [.slice a180 y171.B.length q181] y171.B :: Hold (pRo (pInt .u8)) [.slice a168 y159.B.length q169] y159.B :: Own (pRo (pInt .u8)) 38 (.slice a133 z130.length q134) z130 :: Own S_ref16_Early.pr 91 (.slice a187 z184.length q188) z184 :: Fr) := Ctx.exB _ _ (Ctx.exB _ _ (Ctx.sepB (Ctx.sepB hc)))
                             replace hc := hc.rem 3 rfl rfl
                             replace hc := hc.rem 2 rfl rfl
                             replace hc := hc.rem 1 rfl rfl
                             exact ⟨⟨z184, a187, z184.length, q188, rfl, hp, hc⟩, (kl rfl kb)⟩
                         · clear hp hc; intro vs u w190 hJ
                           obtain ⟨j154, a155, n156, q157, rfl, hp, hc⟩ := hJ
                           obtain ⟨u191, _⟩ := Ctx.rdLen hc (k := 2) rfl rfl reads_own; subst u191
                           unfold ref16_Link_Hear.J8 at hp
                           refine Wreg ?_
                           refine rs (v := .int .i64 j141) (mv (v := .int .i64 j141) rfl) rfl ?_
                           refine rs (v := .int .i64 (IntKind.i64.wrap (j141 + 1))) (adw rfl rfl) rfl ?_
                           refine rs (v := .int .i64 (IntKind.i64.wrap (j141 + 1))) (av (v := .int .i64 (IntKind.i64.wrap (j141 + 1))) rfl) rfl ?_
                           refine rn ?_
                           refine qn ?_
                           exact ⟨m7, Nat.lt_succ_self _, ⟨j136, j154, (IntKind.i64.wrap (j141 + 1)), a155, j154.length, q157, rfl, hp, hc⟩, (kl rfl (km rfl (kl rfl k0)))⟩
             · replace hp := gpos hp (of_decide_eq_true hb56)
               refine Wct rfl ?_
               refine Wseq ?_
               refine Wreg ?_
               refine rs (v := .slice none 0 0) (av (v := .slice none 0 0) rfl) rfl ?_
               refine rs (v := .int .i64 0) (av (v := .int .i64 0) rfl) rfl ?_
               refine rn ?_
               refine qn ?_
               refine Wret ?_
               refine qr ?_
               replace hc := hc.nilOwn (pRo (pInt .u8)) 38
               replace hc := hc.pull 3 rfl rfl
               replace hc := hc.pull 6 rfl rfl
               replace hc := hc.pull 3 rfl rfl
               replace hc : Ctx w55 (S_ref16_Link.hp b0 (⟨j26.Window, j26.Span, j26.Room, j26.Epoch, j26.Next, j26.Acked, j26.Sent, j26.Got, j39, j26.Early, j26.Owes⟩ : S_ref16_Link) :: Own (pRo (pInt .u8)) 38 (.slice none 0 0) ([]) :: Own S_ref16_Body.pr 88 (.slice a48 j26.Out.length q49) j26.Out :: B b5 [.int .i64 x1.Epoch, .int .i64 x1.Seq, .int .i64 x1.Ack, .slice a1 x1.Body.length q3] 46 :: Hold (pRo (pInt .u8)) [.slice a1 x1.Body.length q3] x1.Body :: Fr) := Ctx.exB _ _ (Ctx.exB _ _ (Ctx.sepB (Ctx.sepB hc)))
               replace hc := hc.rem 4 rfl rfl
               replace hc := hc.rem 3 rfl rfl
               replace hc := hc.rem 2 rfl rfl
               replace hc := hc.pull 1 rfl rfl
               injection hp with hp; subst hp
               refine f2 (v := .slice none 0 0) (u := .int .i64 0) Try.results21 Try.ntmps21 rfl rfl ?_
               exact ⟨_, rfl, k _ _ _ _ hc⟩
           · replace hp := gpos hp (of_decide_eq_true hb54)
             refine Wct rfl ?_
             refine Wskip ?_
             refine qn ?_
             refine Wseqm [6, 67, 68, 69, 70, 71, 72, 73, 74, 75, 76, 77, 78, 79, 80, 81, 82, 83, 84, 85, 86, 87, 88, 89] [6] (fun vs w' => ∃ j192 : (List S_ref16_Body), ∃ a193 : Option Addr, ∃ n194 : Nat, ∃ q195 : Nat, vs = [.slice a193 n194 q195] ∧ ref16_Link_Hear.J9 j43 (ref16_Link_Hear.L3 N x1 j26 m3) j192 = some r ∧ Ctx w' (S_ref16_Link.hp b0 j26 :: B b5 [.int .i64 x1.Epoch, .int .i64 x1.Seq, .int .i64 x1.Ack, .slice a1 x1.Body.length q3] 46 :: Hold (pRo (pInt .u8)) [.slice a1 x1.Body.length q3] x1.Body :: Own S_ref16_Body.pr 88 (.slice a193 n194 q195) j192 :: Fr)) ?_ ?_
             · refine Wblk ?_
               refine Wseq ?_
               replace hc := hc.drew
               refine Wdrw (fun _ w' => w' = World.drew w44) [0, 1, 3, 7, 0, 31, 63, 127, 0, 256, 768, 1792, 4095] 0 0 rfl (by kernel_rfl) (fun _ _ => rfl) ?_
               generalize hw : World.drew w44 = w196 at *
               clear hw
               refine ds (v := .pointer (some ⟨b0, 0, none⟩)) rfl (fun w' hF => by subst hF; exact mv (v := .pointer (some ⟨b0, 0, none⟩)) rfl) rfl ?_
               refine ds (v := .pointer (some ⟨b0, 0, none⟩)) rfl (fun w' hF => by subst hF; exact nl rfl) rfl ?_
               refine ds (v := .pointer (some ⟨b0, 8, none⟩)) rfl (fun w' hF => by subst hF; exact fax 8 rfl Try.underlying61 rfl Try.sizeOf58 rfl rfl rfl) rfl ?_
               refine ds (v := .slice a48 j26.Out.length q49) rfl (fun w' hF => by subst hF; exact ld rfl Try.isAgg58 (Ctx.cell hc (k := 0) rfl rfl rfl)) rfl ?_
               refine ds (v := .int .i64 j43) rfl (fun w' hF => by subst hF; exact mv (v := .int .i64 j43) rfl) rfl ?_
               replace hp := bind_some hp; obtain ⟨y197, hy197, hp⟩ := hp
               obtain ⟨b200, o201, u202, hi198, hi199⟩ := Ctx.rdAt hc (k := 1) rfl rfl reads_own hy197
               subst u202
               refine ds (v := .pointer (some ⟨b200, o201 + (j43).toNat * 3, none⟩)) rfl (fun w' hF => by subst hF; exact ixx rfl rfl Try.underlying58 Try.sizeOf88 hi198 hi199 rfl) rfl ?_
               refine ds (v := .pointer (some ⟨b200, o201 + (j43).toNat * 3 + 0, none⟩)) rfl (fun w' hF => by subst hF; exact fax 0 rfl Try.underlying88 rfl Try.sizeOf3 rfl rfl rfl) rfl ?_
               replace hc := Ctx.rdCell hc (k := 1) rfl rfl reads_own hy197; obtain ⟨cs203, hc, hcell204⟩ := hc
               replace hc := S_ref16_Body.op hc; obtain ⟨a206, q207, u205, hc⟩ := hc; subst u205
               refine ds (v := .int .i64 y197.Seq) rfl (fun w' hF => by subst hF; exact ld rfl Try.isAgg3 (hcell204 0 _ rfl)) rfl ?_
               refine ds (v := .pointer (some ⟨b0, 0, none⟩)) rfl (fun w' hF => by subst hF; exact mv (v := .pointer (some ⟨b0, 0, none⟩)) rfl) rfl ?_
               refine ds (v := .pointer (some ⟨b0, 0, none⟩)) rfl (fun w' hF => by subst hF; exact nl rfl) rfl ?_
               refine ds (v := .pointer (some ⟨b0, 5, none⟩)) rfl (fun w' hF => by subst hF; exact fax 5 rfl Try.underlying61 rfl Try.sizeOf3 rfl rfl rfl) rfl ?_
               refine ds (v := .int .i64 j26.Acked) rfl (fun w' hF => by subst hF; exact ld rfl Try.isAgg3 (Ctx.cell hc (k := 1) rfl rfl rfl)) rfl ?_
               refine ds (v := .bool (decide (y197.Seq > j26.Acked))) rfl (fun w' hF => by subst hF; exact gt' rfl rfl) rfl ?_
               refine dn ?_
               refine qn ?_
               cases hb208 : (decide (y197.Seq > j26.Acked))
               · replace hp := gneg hp (of_decide_eq_false hb208)
                 refine Wcf rfl ?_
                 refine Wskip ?_
                 refine bn ?_
                 refine qn ?_
                 replace hc := hc.pull 3 rfl rfl
                 replace hc := hc.pull 3 rfl rfl
                 replace hc := hc.pull 3 rfl rfl
                 replace hc : Ctx w196 (S_ref16_Link.hp b0 j26 :: Hold (pRo (pInt .u8)) [.slice a206 y197.B.length q207] y197.B :: B b5 [.int .i64 x1.Epoch, .int .i64 x1.Seq, .int .i64 x1.Ack, .slice a1 x1.Body.length q3] 46 :: Hold (pRo (pInt .u8)) [.slice a1 x1.Body.length q3] x1.Body :: Own S_ref16_Body.pr 88 (.slice a40 j39.length q42) j39 :: Fr) := Ctx.exB _ _ (Ctx.exB _ _ (Ctx.sepB (Ctx.sepB hc)))
                 replace hc := hc.rem 1 rfl rfl
                 exact ⟨⟨j39, a40, j39.length, q42, rfl, hp, hc⟩, (kl rfl kb)⟩
               · replace hp := gpos hp (of_decide_eq_true hb208)
                 refine Wct rfl ?_
                 refine Wreg ?_
                 refine rs (v := .slice a40 j39.length q42) (mv (v := .slice a40 j39.length q42) rfl) rfl ?_
                 refine rs (v := .pointer (some ⟨b0, 0, none⟩)) (mv (v := .pointer (some ⟨b0, 0, none⟩)) rfl) rfl ?_
                 refine rs (v := .pointer (some ⟨b0, 0, none⟩)) (nl rfl) rfl ?_
                 refine rs (v := .pointer (some ⟨b0, 8, none⟩)) (fax 8 rfl Try.underlying61 rfl Try.sizeOf58 rfl rfl rfl) rfl ?_
                 refine rs (v := .slice (some ⟨b200, o201, none⟩) j26.Out.length q49) (ld rfl Try.isAgg58 (Ctx.cell hc (k := 1) rfl rfl rfl)) rfl ?_
                 refine rs (v := .int .i64 j43) (mv (v := .int .i64 j43) rfl) rfl ?_
                 replace hp := bind_some hp; obtain ⟨y209, hy209, hp⟩ := hp
                 obtain ⟨b212, o213, u214, hi210, hi211⟩ := Ctx.rdAt hc (k := 2) rfl rfl reads_own hy209
                 clear u214
                 refine rs (v := .pointer (some ⟨b200, o201 + (j43).toNat * 3, none⟩)) (ixx rfl rfl Try.underlying58 Try.sizeOf88 hi210 hi211 rfl) rfl ?_
                 replace hc := Ctx.rdCell hc (k := 2) rfl rfl reads_own hy209; obtain ⟨cs215, hc, hcell216⟩ := hc
                 replace hc := S_ref16_Body.op hc; obtain ⟨a218, q219, u217, hc⟩ := hc; subst u217
                 refine rs (v := .agg #[.int .i64 y209.Seq, .int .i64 y209.Since, .slice a218 y209.B.length q219]) (ldg rfl Try.isAgg88 Try.sizeOf88 rfl (elCells hcell216 0 (vs := [.int .i64 y209.Seq, .int .i64 y209.Since, .slice a218 y209.B.length q219]) rfl)) rfl ?_
                 replace hc := hc.dup (k := 0) rfl rfl
                 replace hc : Ctx w196 (Hold S_ref16_Body.pr [.int .i64 y209.Seq, .int .i64 y209.Since, .slice a218 y209.B.length q219] y209 :: Hold (pRo (pInt .u8)) [.slice a218 y209.B.length q219] y209.B :: Hold (pRo (pInt .u8)) [.slice a206 y197.B.length q207] y197.B :: B b0 [.int .i64 j26.Window, .int .i64 j26.Span, .int .i64 j26.Room, .int .i64 j26.Epoch, .int .i64 j26.Next, .int .i64 j26.Acked, .int .i64 j26.Sent, .int .i64 j26.Got, .slice (some ⟨b200, o201, none⟩) j26.Out.length q49, .slice a51 j26.Early.length q52, .bool j26.Owes] 61 :: Own S_ref16_Body.pr 88 (.slice (some ⟨b200, o201, none⟩) j26.Out.length q49) j26.Out :: Own S_ref16_Early.pr 91 (.slice a51 j26.Early.length q52) j26.Early :: B b5 [.int .i64 x1.Epoch, .int .i64 x1.Seq, .int .i64 x1.Ack, .slice a1 x1.Body.length q3] 46 :: Hold (pRo (pInt .u8)) [.slice a1 x1.Body.length q3] x1.Body :: Own S_ref16_Body.pr 88 (.slice a40 j39.length q42) j39 :: Fr) := S_ref16_Body.cl hc
                 refine rsE (Ctx.builtOp (css := [[.int .i64 y209.Seq, .int .i64 y209.Since, .slice a218 y209.B.length q219]]) (xs := ([y209] : List S_ref16_Body)) (E := S_ref16_Body.pr) hc Try.underlying58 Try.sizeOf88 Try.zeroValue88 rfl rfl rfl rfl rfl rfl rfl rfl) rfl ?_
                 clear hc; rintro _ w221 ⟨a220, rfl, hc⟩
                 replace hp := bind_some hp; obtain ⟨z222, hz222, hp⟩ := hp
                 obtain ⟨hg223, e224⟩ := app_some hz222
                 refine rsE (Ctx.append hc (k := 8) rfl rfl (k2 := 0) rfl rfl reads_own Try.underlying58 (i := Try.t88) rfl rfl rfl rfl rfl rfl rfl rfl hg223) rfl ?_
                 clear hc; rintro _ w227 ⟨a225, q226, rfl, hc⟩
                 rw [← e224] at hc ⊢
                 refine rs (v := .slice a225 z222.length q226) (av (v := .slice a225 z222.length q226) rfl) rfl ?_
                 refine rn ?_
                 refine bn ?_
                 refine qn ?_
                 replace hc := hc.pull 5 rfl rfl
                 replace hc := hc.pull 5 rfl rfl
                 replace hc := hc.pull 5 rfl rfl
                 replace hc : Ctx w227 (S_ref16_Link.hp b0 j26 :: Own S_ref16_Body.pr 88 (.slice a220 1 1) ([y209]) :: Hold (pRo (pInt .u8)) [.slice a218 y209.B.length q219] y209.B :: Hold (pRo (pInt .u8)) [.slice a206 y197.B.length q207] y197.B :: B b5 [.int .i64 x1.Epoch, .int .i64 x1.Seq, .int .i64 x1.Ack, .slice a1 x1.Body.length q3] 46 :: Hold (pRo (pInt .u8)) [.slice a1 x1.Body.length q3] x1.Body :: Own S_ref16_Body.pr 88 (.slice a225 z222.length q226) z222 :: Fr) := Ctx.exB _ _ (Ctx.exB _ _ (Ctx.sepB (Ctx.sepB hc)))
                 replace hc := hc.rem 3 rfl rfl
                 replace hc := hc.rem 2 rfl rfl
                 replace hc := hc.rem 1 rfl rfl
                 exact ⟨⟨z222, a225, z222.length, q226, rfl, hp, hc⟩, (kl rfl kb)⟩
             · clear hp hc; intro vs u w228 hJ
               obtain ⟨j192, a193, n194, q195, rfl, hp, hc⟩ := hJ
               obtain ⟨u229, _⟩ := Ctx.rdLen hc (k := 3) rfl rfl reads_own; subst u229
               unfold ref16_Link_Hear.J9 at hp
               refine Wreg ?_
               refine rs (v := .int .i64 j43) (mv (v := .int .i64 j43) rfl) rfl ?_
               refine rs (v := .int .i64 (IntKind.i64.wrap (j43 + 1))) (adw rfl rfl) rfl ?_
               refine rs (v := .int .i64 (IntKind.i64.wrap (j43 + 1))) (av (v := .int .i64 (IntKind.i64.wrap (j43 + 1))) rfl) rfl ?_
               refine rn ?_
               refine qn ?_
               exact ⟨m3, Nat.lt_succ_self _, ⟨j192, (IntKind.i64.wrap (j43 + 1)), a193, j192.length, q195, rfl, hp, hc⟩, (kl rfl (km rfl (kl rfl k0)))⟩
     · replace hp := gpos hp hb25
       subst hb25
       refine Wct rfl ?_
       refine Wseq ?_
       refine Wreg ?_
       refine rs (v := .slice none 0 0) (av (v := .slice none 0 0) rfl) rfl ?_
       refine rs (v := .int .i64 150) (av (v := .int .i64 150) rfl) rfl ?_
       refine rn ?_
       refine qn ?_
       refine Wret ?_
       refine qr ?_
       replace hc := hc.nilOwn (pRo (pInt .u8)) 38
       replace hc := hc.rem 3 rfl rfl
       replace hc := hc.rem 2 rfl rfl
       injection hp with hp; subst hp
       refine f2 (v := .slice none 0 0) (u := .int .i64 150) Try.results21 Try.ntmps21 rfl rfl ?_
       exact ⟨_, rfl, k _ _ _ _ hc⟩
 · replace hp := gpos hp (of_decide_eq_true hb17)
   refine Wct rfl ?_
   refine Wseq ?_
   refine Wreg ?_
   refine rs (v := .slice none 0 0) (av (v := .slice none 0 0) rfl) rfl ?_
   refine rs (v := .int .i64 160) (av (v := .int .i64 160) rfl) rfl ?_
   refine rn ?_
   refine qn ?_
   refine Wret ?_
   refine qr ?_
   replace hc := hc.nilOwn (pRo (pInt .u8)) 38
   replace hc := hc.pull 3 rfl rfl
   replace hc := hc.pull 3 rfl rfl
   replace hc := hc.pull 3 rfl rfl
   replace hc : Ctx w16 (S_ref16_Link.hp b0 x0 :: Own (pRo (pInt .u8)) 38 (.slice none 0 0) ([]) :: B b5 [.int .i64 x1.Epoch, .int .i64 x1.Seq, .int .i64 x1.Ack, .slice a1 x1.Body.length q3] 46 :: Hold (pRo (pInt .u8)) [.slice a1 x1.Body.length q3] x1.Body :: Fr) := Ctx.exB _ _ (Ctx.exB _ _ (Ctx.sepB (Ctx.sepB hc)))
   replace hc := hc.rem 3 rfl rfl
   replace hc := hc.rem 2 rfl rfl
   replace hc := hc.pull 1 rfl rfl
   injection hp with hp; subst hp
   refine f2 (v := .slice none 0 0) (u := .int .i64 160) Try.results21 Try.ntmps21 rfl rfl ?_
   exact ⟨_, rfl, k _ _ _ _ hc⟩

-- FN (*peloton/pelotonref16.Link).Reset
theorem bd_61_0_1_2_3 {ρ : Operand → Value} {w : World} {dst : Option Nat} {ty : TypeId} {pos : String} {after : Array Edge} {g : Option (Nat × Bool)} {x0 x1 x2 x3 : Operand} {k0 : IntKind} {a0 : Int} {k1 : IntKind} {a1 : Int} {k2 : IntKind} {a2 : Int} {k3 : IntKind} {a3 : Int} (h0 : ρ x0 = (.int k0 a0)) (h1 : ρ x1 = (.int k1 a1)) (h2 : ρ x2 = (.int k2 a2)) (h3 : ρ x3 = (.int k3 a3)) :
    (execOp ρ ⟨dst, .build 61 #[(0, x0), (1, x1), (2, x2), (3, x3)], ty, pos, after, g⟩).run Try.prog w = .ok (.value (.agg #[(.int k0 a0), (.int k1 a1), (.int k2 a2), (.int k3 a3), (.int .i64 0), (.int .i64 0), (.int .i64 0), (.int .i64 0), (.slice none 0 0), (.slice none 0 0), (.bool false)])) w := by
  simp [execOp, Instr.build, Instr.fill, Try.zeroValue61, Try.runUnderlying61, Try.sizeOf3, Try.sizeOf4, Try.sizeOf58, Try.sizeOf59, h0, h1, h2, h3, Value.cells]

def ref16_Link_Reset (x0 : S_ref16_Link) (x1 : Int) : Option (Int × S_ref16_Link) :=
  if x1 ≤ x0.Epoch then
    some (160, x0)
  else
    if x1 ≥ 1099511627776 then
      some (160, x0)
    else
      some (0, (⟨x0.Window, x0.Span, x0.Room, x1, 0, 0, 0, 0, [], [], false⟩ : S_ref16_Link))

set_option maxHeartbeats 8000000 in
theorem ref16_Link_Reset_any {b0 : Nat} {x0 : S_ref16_Link} {x1 : Int} {Fr : List HP} {w : World} {r : Int × S_ref16_Link} {K : Value → World → Prop}  (hc : Ctx w (S_ref16_Link.hp b0 x0 :: Fr)) (hp : ref16_Link_Reset x0 x1 = some r)
    (k : ∀ w', Ctx w' (S_ref16_Link.hp b0 r.2 :: Fr) → K (.int .i64 r.1) w') : Calls Try.prog 24 #[.pointer (some ⟨b0, 0, none⟩), .int .i64 x1] w (Ret K) := by
 unfold ref16_Link_Reset at hp
 refine Center (args := [.pointer (some ⟨b0, 0, none⟩), .int .i64 x1]) (l := [(0, .pointer (some ⟨b0, 0, none⟩)), (1, .int .i64 x1)]) Try.func24 Try.ntmps24 rfl rfl rfl ?_
 refine Wseq ?_
 refine Wreg ?_
 refine rs (v := .int .i64 0) (av (v := .int .i64 0) rfl) rfl ?_
 refine rn ?_
 refine qn ?_
 refine Wseq ?_
 refine Wseq ?_
 refine Wreg ?_
 refine rs (v := .int .i64 x1) (mv (v := .int .i64 x1) rfl) rfl ?_
 refine rs (v := .pointer (some ⟨b0, 0, none⟩)) (mv (v := .pointer (some ⟨b0, 0, none⟩)) rfl) rfl ?_
 refine rs (v := .pointer (some ⟨b0, 0, none⟩)) (nl rfl) rfl ?_
 refine rs (v := .pointer (some ⟨b0, 3, none⟩)) (fax 3 rfl Try.underlying61 rfl Try.sizeOf3 rfl rfl rfl) rfl ?_
 replace hc := Ctx.exF hc; obtain ⟨v1, hc⟩ := hc
 replace hc := Ctx.exF hc; obtain ⟨v2, hc⟩ := hc
 replace hc := Ctx.sepF hc
 replace hc := Ctx.sepF hc
 obtain ⟨a3, q4, u5⟩ := hc.rd (k := 1) rfl rfl reads_own; subst u5
 obtain ⟨a6, q7, u8⟩ := hc.rd (k := 2) rfl rfl reads_own; subst u8
 refine rs (v := .int .i64 x0.Epoch) (ld rfl Try.isAgg3 (Ctx.cell hc (k := 0) rfl rfl rfl)) rfl ?_
 refine rs (v := .bool (decide (x1 ≤ x0.Epoch))) (le' rfl rfl) rfl ?_
 refine rs (v := .bool (decide (x1 ≤ x0.Epoch))) (mv (v := .bool (decide (x1 ≤ x0.Epoch))) rfl) rfl ?_
 cases hb9 : (decide (x1 ≤ x0.Epoch))
 · replace hp := gneg hp (of_decide_eq_false hb9)
   refine rs (v := .int .i64 x1) (mv (v := .int .i64 x1) rfl) rfl ?_
   refine rs (v := .bool (decide (x1 ≥ 1099511627776))) (ge' rfl rfl) rfl ?_
   refine rs (v := .bool (decide (x1 ≥ 1099511627776))) (pkf (v := .bool (decide (x1 ≥ 1099511627776))) rfl rfl) rfl ?_
   refine rn ?_
   refine qn ?_
   cases hb10 : (decide (x1 ≥ 1099511627776))
   · replace hp := gneg hp (of_decide_eq_false hb10)
     refine Wcf rfl ?_
     refine Wskip ?_
     refine qn ?_
     refine Wseq ?_
     replace hc := hc.drew
     refine Wdrw (fun j w' => True) [0, 0, 2, 6, 14, 0, 32, 96, 224, 0, 512, 1536, 3584, 0, 16382, 32767, 65535] 0 4368 rfl (by kernel_rfl) (fun _ _ => trivial) ?_
     generalize hw : World.drew w = w11 at *
     clear hw
     refine ds (v := .pointer (some ⟨b0, 0, none⟩)) rfl (fun w' hF => mv (v := .pointer (some ⟨b0, 0, none⟩)) rfl) rfl ?_
     refine ds (v := .pointer (some ⟨b0, 0, none⟩)) rfl (fun w' hF => mv (v := .pointer (some ⟨b0, 0, none⟩)) rfl) rfl ?_
     refine ds (v := .pointer (some ⟨b0, 0, none⟩)) rfl (fun w' hF => nl rfl) rfl ?_
     refine ds (v := .pointer (some ⟨b0, 0, none⟩)) rfl (fun w' hF => fax 0 rfl Try.underlying61 rfl Try.sizeOf3 rfl rfl rfl) rfl ?_
     refine dx (v := .int .i64 x0.Window) rfl (ld rfl Try.isAgg3 (Ctx.cell hc (k := 0) rfl rfl rfl)) rfl rfl ?_
     refine ds (v := .pointer (some ⟨b0, 0, none⟩)) rfl (fun w' hF => mv (v := .pointer (some ⟨b0, 0, none⟩)) rfl) rfl ?_
     refine ds (v := .pointer (some ⟨b0, 0, none⟩)) rfl (fun w' hF => nl rfl) rfl ?_
     refine ds (v := .pointer (some ⟨b0, 1, none⟩)) rfl (fun w' hF => fax 1 rfl Try.underlying61 rfl Try.sizeOf3 rfl rfl rfl) rfl ?_
     refine dx (v := .int .i64 x0.Span) rfl (ld rfl Try.isAgg3 (Ctx.cell hc (k := 0) rfl rfl rfl)) rfl rfl ?_
     refine ds (v := .pointer (some ⟨b0, 0, none⟩)) rfl (fun w' hF => mv (v := .pointer (some ⟨b0, 0, none⟩)) rfl) rfl ?_
     refine ds (v := .pointer (some ⟨b0, 0, none⟩)) rfl (fun w' hF => nl rfl) rfl ?_
     refine ds (v := .pointer (some ⟨b0, 2, none⟩)) rfl (fun w' hF => fax 2 rfl Try.underlying61 rfl Try.sizeOf3 rfl rfl rfl) rfl ?_
     refine dx (v := .int .i64 x0.Room) rfl (ld rfl Try.isAgg3 (Ctx.cell hc (k := 0) rfl rfl rfl)) rfl rfl ?_
     refine ds (v := .int .i64 x1) rfl (fun w' hF => mv (v := .int .i64 x1) rfl) rfl ?_
     refine ds (v := .agg #[.int .i64 x0.Window, .int .i64 x0.Span, .int .i64 x0.Room, .int .i64 x1, .int .i64 0, .int .i64 0, .int .i64 0, .int .i64 0, .slice none 0 0, .slice none 0 0, .bool false]) rfl (fun w' hF => bd_61_0_1_2_3 rfl rfl rfl rfl) rfl ?_
     refine ds (v := .pointer (some ⟨b0, 0, none⟩)) rfl (fun w' hF => nl rfl) rfl ?_
     refine duE (A := fun w' => Ctx w' (B b0 [.int .i64 x0.Window, .int .i64 x0.Span, .int .i64 x0.Room, .int .i64 x1, .int .i64 0, .int .i64 0, .int .i64 0, .int .i64 0, .slice none 0 0, .slice none 0 0, .bool false] 61 :: Own S_ref16_Body.pr 88 (.slice a3 x0.Out.length q4) x0.Out :: Own S_ref16_Early.pr 91 (.slice a6 x0.Early.length q7) x0.Early :: Fr)) (Ctx.putAgg hc (k := 0) rfl rfl (vs := [.int .i64 x0.Window, .int .i64 x0.Span, .int .i64 x0.Room, .int .i64 x1, .int .i64 0, .int .i64 0, .int .i64 0, .int .i64 0, .slice none 0 0, .slice none 0 0, .bool false]) rfl rfl rfl Try.sizeOf61 rfl rfl rfl) rfl rfl ?_
     clear hc; rintro w12 hc
     refine ⟨fun j hj hb => trivial, ?_⟩
     refine dn ?_
     refine qn ?_
     refine Wseq ?_
     refine Wreg ?_
     refine rs (v := .int .i64 0) (av (v := .int .i64 0) rfl) rfl ?_
     refine rn ?_
     refine qn ?_
     refine Wret ?_
     replace hc := hc.nilOwn S_ref16_Body.pr 88
     replace hc := hc.nilOwn S_ref16_Early.pr 91
     replace hc := hc.pull 1 rfl rfl
     replace hc := hc.pull 2 rfl rfl
     replace hc : Ctx w12 (S_ref16_Link.hp b0 (⟨x0.Window, x0.Span, x0.Room, x1, 0, 0, 0, 0, [], [], false⟩ : S_ref16_Link) :: Own S_ref16_Body.pr 88 (.slice a3 x0.Out.length q4) x0.Out :: Own S_ref16_Early.pr 91 (.slice a6 x0.Early.length q7) x0.Early :: Fr) := Ctx.exB _ _ (Ctx.exB _ _ (Ctx.sepB (Ctx.sepB hc)))
     replace hc := hc.rem 2 rfl rfl
     replace hc := hc.rem 1 rfl rfl
     injection hp with hp; subst hp
     refine f1 (v := .int .i64 0) Try.results24 Try.ntmps24 rfl ?_
     exact ⟨_, rfl, k _ hc⟩
   · replace hp := gpos hp (of_decide_eq_true hb10)
     refine Wct rfl ?_
     refine Wseq ?_
     refine Wreg ?_
     refine rs (v := .int .i64 160) (av (v := .int .i64 160) rfl) rfl ?_
     refine rn ?_
     refine qn ?_
     refine Wret ?_
     refine qr ?_
     replace hc := hc.pull 2 rfl rfl
     replace hc := hc.pull 2 rfl rfl
     replace hc := hc.pull 2 rfl rfl
     replace hc : Ctx w (S_ref16_Link.hp b0 x0 :: Fr) := Ctx.exB _ _ (Ctx.exB _ _ (Ctx.sepB (Ctx.sepB hc)))
     injection hp with hp; subst hp
     refine f1 (v := .int .i64 160) Try.results24 Try.ntmps24 rfl ?_
     exact ⟨_, rfl, k _ hc⟩
 · replace hp := gpos hp (of_decide_eq_true hb9)
   refine r0 rfl ?_
   refine r0 rfl ?_
   refine rs (v := .bool true) (pkt (v := .bool true) rfl rfl) rfl ?_
   refine rn ?_
   refine qn ?_
   refine Wct rfl ?_
   refine Wseq ?_
   refine Wreg ?_
   refine rs (v := .int .i64 160) (av (v := .int .i64 160) rfl) rfl ?_
   refine rn ?_
   refine qn ?_
   refine Wret ?_
   refine qr ?_
   replace hc := hc.pull 2 rfl rfl
   replace hc := hc.pull 2 rfl rfl
   replace hc := hc.pull 2 rfl rfl
   replace hc : Ctx w (S_ref16_Link.hp b0 x0 :: Fr) := Ctx.exB _ _ (Ctx.exB _ _ (Ctx.sepB (Ctx.sepB hc)))
   injection hp with hp; subst hp
   refine f1 (v := .int .i64 160) Try.results24 Try.ntmps24 rfl ?_
   exact ⟨_, rfl, k _ hc⟩

-- FN peloton/pelotonlaw16.segs
def law16_segs.L1 (x0 : (List S_api_Seg)) (x1 : (List S_api_Seg)) : Nat → Int → Option (Bool)
  | 0, _ => none
  | m1 + 1, j2 =>
    if j2 < ((x0.length : Nat) : Int) then
      (idx x0 j2).bind fun y6 =>
      (idx x1 j2).bind fun y17 =>
      (ref16_Same y6 y17).bind fun r28 =>
      if r28 = true then
        (law16_segs.L1 x0 x1 m1) (IntKind.i64.wrap (j2 + 1))
      else
        some false
    else
      some true

def law16_segs (N : Nat) (x0 : (List S_api_Seg)) (x1 : (List S_api_Seg)) : Option (Bool) :=
  if ((x0.length : Nat) : Int) ≠ ((x1.length : Nat) : Int) then
    some false
  else
    law16_segs.L1 x0 x1 N 0

set_option maxHeartbeats 8000000 in
theorem law16_segs_any {N : Nat} {x0 : (List S_api_Seg)} {ax0 : Option Addr} {nx0 : Nat} {qx0 : Nat} {P0 : HP} {x1 : (List S_api_Seg)} {ax1 : Option Addr} {nx1 : Nat} {qx1 : Nat} {P1 : HP} {Fr : List HP} {w : World} {r : Bool} {K : Value → World → Prop} (hrd0 : Reads P0 S_api_Seg.pr (.slice ax0 nx0 qx0) x0) (hrd1 : Reads P1 S_api_Seg.pr (.slice ax1 nx1 qx1) x1) (hc : Ctx w (P0 :: P1 :: Fr)) (hp : law16_segs N x0 x1 = some r)
    (k : ∀ w', Ctx w' (P0 :: P1 :: Fr) → K (.bool r) w') : Calls Try.prog 19 #[.slice ax0 nx0 qx0, .slice ax1 nx1 qx1] w (Ret K) := by
 unfold law16_segs at hp
 refine Center (args := [.slice ax0 nx0 qx0, .slice ax1 nx1 qx1]) (l := [(0, .slice ax0 nx0 qx0), (1, .slice ax1 nx1 qx1)]) Try.func19 Try.ntmps19 rfl rfl rfl ?_
 obtain ⟨hn0, _⟩ := Ctx.rdLen hc (k := 0) rfl rfl hrd0; subst hn0
 obtain ⟨hn1, _⟩ := Ctx.rdLen hc (k := 1) rfl rfl hrd1; subst hn1
 refine Wseq ?_
 refine Wreg ?_
 refine rs (v := .bool false) (av (v := .bool false) rfl) rfl ?_
 refine rn ?_
 refine qn ?_
 refine Wseq ?_
 refine Wseq ?_
 refine Wreg ?_
 refine rs (v := .slice ax0 x0.length qx0) (mv (v := .slice ax0 x0.length qx0) rfl) rfl ?_
 refine rs (v := .int .i64 ((x0.length : Nat) : Int)) (ln rfl Try.underlying29) rfl ?_
 refine rs (v := .slice ax1 x1.length qx1) (mv (v := .slice ax1 x1.length qx1) rfl) rfl ?_
 refine rs (v := .int .i64 ((x1.length : Nat) : Int)) (ln rfl Try.underlying29) rfl ?_
 refine rs (v := .bool (decide (((x0.length : Nat) : Int) ≠ ((x1.length : Nat) : Int)))) (ned rfl rfl) rfl ?_
 refine rn ?_
 refine qn ?_
 cases hb1 : (decide (((x0.length : Nat) : Int) ≠ ((x1.length : Nat) : Int)))
 · replace hp := gneg hp (of_decide_eq_false hb1)
   refine Wcf rfl ?_
   refine Wskip ?_
   refine qn ?_
   refine Wseq ?_
   refine Wseq ?_
   refine Wreg ?_
   refine rs (v := .int .i64 0) (av (v := .int .i64 0) rfl) rfl ?_
   refine rn ?_
   refine qn ?_
   refine Wblk ?_
   refine Wloop [4, 5, 11, 12, 13, 14, 15, 16, 17, 18, 19, 20, 21, 22, 23, 24, 25, 26] [5] (fun m vs w' => ∃ j2 : Int, vs = [.int .i64 j2] ∧ law16_segs.L1 x0 x1 m j2 = some r ∧ Ctx w' (P0 :: P1 :: Fr)) N ?_ ?_
   · exact ⟨0, rfl, hp, hc⟩
   · clear hp hc; intro m vs u w3 hJ
     obtain ⟨j2, rfl, hp, hc⟩ := hJ
     rcases m with _ | m1
     · cases (show none = some r from hp)
     rw [law16_segs.L1] at hp
     refine Wseq ?_
     refine Wseq ?_
     refine Wreg ?_
     refine rs (v := .int .i64 j2) (mv (v := .int .i64 j2) rfl) rfl ?_
     refine rs (v := .slice ax0 x0.length qx0) (mv (v := .slice ax0 x0.length qx0) rfl) rfl ?_
     refine rs (v := .int .i64 ((x0.length : Nat) : Int)) (ln rfl Try.underlying29) rfl ?_
     refine rs (v := .bool (decide (j2 < ((x0.length : Nat) : Int)))) (lt' rfl rfl) rfl ?_
     refine rn ?_
     refine qn ?_
     cases hb4 : (decide (j2 < ((x0.length : Nat) : Int)))
     · replace hp := gneg hp (of_decide_eq_false hb4)
       refine Wcf rfl ?_
       refine Wexit ?_
       refine qx ?_
       refine qx ?_
       refine be ?_
       refine qn ?_
       refine Wseq ?_
       refine Wreg ?_
       refine rs (v := .bool true) (av (v := .bool true) rfl) rfl ?_
       refine rn ?_
       refine qn ?_
       refine Wret ?_
       injection hp with hp; subst hp
       refine f1 (v := .bool true) Try.results19 Try.ntmps19 rfl ?_
       exact ⟨_, rfl, k _ hc⟩
     · replace hp := gpos hp (of_decide_eq_true hb4)
       refine Wct rfl ?_
       refine Wskip ?_
       refine qn ?_
       refine Wseq ?_
       refine Wblk ?_
       refine Wseq ?_
       replace hc := hc.drew
       refine Wdrw (fun j w' => True) [0, 0, 3, 7, 0, 0, 48, 112, 255, 511] 0 136 rfl (by kernel_rfl) (fun _ _ => trivial) ?_
       generalize hw : World.drew w3 = w5 at *
       clear hw
       refine ds (v := .slice ax0 x0.length qx0) rfl (fun w' hF => mv (v := .slice ax0 x0.length qx0) rfl) rfl ?_
       refine ds (v := .int .i64 j2) rfl (fun w' hF => mv (v := .int .i64 j2) rfl) rfl ?_
       replace hp := bind_some hp; obtain ⟨y6, hy6, hp⟩ := hp
       obtain ⟨b9, o10, u11, hi7, hi8⟩ := Ctx.rdAt hc (k := 0) rfl rfl hrd0 hy6
       subst u11
       refine ds (v := .pointer (some ⟨b9, o10 + (j2).toNat * 4, none⟩)) rfl (fun w' hF => ixx rfl rfl Try.underlying29 Try.sizeOf46 hi7 hi8 rfl) rfl ?_
       replace hc := Ctx.rdCell hc (k := 0) rfl rfl hrd0 hy6; obtain ⟨cs12, hc, hcell13⟩ := hc
       replace hc := S_api_Seg.op hc; obtain ⟨a15, q16, u14, hc⟩ := hc; subst u14
       refine dx (v := .agg #[.int .i64 y6.Epoch, .int .i64 y6.Seq, .int .i64 y6.Ack, .slice a15 y6.Body.length q16]) rfl (ldg rfl Try.isAgg46 Try.sizeOf46 rfl (elCells hcell13 0 (vs := [.int .i64 y6.Epoch, .int .i64 y6.Seq, .int .i64 y6.Ack, .slice a15 y6.Body.length q16]) rfl)) rfl rfl ?_
       refine ds (v := .slice ax1 x1.length qx1) rfl (fun w' hF => mv (v := .slice ax1 x1.length qx1) rfl) rfl ?_
       refine ds (v := .int .i64 j2) rfl (fun w' hF => mv (v := .int .i64 j2) rfl) rfl ?_
       replace hp := bind_some hp; obtain ⟨y17, hy17, hp⟩ := hp
       obtain ⟨b20, o21, u22, hi18, hi19⟩ := Ctx.rdAt hc (k := 2) rfl rfl hrd1 hy17
       subst u22
       refine ds (v := .pointer (some ⟨b20, o21 + (j2).toNat * 4, none⟩)) rfl (fun w' hF => ixx rfl rfl Try.underlying29 Try.sizeOf46 hi18 hi19 rfl) rfl ?_
       replace hc := Ctx.rdCell hc (k := 2) rfl rfl hrd1 hy17; obtain ⟨cs23, hc, hcell24⟩ := hc
       replace hc := S_api_Seg.op hc; obtain ⟨a26, q27, u25, hc⟩ := hc; subst u25
       refine dx (v := .agg #[.int .i64 y17.Epoch, .int .i64 y17.Seq, .int .i64 y17.Ack, .slice a26 y17.Body.length q27]) rfl (ldg rfl Try.isAgg46 Try.sizeOf46 rfl (elCells hcell24 0 (vs := [.int .i64 y17.Epoch, .int .i64 y17.Seq, .int .i64 y17.Ack, .slice a26 y17.Body.length q27]) rfl)) rfl rfl ?_
       replace hc := hc.dup (k := 1) rfl rfl
       replace hc := hc.dup (k := 1) rfl rfl
       replace hp := bind_some hp; obtain ⟨r28, hr28, hp⟩ := hp
       replace hc := hc.pull 1 rfl rfl
       refine dc (cl Try.call33 rfl rfl) rfl rfl ?_
       refine ref16_Same_any hc hr28 ?_
       clear hc; intro w29 hc
       refine ⟨fun j hj hb => trivial, ?_⟩
       cases hb30 : r28
       · replace hp := gneg hp (by rw [hb30]; exact Bool.false_ne_true)
         subst hb30
         refine ds (v := .bool true) rfl (fun w' hF => ntf rfl) rfl ?_
         refine dn ?_
         refine qn ?_
         refine Wct rfl ?_
         refine Wseq ?_
         refine Wreg ?_
         refine rs (v := .bool false) (av (v := .bool false) rfl) rfl ?_
         refine rn ?_
         refine qn ?_
         refine Wret ?_
         refine br ?_
         refine qr ?_
         refine qr ?_
         refine br ?_
         refine qr ?_
         replace hc := hc.rem 1 rfl rfl
         replace hc := hc.rem 0 rfl rfl
         injection hp with hp; subst hp
         refine f1 (v := .bool false) Try.results19 Try.ntmps19 rfl ?_
         exact ⟨_, rfl, k _ hc⟩
       · replace hp := gpos hp hb30
         subst hb30
         refine ds (v := .bool false) rfl (fun w' hF => ntt rfl) rfl ?_
         refine dn ?_
         refine qn ?_
         refine Wcf rfl ?_
         refine Wskip ?_
         refine bn ?_
         refine qn ?_
         refine Wreg ?_
         refine rs (v := .int .i64 j2) (mv (v := .int .i64 j2) rfl) rfl ?_
         refine rs (v := .int .i64 (IntKind.i64.wrap (j2 + 1))) (adw rfl rfl) rfl ?_
         refine rs (v := .int .i64 (IntKind.i64.wrap (j2 + 1))) (av (v := .int .i64 (IntKind.i64.wrap (j2 + 1))) rfl) rfl ?_
         refine rn ?_
         refine qn ?_
         replace hc := hc.rem 1 rfl rfl
         replace hc := hc.rem 0 rfl rfl
         exact ⟨m1, Nat.lt_succ_self _, ⟨(IntKind.i64.wrap (j2 + 1)), rfl, hp, hc⟩, (kl rfl k0)⟩
 · replace hp := gpos hp (of_decide_eq_true hb1)
   refine Wct rfl ?_
   refine Wseq ?_
   refine Wreg ?_
   refine rs (v := .bool false) (av (v := .bool false) rfl) rfl ?_
   refine rn ?_
   refine qn ?_
   refine Wret ?_
   refine qr ?_
   injection hp with hp; subst hp
   refine f1 (v := .bool false) Try.results19 Try.ntmps19 rfl ?_
   exact ⟨_, rfl, k _ hc⟩

-- FN peloton/pelotonlaw16.bodies
def law16_bodies.L1 (x0 : (List (List Int))) (x1 : (List (List Int))) : Nat → Int → Option (Bool)
  | 0, _ => none
  | m1 + 1, j2 =>
    if j2 < ((x0.length : Nat) : Int) then
      (idx x0 j2).bind fun y6 =>
      (idx x1 j2).bind fun y18 =>
      if ¬ (strOfNums y6) = (strOfNums y18) then
        some false
      else
        (law16_bodies.L1 x0 x1 m1) (IntKind.i64.wrap (j2 + 1))
    else
      some true

def law16_bodies (N : Nat) (x0 : (List (List Int))) (x1 : (List (List Int))) : Option (Bool) :=
  if ((x0.length : Nat) : Int) ≠ ((x1.length : Nat) : Int) then
    some false
  else
    law16_bodies.L1 x0 x1 N 0

set_option maxHeartbeats 8000000 in
theorem law16_bodies_any {N : Nat} {x0 : (List (List Int))} {ax0 : Option Addr} {nx0 : Nat} {qx0 : Nat} {P0 : HP} {x1 : (List (List Int))} {ax1 : Option Addr} {nx1 : Nat} {qx1 : Nat} {P1 : HP} {Fr : List HP} {w : World} {r : Bool} {K : Value → World → Prop} (hrd0 : Reads P0 (pRo (pInt .u8)) (.slice ax0 nx0 qx0) x0) (hrd1 : Reads P1 (pRo (pInt .u8)) (.slice ax1 nx1 qx1) x1) (hc : Ctx w (P0 :: P1 :: Fr)) (hp : law16_bodies N x0 x1 = some r)
    (k : ∀ w', Ctx w' (P0 :: P1 :: Fr) → K (.bool r) w') : Calls Try.prog 22 #[.slice ax0 nx0 qx0, .slice ax1 nx1 qx1] w (Ret K) := by
 unfold law16_bodies at hp
 refine Center (args := [.slice ax0 nx0 qx0, .slice ax1 nx1 qx1]) (l := [(0, .slice ax0 nx0 qx0), (1, .slice ax1 nx1 qx1)]) Try.func22 Try.ntmps22 rfl rfl rfl ?_
 obtain ⟨hn0, _⟩ := Ctx.rdLen hc (k := 0) rfl rfl hrd0; subst hn0
 obtain ⟨hn1, _⟩ := Ctx.rdLen hc (k := 1) rfl rfl hrd1; subst hn1
 refine Wseq ?_
 refine Wreg ?_
 refine rs (v := .bool false) (av (v := .bool false) rfl) rfl ?_
 refine rn ?_
 refine qn ?_
 refine Wseq ?_
 refine Wseq ?_
 refine Wreg ?_
 refine rs (v := .slice ax0 x0.length qx0) (mv (v := .slice ax0 x0.length qx0) rfl) rfl ?_
 refine rs (v := .int .i64 ((x0.length : Nat) : Int)) (ln rfl Try.underlying51) rfl ?_
 refine rs (v := .slice ax1 x1.length qx1) (mv (v := .slice ax1 x1.length qx1) rfl) rfl ?_
 refine rs (v := .int .i64 ((x1.length : Nat) : Int)) (ln rfl Try.underlying51) rfl ?_
 refine rs (v := .bool (decide (((x0.length : Nat) : Int) ≠ ((x1.length : Nat) : Int)))) (ned rfl rfl) rfl ?_
 refine rn ?_
 refine qn ?_
 cases hb1 : (decide (((x0.length : Nat) : Int) ≠ ((x1.length : Nat) : Int)))
 · replace hp := gneg hp (of_decide_eq_false hb1)
   refine Wcf rfl ?_
   refine Wskip ?_
   refine qn ?_
   refine Wseq ?_
   refine Wseq ?_
   refine Wreg ?_
   refine rs (v := .int .i64 0) (av (v := .int .i64 0) rfl) rfl ?_
   refine rn ?_
   refine qn ?_
   refine Wblk ?_
   refine Wloop [4, 5, 11, 12, 13, 14, 15, 16, 17, 18, 19, 20, 21, 22, 23, 24, 25, 26, 27] [5] (fun m vs w' => ∃ j2 : Int, vs = [.int .i64 j2] ∧ law16_bodies.L1 x0 x1 m j2 = some r ∧ Ctx w' (P0 :: P1 :: Fr)) N ?_ ?_
   · exact ⟨0, rfl, hp, hc⟩
   · clear hp hc; intro m vs u w3 hJ
     obtain ⟨j2, rfl, hp, hc⟩ := hJ
     rcases m with _ | m1
     · cases (show none = some r from hp)
     rw [law16_bodies.L1] at hp
     refine Wseq ?_
     refine Wseq ?_
     refine Wreg ?_
     refine rs (v := .int .i64 j2) (mv (v := .int .i64 j2) rfl) rfl ?_
     refine rs (v := .slice ax0 x0.length qx0) (mv (v := .slice ax0 x0.length qx0) rfl) rfl ?_
     refine rs (v := .int .i64 ((x0.length : Nat) : Int)) (ln rfl Try.underlying51) rfl ?_
     refine rs (v := .bool (decide (j2 < ((x0.length : Nat) : Int)))) (lt' rfl rfl) rfl ?_
     refine rn ?_
     refine qn ?_
     cases hb4 : (decide (j2 < ((x0.length : Nat) : Int)))
     · replace hp := gneg hp (of_decide_eq_false hb4)
       refine Wcf rfl ?_
       refine Wexit ?_
       refine qx ?_
       refine qx ?_
       refine be ?_
       refine qn ?_
       refine Wseq ?_
       refine Wreg ?_
       refine rs (v := .bool true) (av (v := .bool true) rfl) rfl ?_
       refine rn ?_
       refine qn ?_
       refine Wret ?_
       injection hp with hp; subst hp
       refine f1 (v := .bool true) Try.results22 Try.ntmps22 rfl ?_
       exact ⟨_, rfl, k _ hc⟩
     · replace hp := gpos hp (of_decide_eq_true hb4)
       refine Wct rfl ?_
       refine Wskip ?_
       refine qn ?_
       refine Wseq ?_
       refine Wblk ?_
       refine Wseq ?_
       replace hc := hc.drew
       refine Wdrw (fun _ w' => w' = World.drew w3) [0, 0, 3, 7, 15, 0, 0, 96, 224, 480, 1023] 0 0 rfl (by kernel_rfl) (fun _ _ => rfl) ?_
       generalize hw : World.drew w3 = w5 at *
       clear hw
       refine ds (v := .slice ax0 x0.length qx0) rfl (fun w' hF => by subst hF; exact mv (v := .slice ax0 x0.length qx0) rfl) rfl ?_
       refine ds (v := .int .i64 j2) rfl (fun w' hF => by subst hF; exact mv (v := .int .i64 j2) rfl) rfl ?_
       replace hp := bind_some hp; obtain ⟨y6, hy6, hp⟩ := hp
       obtain ⟨b9, o10, u11, hi7, hi8⟩ := Ctx.rdAt hc (k := 0) rfl rfl hrd0 hy6
       subst u11
       refine ds (v := .pointer (some ⟨b9, o10 + (j2).toNat * 1, none⟩)) rfl (fun w' hF => by subst hF; exact ixx rfl rfl Try.underlying51 Try.sizeOf38 hi7 hi8 rfl) rfl ?_
       replace hc := Ctx.rdCell hc (k := 0) rfl rfl hrd0 hy6; obtain ⟨cs12, hc, hcell13⟩ := hc
       replace hc := Ctx.holdRo hc; obtain ⟨v17, u14, hc⟩ := hc; subst u14
       obtain ⟨a15, q16, u14⟩ := hc.rd (k := 0) rfl rfl reads_ro; subst u14
       refine ds (v := .slice a15 y6.length q16) rfl (fun w' hF => by subst hF; exact ld rfl Try.isAgg38 (hcell13 0 _ rfl)) rfl ?_
       refine ds (v := .string (strOfNums y6)) rfl (fun w' hF => by subst hF; exact Ctx.b2s hc (k := 0) rfl rfl reads_ro rfl Try.underlying38 Try.underlying5 Try.underlying9) rfl ?_
       refine ds (v := .slice ax1 x1.length qx1) rfl (fun w' hF => by subst hF; exact mv (v := .slice ax1 x1.length qx1) rfl) rfl ?_
       refine ds (v := .int .i64 j2) rfl (fun w' hF => by subst hF; exact mv (v := .int .i64 j2) rfl) rfl ?_
       replace hp := bind_some hp; obtain ⟨y18, hy18, hp⟩ := hp
       obtain ⟨b21, o22, u23, hi19, hi20⟩ := Ctx.rdAt hc (k := 2) rfl rfl hrd1 hy18
       subst u23
       refine ds (v := .pointer (some ⟨b21, o22 + (j2).toNat * 1, none⟩)) rfl (fun w' hF => by subst hF; exact ixx rfl rfl Try.underlying51 Try.sizeOf38 hi19 hi20 rfl) rfl ?_
       replace hc := Ctx.rdCell hc (k := 2) rfl rfl hrd1 hy18; obtain ⟨cs24, hc, hcell25⟩ := hc
       replace hc := Ctx.holdRo hc; obtain ⟨v29, u26, hc⟩ := hc; subst u26
       obtain ⟨a27, q28, u26⟩ := hc.rd (k := 0) rfl rfl reads_ro; subst u26
       refine ds (v := .slice a27 y18.length q28) rfl (fun w' hF => by subst hF; exact ld rfl Try.isAgg38 (hcell25 0 _ rfl)) rfl ?_
       refine ds (v := .string (strOfNums y18)) rfl (fun w' hF => by subst hF; exact Ctx.b2s hc (k := 0) rfl rfl reads_ro rfl Try.underlying38 Try.underlying5 Try.underlying9) rfl ?_
       refine ds (v := .bool (decide (¬ (strOfNums y6) = (strOfNums y18)))) rfl (fun w' hF => by subst hF; exact nestr rfl rfl) rfl ?_
       refine dn ?_
       refine qn ?_
       cases hb30 : (decide (¬ (strOfNums y6) = (strOfNums y18)))
       · replace hp := gneg hp (of_decide_eq_false hb30)
         refine Wcf rfl ?_
         refine Wskip ?_
         refine bn ?_
         refine qn ?_
         refine Wreg ?_
         refine rs (v := .int .i64 j2) (mv (v := .int .i64 j2) rfl) rfl ?_
         refine rs (v := .int .i64 (IntKind.i64.wrap (j2 + 1))) (adw rfl rfl) rfl ?_
         refine rs (v := .int .i64 (IntKind.i64.wrap (j2 + 1))) (av (v := .int .i64 (IntKind.i64.wrap (j2 + 1))) rfl) rfl ?_
         refine rn ?_
         refine qn ?_
         replace hc := hc.rem 1 rfl rfl
         replace hc := hc.rem 0 rfl rfl
         exact ⟨m1, Nat.lt_succ_self _, ⟨(IntKind.i64.wrap (j2 + 1)), rfl, hp, hc⟩, (kl rfl k0)⟩
       · replace hp := gpos hp (of_decide_eq_true hb30)
         refine Wct rfl ?_
         refine Wseq ?_
         refine Wreg ?_
         refine rs (v := .bool false) (av (v := .bool false) rfl) rfl ?_
         refine rn ?_
         refine qn ?_
         refine Wret ?_
         refine br ?_
         refine qr ?_
         refine qr ?_
         refine br ?_
         refine qr ?_
         replace hc := hc.rem 1 rfl rfl
         replace hc := hc.rem 0 rfl rfl
         injection hp with hp; subst hp
         refine f1 (v := .bool false) Try.results22 Try.ntmps22 rfl ?_
         exact ⟨_, rfl, k _ hc⟩
 · replace hp := gpos hp (of_decide_eq_true hb1)
   refine Wct rfl ?_
   refine Wseq ?_
   refine Wreg ?_
   refine rs (v := .bool false) (av (v := .bool false) rfl) rfl ?_
   refine rn ?_
   refine qn ?_
   refine Wret ?_
   refine qr ?_
   injection hp with hp; subst hp
   refine f1 (v := .bool false) Try.results22 Try.ntmps22 rfl ?_
   exact ⟨_, rfl, k _ hc⟩

end Go.Proofs.Ytjileigclbohdaa
