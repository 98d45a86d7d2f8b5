/- Functions of the program as plain functions, and the proofs that walks compute them. Printed by a program of this session. -/
import Derived.Test.YtjileigclbohdaaT1
namespace Go.Proofs.Ytjileigclbohdaa
open Go Go.RowKit Go.Hp
set_option linter.unusedVariables false
set_option linter.unusedSimpArgs false
set_option maxRecDepth 100000

-- FN peloton/pelotonref16.Same
def ref16_Same (x0 : S_api_Seg) (x1 : S_api_Seg) : Option (Bool) :=
  if x0.Epoch = x1.Epoch then
    if x0.Seq = x1.Seq then
      if x0.Ack = x1.Ack then
        some (decide ((strOfNums x0.Body) = (strOfNums x1.Body)))
      else
        some false
    else
      some false
  else
    some false

set_option maxHeartbeats 8000000 in
theorem ref16_Same_any {x0 : S_api_Seg} {a1 : Option Addr} {n2 : Nat} {q3 : Nat} {x1 : S_api_Seg} {a4 : Option Addr} {n5 : Nat} {q6 : Nat} {Fr : List HP} {w : World} {r : Bool} {K : Value → World → Prop}  (hc : Ctx w (Hold (pRo (pInt .u8)) [.slice a1 n2 q3] x0.Body :: Hold (pRo (pInt .u8)) [.slice a4 n5 q6] x1.Body :: Fr)) (hp : ref16_Same x0 x1 = some r)
    (k : ∀ w', Ctx w' (Fr) → K (.bool r) w') : Calls Try.prog 33 #[.agg #[.int .i64 x0.Epoch, .int .i64 x0.Seq, .int .i64 x0.Ack, .slice a1 n2 q3], .agg #[.int .i64 x1.Epoch, .int .i64 x1.Seq, .int .i64 x1.Ack, .slice a4 n5 q6]] w (Ret K) := by
 unfold ref16_Same at hp
 refine Center (args := [.agg #[.int .i64 x0.Epoch, .int .i64 x0.Seq, .int .i64 x0.Ack, .slice a1 n2 q3], .agg #[.int .i64 x1.Epoch, .int .i64 x1.Seq, .int .i64 x1.Ack, .slice a4 n5 q6]]) (l := [(0, .agg #[.int .i64 x0.Epoch, .int .i64 x0.Seq, .int .i64 x0.Ack, .slice a1 n2 q3]), (1, .agg #[.int .i64 x1.Epoch, .int .i64 x1.Seq, .int .i64 x1.Ack, .slice a4 n5 q6])]) Try.func33 Try.ntmps33 rfl rfl rfl ?_
 obtain ⟨u7, _⟩ := Ctx.rdLen hc (k := 0) rfl rfl reads_ro; subst u7
 obtain ⟨u8, _⟩ := Ctx.rdLen hc (k := 1) rfl rfl reads_ro; subst u8
 refine Wseq ?_
 refine Wreg ?_
 refine rsE (Ctx.boxOp (cs := [.int .i64 x0.Epoch, .int .i64 x0.Seq, .int .i64 x0.Ack, .slice a1 x0.Body.length q3]) (v := .agg #[.int .i64 x0.Epoch, .int .i64 x0.Seq, .int .i64 x0.Ack, .slice a1 x0.Body.length q3]) hc rfl rfl) rfl ?_
 clear hc; rintro _ w11 ⟨b9, rfl, hc⟩
 refine rsE (Ctx.boxOp (cs := [.int .i64 x1.Epoch, .int .i64 x1.Seq, .int .i64 x1.Ack, .slice a4 x1.Body.length q6]) (v := .agg #[.int .i64 x1.Epoch, .int .i64 x1.Seq, .int .i64 x1.Ack, .slice a4 x1.Body.length q6]) hc rfl rfl) rfl ?_
 clear hc; rintro _ w14 ⟨b12, rfl, hc⟩
 refine rs (v := .bool false) (av (v := .bool false) rfl) rfl ?_
 refine rn ?_
 refine qn ?_
 refine Wseq ?_
 refine Wreg ?_
 refine rs (v := .pointer (some ⟨b9, 0, none⟩)) (fax 0 rfl Try.underlying46 rfl Try.sizeOf3 rfl rfl rfl) rfl ?_
 refine rs (v := .int .i64 x0.Epoch) (ld rfl Try.isAgg3 (Ctx.cell hc (k := 1) rfl rfl rfl)) rfl ?_
 refine rs (v := .pointer (some ⟨b12, 0, none⟩)) (fax 0 rfl Try.underlying46 rfl Try.sizeOf3 rfl rfl rfl) rfl ?_
 refine rs (v := .int .i64 x1.Epoch) (ld rfl Try.isAgg3 (Ctx.cell hc (k := 0) rfl rfl rfl)) rfl ?_
 refine rs (v := .bool (decide (x0.Epoch = x1.Epoch))) (eqd rfl rfl) rfl ?_
 refine rs (v := .bool (decide (x0.Epoch = x1.Epoch))) (mv (v := .bool (decide (x0.Epoch = x1.Epoch))) rfl) rfl ?_
 cases hb15 : (decide (x0.Epoch = x1.Epoch))
 · replace hp := gneg hp (of_decide_eq_false hb15)
   refine r0 rfl ?_
   refine r0 rfl ?_
   refine r0 rfl ?_
   refine r0 rfl ?_
   refine r0 rfl ?_
   refine rs (v := .bool false) (pkf (v := .bool false) rfl rfl) rfl ?_
   refine rs (v := .bool false) (mv (v := .bool false) rfl) rfl ?_
   refine r0 rfl ?_
   refine r0 rfl ?_
   refine r0 rfl ?_
   refine r0 rfl ?_
   refine r0 rfl ?_
   refine rs (v := .bool false) (pkf (v := .bool false) rfl rfl) rfl ?_
   refine rs (v := .bool false) (mv (v := .bool false) rfl) rfl ?_
   refine r0 rfl ?_
   refine r0 rfl ?_
   refine r0 rfl ?_
   refine r0 rfl ?_
   refine r0 rfl ?_
   refine r0 rfl ?_
   refine r0 rfl ?_
   refine rs (v := .bool false) (pkf (v := .bool false) rfl rfl) rfl ?_
   refine rs (v := .bool false) (av (v := .bool false) rfl) rfl ?_
   refine rn ?_
   refine qn ?_
   refine Wret ?_
   replace hc := hc.rem 3 rfl rfl
   replace hc := hc.rem 2 rfl rfl
   replace hc := hc.rem 1 rfl rfl
   replace hc := hc.rem 0 rfl rfl
   injection hp with hp; subst hp
   refine f1 (v := .bool false) Try.results33 Try.ntmps33 rfl ?_
   exact ⟨_, rfl, k _ hc⟩
 · replace hp := gpos hp (of_decide_eq_true hb15)
   refine rs (v := .pointer (some ⟨b9, 1, none⟩)) (fax 1 rfl Try.underlying46 rfl Try.sizeOf3 rfl rfl rfl) rfl ?_
   refine rs (v := .int .i64 x0.Seq) (ld rfl Try.isAgg3 (Ctx.cell hc (k := 1) rfl rfl rfl)) rfl ?_
   refine rs (v := .pointer (some ⟨b12, 1, none⟩)) (fax 1 rfl Try.underlying46 rfl Try.sizeOf3 rfl rfl rfl) rfl ?_
   refine rs (v := .int .i64 x1.Seq) (ld rfl Try.isAgg3 (Ctx.cell hc (k := 0) rfl rfl rfl)) rfl ?_
   refine rs (v := .bool (decide (x0.Seq = x1.Seq))) (eqd rfl rfl) rfl ?_
   refine rs (v := .bool (decide (x0.Seq = x1.Seq))) (pkt (v := .bool (decide (x0.Seq = x1.Seq))) rfl rfl) rfl ?_
   refine rs (v := .bool (decide (x0.Seq = x1.Seq))) (mv (v := .bool (decide (x0.Seq = x1.Seq))) rfl) rfl ?_
   cases hb16 : (decide (x0.Seq = x1.Seq))
   · replace hp := gneg hp (of_decide_eq_false hb16)
     refine r0 rfl ?_
     refine r0 rfl ?_
     refine r0 rfl ?_
     refine r0 rfl ?_
     refine r0 rfl ?_
     refine rs (v := .bool false) (pkf (v := .bool false) rfl rfl) rfl ?_
     refine rs (v := .bool false) (mv (v := .bool false) rfl) rfl ?_
     refine r0 rfl ?_
     refine r0 rfl ?_
     refine r0 rfl ?_
     refine r0 rfl ?_
     refine r0 rfl ?_
     refine r0 rfl ?_
     refine r0 rfl ?_
     refine rs (v := .bool false) (pkf (v := .bool false) rfl rfl) rfl ?_
     refine rs (v := .bool false) (av (v := .bool false) rfl) rfl ?_
     refine rn ?_
     refine qn ?_
     refine Wret ?_
     replace hc := hc.rem 3 rfl rfl
     replace hc := hc.rem 2 rfl rfl
     replace hc := hc.rem 1 rfl rfl
     replace hc := hc.rem 0 rfl rfl
     injection hp with hp; subst hp
     refine f1 (v := .bool false) Try.results33 Try.ntmps33 rfl ?_
     exact ⟨_, rfl, k _ hc⟩
   · replace hp := gpos hp (of_decide_eq_true hb16)
     refine rs (v := .pointer (some ⟨b9, 2, none⟩)) (fax 2 rfl Try.underlying46 rfl Try.sizeOf3 rfl rfl rfl) rfl ?_
     refine rs (v := .int .i64 x0.Ack) (ld rfl Try.isAgg3 (Ctx.cell hc (k := 1) rfl rfl rfl)) rfl ?_
     refine rs (v := .pointer (some ⟨b12, 2, none⟩)) (fax 2 rfl Try.underlying46 rfl Try.sizeOf3 rfl rfl rfl) rfl ?_
     refine rs (v := .int .i64 x1.Ack) (ld rfl Try.isAgg3 (Ctx.cell hc (k := 0) rfl rfl rfl)) rfl ?_
     refine rs (v := .bool (decide (x0.Ack = x1.Ack))) (eqd rfl rfl) rfl ?_
     refine rs (v := .bool (decide (x0.Ack = x1.Ack))) (pkt (v := .bool (decide (x0.Ack = x1.Ack))) rfl rfl) rfl ?_
     refine rs (v := .bool (decide (x0.Ack = x1.Ack))) (mv (v := .bool (decide (x0.Ack = x1.Ack))) rfl) rfl ?_
     cases hb17 : (decide (x0.Ack = x1.Ack))
     · replace hp := gneg hp (of_decide_eq_false hb17)
       refine r0 rfl ?_
       refine r0 rfl ?_
       refine r0 rfl ?_
       refine r0 rfl ?_
       refine r0 rfl ?_
       refine r0 rfl ?_
       refine r0 rfl ?_
       refine rs (v := .bool false) (pkf (v := .bool false) rfl rfl) rfl ?_
       refine rs (v := .bool false) (av (v := .bool false) rfl) rfl ?_
       refine rn ?_
       refine qn ?_
       refine Wret ?_
       replace hc := hc.rem 3 rfl rfl
       replace hc := hc.rem 2 rfl rfl
       replace hc := hc.rem 1 rfl rfl
       replace hc := hc.rem 0 rfl rfl
       injection hp with hp; subst hp
       refine f1 (v := .bool false) Try.results33 Try.ntmps33 rfl ?_
       exact ⟨_, rfl, k _ hc⟩
     · replace hp := gpos hp (of_decide_eq_true hb17)
       refine rs (v := .pointer (some ⟨b9, 3, none⟩)) (fax 3 rfl Try.underlying46 rfl Try.sizeOf38 rfl rfl rfl) rfl ?_
       refine rs (v := .slice a1 x0.Body.length q3) (ld rfl Try.isAgg38 (Ctx.cell hc (k := 1) rfl rfl rfl)) rfl ?_
       refine rs (v := .string (strOfNums x0.Body)) (Ctx.b2s hc (k := 2) rfl rfl reads_ro rfl Try.underlying38 Try.underlying5 Try.underlying9) rfl ?_
       refine rs (v := .pointer (some ⟨b12, 3, none⟩)) (fax 3 rfl Try.underlying46 rfl Try.sizeOf38 rfl rfl rfl) rfl ?_
       refine rs (v := .slice a4 x1.Body.length q6) (ld rfl Try.isAgg38 (Ctx.cell hc (k := 0) rfl rfl rfl)) rfl ?_
       refine rs (v := .string (strOfNums x1.Body)) (Ctx.b2s hc (k := 3) rfl rfl reads_ro rfl Try.underlying38 Try.underlying5 Try.underlying9) rfl ?_
       refine rs (v := .bool (decide ((strOfNums x0.Body) = (strOfNums x1.Body)))) (eqstr rfl rfl) rfl ?_
       refine rs (v := .bool (decide ((strOfNums x0.Body) = (strOfNums x1.Body)))) (pkt (v := .bool (decide ((strOfNums x0.Body) = (strOfNums x1.Body)))) rfl rfl) rfl ?_
       refine rs (v := .bool (decide ((strOfNums x0.Body) = (strOfNums x1.Body)))) (av (v := .bool (decide ((strOfNums x0.Body) = (strOfNums x1.Body)))) rfl) rfl ?_
       refine rn ?_
       refine qn ?_
       refine Wret ?_
       replace hc := hc.rem 3 rfl rfl
       replace hc := hc.rem 2 rfl rfl
       replace hc := hc.rem 1 rfl rfl
       replace hc := hc.rem 0 rfl rfl
       injection hp with hp; subst hp
       refine f1 (v := .bool (decide ((strOfNums x0.Body) = (strOfNums x1.Body)))) Try.results33 Try.ntmps33 rfl ?_
       exact ⟨_, rfl, k _ hc⟩

-- FN (*peloton/pelotonref16.Link).find
def ref16_Link_find.L1 (x0 : S_ref16_Link) (x1 : Int) : Nat → Int → Option (Int)
  | 0, _ => none
  | m1 + 1, j1 =>
    if j1 < ((x0.Early.length : Nat) : Int) then
      (idx x0.Early j1).bind fun y12 =>
      if y12.Seq = x1 then
        some j1
      else
        (ref16_Link_find.L1 x0 x1 m1) (IntKind.i64.wrap (j1 + 1))
    else
      some (-1)

def ref16_Link_find (N : Nat) (x0 : S_ref16_Link) (x1 : Int) : Option (Int) :=
  ref16_Link_find.L1 x0 x1 N 0

set_option maxHeartbeats 8000000 in
theorem ref16_Link_find_any {N : Nat} {b0 : Nat} {x0 : S_ref16_Link} {x1 : Int} {Fr : List HP} {w : World} {r : Int} {K : Value → World → Prop}  (hc : Ctx w (S_ref16_Link.hp b0 x0 :: Fr)) (hp : ref16_Link_find N x0 x1 = some r)
    (k : ∀ w', Ctx w' (S_ref16_Link.hp b0 x0 :: Fr) → K (.int .i64 r) w') : Calls Try.prog 34 #[.pointer (some ⟨b0, 0, none⟩), .int .i64 x1] w (Ret K) := by
 unfold ref16_Link_find at hp
 refine Center (args := [.pointer (some ⟨b0, 0, none⟩), .int .i64 x1]) (l := [(0, .pointer (some ⟨b0, 0, none⟩)), (1, .int .i64 x1)]) Try.func34 Try.ntmps34 rfl rfl rfl ?_
 refine Wseq ?_
 refine Wreg ?_
 refine rs (v := .int .i64 0) (av (v := .int .i64 0) rfl) rfl ?_
 refine rn ?_
 refine qn ?_
 refine Wseq ?_
 refine Wseq ?_
 refine Wreg ?_
 refine rs (v := .int .i64 0) (av (v := .int .i64 0) rfl) rfl ?_
 refine rn ?_
 refine qn ?_
 refine Wblk ?_
 refine Wloop [4, 5, 6, 7, 8, 9, 10, 11, 12, 13, 14, 15, 16, 17, 18, 19, 20, 21, 22, 23, 24, 25] [5] (fun m vs w' => ∃ j1 : Int, vs = [.int .i64 j1] ∧ ref16_Link_find.L1 x0 x1 m j1 = some r ∧ Ctx w' (S_ref16_Link.hp b0 x0 :: Fr)) N ?_ ?_
 · exact ⟨0, rfl, hp, hc⟩
 · clear hp hc; intro m vs u w2 hJ
   obtain ⟨j1, rfl, hp, hc⟩ := hJ
   rcases m with _ | m1
   · cases (show none = some r from hp)
   rw [ref16_Link_find.L1] at hp
   refine Wseq ?_
   refine Wseq ?_
   refine Wreg ?_
   refine rs (v := .int .i64 j1) (mv (v := .int .i64 j1) rfl) rfl ?_
   refine rs (v := .pointer (some ⟨b0, 0, none⟩)) (mv (v := .pointer (some ⟨b0, 0, none⟩)) rfl) rfl ?_
   refine rs (v := .pointer (some ⟨b0, 0, none⟩)) (nl rfl) rfl ?_
   refine rs (v := .pointer (some ⟨b0, 9, none⟩)) (fax 9 rfl Try.underlying61 rfl Try.sizeOf59 rfl rfl rfl) rfl ?_
   replace hc := Ctx.exF hc; obtain ⟨v3, hc⟩ := hc
   replace hc := Ctx.exF hc; obtain ⟨v4, hc⟩ := hc
   replace hc := Ctx.sepF hc
   replace hc := Ctx.sepF hc
   obtain ⟨a5, q6, u7⟩ := hc.rd (k := 1) rfl rfl reads_own; subst u7
   obtain ⟨a8, q9, u10⟩ := hc.rd (k := 2) rfl rfl reads_own; subst u10
   refine rs (v := .slice a8 x0.Early.length q9) (ld rfl Try.isAgg59 (Ctx.cell hc (k := 0) rfl rfl rfl)) rfl ?_
   refine rs (v := .int .i64 ((x0.Early.length : Nat) : Int)) (ln rfl Try.underlying59) rfl ?_
   refine rs (v := .bool (decide (j1 < ((x0.Early.length : Nat) : Int)))) (lt' rfl rfl) rfl ?_
   refine rn ?_
   refine qn ?_
   cases hb11 : (decide (j1 < ((x0.Early.length : Nat) : Int)))
   · replace hp := gneg hp (of_decide_eq_false hb11)
     refine Wcf rfl ?_
     refine Wexit ?_
     refine qx ?_
     refine qx ?_
     refine be ?_
     refine qn ?_
     refine Wseq ?_
     refine Wreg ?_
     refine rs (v := .int .i64 (-1)) (av (v := .int .i64 (-1)) rfl) rfl ?_
     refine rn ?_
     refine qn ?_
     refine Wret ?_
     replace hc := hc.pull 2 rfl rfl
     replace hc := hc.pull 2 rfl rfl
     replace hc := hc.pull 2 rfl rfl
     replace hc : Ctx w2 (S_ref16_Link.hp b0 x0 :: Fr) := Ctx.exB _ _ (Ctx.exB _ _ (Ctx.sepB (Ctx.sepB hc)))
     injection hp with hp; subst hp
     refine f1 (v := .int .i64 (-1)) Try.results34 Try.ntmps34 rfl ?_
     exact ⟨_, rfl, k _ hc⟩
   · replace hp := gpos hp (of_decide_eq_true hb11)
     refine Wct rfl ?_
     refine Wskip ?_
     refine qn ?_
     refine Wseq ?_
     refine Wblk ?_
     refine Wseq ?_
     refine Wreg ?_
     refine rs (v := .pointer (some ⟨b0, 0, none⟩)) (mv (v := .pointer (some ⟨b0, 0, none⟩)) rfl) rfl ?_
     refine rs (v := .pointer (some ⟨b0, 0, none⟩)) (nl rfl) rfl ?_
     refine rs (v := .pointer (some ⟨b0, 9, none⟩)) (fax 9 rfl Try.underlying61 rfl Try.sizeOf59 rfl rfl rfl) rfl ?_
     refine rs (v := .slice a8 x0.Early.length q9) (ld rfl Try.isAgg59 (Ctx.cell hc (k := 0) rfl rfl rfl)) rfl ?_
     refine rs (v := .int .i64 j1) (mv (v := .int .i64 j1) rfl) rfl ?_
     replace hp := bind_some hp; obtain ⟨y12, hy12, hp⟩ := hp
     obtain ⟨b15, o16, u17, hi13, hi14⟩ := Ctx.rdAt hc (k := 2) rfl rfl reads_own hy12
     subst u17
     refine rs (v := .pointer (some ⟨b15, o16 + (j1).toNat * 2, none⟩)) (ixx rfl rfl Try.underlying59 Try.sizeOf91 hi13 hi14 rfl) rfl ?_
     refine rs (v := .pointer (some ⟨b15, o16 + (j1).toNat * 2 + 0, none⟩)) (fax 0 rfl Try.underlying91 rfl Try.sizeOf3 rfl rfl rfl) rfl ?_
     replace hc := Ctx.rdCell hc (k := 2) rfl rfl reads_own hy12; obtain ⟨cs18, hc, hcell19⟩ := hc
     replace hc := S_ref16_Early.op hc; obtain ⟨a21, q22, u20, hc⟩ := hc; subst u20
     refine rs (v := .int .i64 y12.Seq) (ld rfl Try.isAgg3 (hcell19 0 _ rfl)) rfl ?_
     refine rs (v := .int .i64 x1) (mv (v := .int .i64 x1) rfl) rfl ?_
     refine rs (v := .bool (decide (y12.Seq = x1))) (eqd rfl rfl) rfl ?_
     refine rn ?_
     refine qn ?_
     cases hb23 : (decide (y12.Seq = x1))
     · replace hp := gneg hp (of_decide_eq_false hb23)
       refine Wcf rfl ?_
       refine Wskip ?_
       refine bn ?_
       refine qn ?_
       refine Wreg ?_
       refine rs (v := .int .i64 j1) (mv (v := .int .i64 j1) rfl) rfl ?_
       refine rs (v := .int .i64 (IntKind.i64.wrap (j1 + 1))) (adw rfl rfl) rfl ?_
       refine rs (v := .int .i64 (IntKind.i64.wrap (j1 + 1))) (av (v := .int .i64 (IntKind.i64.wrap (j1 + 1))) rfl) rfl ?_
       refine rn ?_
       refine qn ?_
       replace hc := hc.pull 3 rfl rfl
       replace hc := hc.pull 3 rfl rfl
       replace hc := hc.pull 3 rfl rfl
       replace hc : Ctx w2 (S_ref16_Link.hp b0 x0 :: Hold (pRo (pInt .u8)) [.slice a21 y12.B.length q22] y12.B :: Fr) := Ctx.exB _ _ (Ctx.exB _ _ (Ctx.sepB (Ctx.sepB hc)))
       replace hc := hc.rem 1 rfl rfl
       exact ⟨m1, Nat.lt_succ_self _, ⟨(IntKind.i64.wrap (j1 + 1)), rfl, hp, hc⟩, (kl rfl k0)⟩
     · replace hp := gpos hp (of_decide_eq_true hb23)
       refine Wct rfl ?_
       refine Wseq ?_
       refine Wreg ?_
       refine rs (v := .int .i64 j1) (mv (v := .int .i64 j1) rfl) rfl ?_
       refine rs (v := .int .i64 j1) (av (v := .int .i64 j1) rfl) rfl ?_
       refine rn ?_
       refine qn ?_
       refine Wret ?_
       refine br ?_
       refine qr ?_
       refine qr ?_
       refine br ?_
       refine qr ?_
       replace hc := hc.pull 3 rfl rfl
       replace hc := hc.pull 3 rfl rfl
       replace hc := hc.pull 3 rfl rfl
       replace hc : Ctx w2 (S_ref16_Link.hp b0 x0 :: Hold (pRo (pInt .u8)) [.slice a21 y12.B.length q22] y12.B :: Fr) := Ctx.exB _ _ (Ctx.exB _ _ (Ctx.sepB (Ctx.sepB hc)))
       replace hc := hc.rem 1 rfl rfl
       injection hp with hp; subst hp
       refine f1 (v := .int .i64 j1) Try.results34 Try.ntmps34 rfl ?_
       exact ⟨_, rfl, k _ hc⟩

-- FN (*peloton/pelotonref16.Link).Tick
def ref16_Link_Tick.J2 (j1 : S_ref16_Link) (j2 : (List S_api_Seg)) (j18 : Bool) : Option ((List S_api_Seg) × S_ref16_Link) :=
  if j18 = true then
    (app j2 ([(⟨j1.Epoch, 0, j1.Got, []⟩ : S_api_Seg)])).bind fun z42 =>
    some (z42, (⟨j1.Window, j1.Span, j1.Room, j1.Epoch, j1.Next, j1.Acked, j1.Sent, j1.Got, j1.Out, j1.Early, false⟩ : S_ref16_Link))
  else
    some (j2, (⟨j1.Window, j1.Span, j1.Room, j1.Epoch, j1.Next, j1.Acked, j1.Sent, j1.Got, j1.Out, j1.Early, false⟩ : S_ref16_Link))

def ref16_Link_Tick.J3 (j6 : Int) (k1 : S_ref16_Link → (List S_api_Seg) → Int → Option ((List S_api_Seg) × S_ref16_Link)) (j49 : S_ref16_Link) (j50 : (List S_api_Seg)) : Option ((List S_api_Seg) × S_ref16_Link) :=
  k1 j49 j50 (IntKind.i64.wrap (j6 + 1))

def ref16_Link_Tick.J6 (j2 : (List S_api_Seg)) (j6 : Int) (k1 : S_ref16_Link → (List S_api_Seg) → Int → Option ((List S_api_Seg) × S_ref16_Link)) (j151 : S_ref16_Link) : Option ((List S_api_Seg) × S_ref16_Link) :=
  (idx j151.Out j6).bind fun y187 =>
  (idx j151.Out j6).bind fun y198 =>
  (app j2 ([(⟨j151.Epoch, y187.Seq, j151.Got, y198.B⟩ : S_api_Seg)])).bind fun z211 =>
  ref16_Link_Tick.J3 j6 k1 j151 z211

def ref16_Link_Tick.J5 (j2 : (List S_api_Seg)) (j6 : Int) (j54 : S_ref16_Link) (k1 : S_ref16_Link → (List S_api_Seg) → Int → Option ((List S_api_Seg) × S_ref16_Link)) (j88 : Bool) : Option ((List S_api_Seg) × S_ref16_Link) :=
  if j88 = true then
    ref16_Link_Tick.J3 j6 k1 j54 j2
  else
    (idx j54.Out j6).bind fun y143 =>
    (idx (j54.Out.set (j6).toNat ({ y143 with Since := 0 })) j6).bind fun y153 =>
    if y153.Seq > j54.Sent then
      (idx (j54.Out.set (j6).toNat ({ y143 with Since := 0 })) j6).bind fun y165 =>
      ref16_Link_Tick.J6 j2 j6 k1 (⟨j54.Window, j54.Span, j54.Room, j54.Epoch, j54.Next, j54.Acked, y165.Seq, j54.Got, (j54.Out.set (j6).toNat ({ y143 with Since := 0 })), j54.Early, j54.Owes⟩ : S_ref16_Link)
    else
      ref16_Link_Tick.J6 j2 j6 k1 (⟨j54.Window, j54.Span, j54.Room, j54.Epoch, j54.Next, j54.Acked, j54.Sent, j54.Got, (j54.Out.set (j6).toNat ({ y143 with Since := 0 })), j54.Early, j54.Owes⟩ : S_ref16_Link)

def ref16_Link_Tick.J4 (j2 : (List S_api_Seg)) (j6 : Int) (k1 : S_ref16_Link → (List S_api_Seg) → Int → Option ((List S_api_Seg) × S_ref16_Link)) (j54 : S_ref16_Link) : Option ((List S_api_Seg) × S_ref16_Link) :=
  (idx j54.Out j6).bind fun y98 =>
  if y98.Seq > (IntKind.i64.wrap (j54.Acked + j54.Window)) then
    ref16_Link_Tick.J5 j2 j6 j54 k1 true
  else
    (idx j54.Out j6).bind fun y110 =>
    if y110.Since ≥ 0 then
      (idx j54.Out j6).bind fun y122 =>
      ref16_Link_Tick.J5 j2 j6 j54 k1 (decide (y122.Since < j54.Span))
    else
      ref16_Link_Tick.J5 j2 j6 j54 k1 false

def ref16_Link_Tick.L1  : Nat → S_ref16_Link → (List S_api_Seg) → Int → Option ((List S_api_Seg) × S_ref16_Link)
  | 0, _, _, _ => none
  | m1 + 1, j1, j2, j6 =>
    if j6 < ((j1.Out.length : Nat) : Int) then
      (idx j1.Out j6).bind fun y55 =>
      if y55.Since ≥ 0 then
        (idx j1.Out j6).bind fun y68 =>
        (idx j1.Out j6).bind fun y79 =>
        ref16_Link_Tick.J4 j2 j6 (ref16_Link_Tick.L1 m1) (⟨j1.Window, j1.Span, j1.Room, j1.Epoch, j1.Next, j1.Acked, j1.Sent, j1.Got, (j1.Out.set (j6).toNat ({ y79 with Since := (IntKind.i64.wrap (y68.Since + 1)) })), j1.Early, j1.Owes⟩ : S_ref16_Link)
      else
        ref16_Link_Tick.J4 j2 j6 (ref16_Link_Tick.L1 m1) j1
    else
      if ((j2.length : Nat) : Int) = 0 then
        ref16_Link_Tick.J2 j1 j2 j1.Owes
      else
        ref16_Link_Tick.J2 j1 j2 false

def ref16_Link_Tick (N : Nat) (x0 : S_ref16_Link) : Option ((List S_api_Seg) × S_ref16_Link) :=
  ref16_Link_Tick.L1 N x0 ([]) 0

set_option maxHeartbeats 8000000 in
theorem ref16_Link_Tick_any {N : Nat} {b0 : Nat} {x0 : S_ref16_Link} {Fr : List HP} {w : World} {r : (List S_api_Seg) × S_ref16_Link} {K : Value → World → Prop}  (hc : Ctx w (S_ref16_Link.hp b0 x0 :: Fr)) (hp : ref16_Link_Tick N x0 = some r)
    (k : ∀ (a219 : Option Addr) (n220 : Nat) (q221 : Nat) w', Ctx w' (Own S_api_Seg.pr 46 (.slice a219 n220 q221) r.1 :: S_ref16_Link.hp b0 r.2 :: Fr) → K (.slice a219 n220 q221) w') : Calls Try.prog 20 #[.pointer (some ⟨b0, 0, none⟩)] w (Ret K) := by
 unfold ref16_Link_Tick at hp
 refine Center (args := [.pointer (some ⟨b0, 0, none⟩)]) (l := [(0, .pointer (some ⟨b0, 0, none⟩))]) Try.func20 Try.ntmps20 rfl rfl rfl ?_
 refine Wseq ?_
 refine Wreg ?_
 refine rs (v := .slice none 0 0) (av (v := .slice none 0 0) rfl) rfl ?_
 refine rn ?_
 refine qn ?_
 refine Wseq ?_
 refine Wreg ?_
 refine rs (v := .slice none 0 0) (av (v := .slice none 0 0) rfl) rfl ?_
 refine rn ?_
 refine qn ?_
 refine Wseq ?_
 refine Wseq ?_
 refine Wreg ?_
 refine rs (v := .int .i64 0) (av (v := .int .i64 0) rfl) rfl ?_
 refine rn ?_
 refine qn ?_
 refine Wblk ?_
 replace hc := hc.nilOwn S_api_Seg.pr 46
 replace hc := hc.pull 1 rfl rfl
 refine Wloop (3 :: 4 :: 5 :: 6 :: 7 :: 8 :: 9 :: 10 :: 11 :: 12 :: 13 :: 14 :: 15 :: 16 :: 17 :: 18 :: 19 :: 20 :: 21 :: 22 :: 23 :: 24 :: 25 :: 26 :: 27 :: 28 :: 29 :: 30 :: 31 :: 32 :: 33 :: 34 :: 35 :: 36 :: 37 :: 38 :: 39 :: 40 :: 41 :: 42 :: 43 :: 44 :: 45 :: 46 :: 47 :: 48 :: 49 :: 50 :: 51 :: 52 :: 53 :: 54 :: 55 :: 56 :: 57 :: 58 :: 59 :: 60 :: 61 :: 62 :: 63 :: 64 :: 65 :: 66 :: 67 :: 68 :: 69 :: 70 :: 71 :: 72 :: 73 :: 74 :: 75 :: 76 :: 77 :: 78 :: 79 :: 80 :: 81 :: 82 :: 83 :: 84 :: 85 :: 86 :: 87 :: 88 :: 89 :: 90 :: 91 :: 92 :: 93 :: 94 :: 95 :: 96 :: 97 :: 98 :: 99 :: 100 :: 101 :: 102 :: 103 :: 104 :: 105 :: 106 :: 107 :: 108 :: 109 :: 110 :: 111 :: 112 :: 113 :: 114 :: 115 :: 116 :: 117 :: 118 :: 119 :: 120 :: 121 :: 122 :: 123 :: 124 :: 125 :: 126 :: 127 :: 128 :: 129 :: 130 :: 131 :: 132 :: 133 :: 134 :: 135 :: 136 :: 137 :: 138 :: 139 :: 140 :: 141 :: []) [3, 4] (fun m vs w' => ∃ j1 : S_ref16_Link, ∃ j2 : (List S_api_Seg), ∃ j6 : Int, ∃ a3 : Option Addr, ∃ n4 : Nat, ∃ q5 : Nat, vs = [.slice a3 n4 q5, .int .i64 j6] ∧ ref16_Link_Tick.L1 m j1 j2 j6 = some r ∧ Ctx w' (S_ref16_Link.hp b0 j1 :: Own S_api_Seg.pr 46 (.slice a3 n4 q5) j2 :: Fr)) N ?_ ?_
 · exact ⟨x0, [], 0, none, 0, 0, rfl, hp, hc⟩
 · clear hp hc; intro m vs u w7 hJ
   obtain ⟨j1, j2, j6, a3, n4, q5, rfl, hp, hc⟩ := hJ
   obtain ⟨u8, _⟩ := Ctx.rdLen hc (k := 1) rfl rfl reads_own; subst u8
   rcases m with _ | m1
   · cases (show none = some r from hp)
   rw [ref16_Link_Tick.L1] at hp
   refine Wseq ?_
   refine Wseq ?_
   refine Wreg ?_
   refine rs (v := .int .i64 j6) (mv (v := .int .i64 j6) rfl) rfl ?_
   refine rs (v := .pointer (some ⟨b0, 0, none⟩)) (mv (v := .pointer (some ⟨b0, 0, none⟩)) rfl) rfl ?_
   refine rs (v := .pointer (some ⟨b0, 0, none⟩)) (nl rfl) rfl ?_
   refine rs (v := .pointer (some ⟨b0, 8, none⟩)) (fax 8 rfl Try.underlying61 rfl Try.sizeOf58 rfl rfl rfl) rfl ?_
   replace hc := Ctx.exF hc; obtain ⟨v9, hc⟩ := hc
   replace hc := Ctx.exF hc; obtain ⟨v10, hc⟩ := hc
   replace hc := Ctx.sepF hc
   replace hc := Ctx.sepF hc
   obtain ⟨a11, q12, u13⟩ := hc.rd (k := 1) rfl rfl reads_own; subst u13
   obtain ⟨a14, q15, u16⟩ := hc.rd (k := 2) rfl rfl reads_own; subst u16
   refine rs (v := .slice a11 j1.Out.length q12) (ld rfl Try.isAgg58 (Ctx.cell hc (k := 0) rfl rfl rfl)) rfl ?_
   refine rs (v := .int .i64 ((j1.Out.length : Nat) : Int)) (ln rfl Try.underlying58) rfl ?_
   refine rs (v := .bool (decide (j6 < ((j1.Out.length : Nat) : Int)))) (lt' rfl rfl) rfl ?_
   refine rn ?_
   refine qn ?_
   cases hb17 : (decide (j6 < ((j1.Out.length : Nat) : Int)))
   · replace hp := gneg hp (of_decide_eq_false hb17)
     refine Wcf rfl ?_
     refine Wexit ?_
     refine qx ?_
     refine qx ?_
     refine be ?_
     refine qn ?_
     refine Wseq ?_
     refine Wseqm [142, 143, 144, 145, 146, 147, 148, 149, 150] [150] (fun vs w' => ∃ j18 : Bool, vs = [.bool j18] ∧ ref16_Link_Tick.J2 j1 j2 j18 = some r ∧ Ctx w' (S_ref16_Link.hp b0 j1 :: Own S_api_Seg.pr 46 (.slice a3 j2.length q5) j2 :: Fr)) ?_ ?_
     · refine Wreg ?_
       refine rs (v := .slice a3 j2.length q5) (mv (v := .slice a3 j2.length q5) rfl) rfl ?_
       refine rs (v := .int .i64 ((j2.length : Nat) : Int)) (ln rfl Try.underlying29) rfl ?_
       refine rs (v := .bool (decide (((j2.length : Nat) : Int) = 0))) (eqd rfl rfl) rfl ?_
       refine rs (v := .bool (decide (((j2.length : Nat) : Int) = 0))) (mv (v := .bool (decide (((j2.length : Nat) : Int) = 0))) rfl) rfl ?_
       cases hb19 : (decide (((j2.length : Nat) : Int) = 0))
       · replace hp := gneg hp (of_decide_eq_false hb19)
         refine r0 rfl ?_
         refine r0 rfl ?_
         refine r0 rfl ?_
         refine r0 rfl ?_
         refine rs (v := .bool false) (pkf (v := .bool false) rfl rfl) rfl ?_
         refine rn ?_
         refine qn ?_
         replace hc := hc.pull 2 rfl rfl
         replace hc := hc.pull 2 rfl rfl
         replace hc := hc.pull 2 rfl rfl
         replace hc : Ctx w7 (S_ref16_Link.hp b0 j1 :: Own S_api_Seg.pr 46 (.slice a3 j2.length q5) j2 :: Fr) := Ctx.exB _ _ (Ctx.exB _ _ (Ctx.sepB (Ctx.sepB hc)))
         exact ⟨⟨false, rfl, hp, hc⟩, (kl rfl kb)⟩
       · replace hp := gpos hp (of_decide_eq_true hb19)
         refine rs (v := .pointer (some ⟨b0, 0, none⟩)) (mv (v := .pointer (some ⟨b0, 0, none⟩)) rfl) rfl ?_
         refine rs (v := .pointer (some ⟨b0, 0, none⟩)) (nl rfl) rfl ?_
         refine rs (v := .pointer (some ⟨b0, 10, none⟩)) (fax 10 rfl Try.underlying61 rfl Try.sizeOf4 rfl rfl rfl) rfl ?_
         refine rs (v := .bool j1.Owes) (ld rfl Try.isAgg4 (Ctx.cell hc (k := 0) rfl rfl rfl)) rfl ?_
         refine rs (v := .bool j1.Owes) (pkt (v := .bool j1.Owes) rfl rfl) rfl ?_
         refine rn ?_
         refine qn ?_
         replace hc := hc.pull 2 rfl rfl
         replace hc := hc.pull 2 rfl rfl
         replace hc := hc.pull 2 rfl rfl
         replace hc : Ctx w7 (S_ref16_Link.hp b0 j1 :: Own S_api_Seg.pr 46 (.slice a3 j2.length q5) j2 :: Fr) := Ctx.exB _ _ (Ctx.exB _ _ (Ctx.sepB (Ctx.sepB hc)))
         exact ⟨⟨j1.Owes, rfl, hp, hc⟩, (kl rfl kb)⟩
     · clear hp hc; intro vs u w20 hJ
       obtain ⟨j18, rfl, hp, hc⟩ := hJ
       unfold ref16_Link_Tick.J2 at hp
       cases hb21 : j18
       · replace hp := gneg hp (by rw [hb21]; exact Bool.false_ne_true)
         subst hb21
         refine Wcf rfl ?_
         refine Wskip ?_
         refine qn ?_
         refine Wseq ?_
         refine Wreg ?_
         refine rs (v := .pointer (some ⟨b0, 0, none⟩)) (mv (v := .pointer (some ⟨b0, 0, none⟩)) rfl) rfl ?_
         refine rs (v := .pointer (some ⟨b0, 0, none⟩)) (nl rfl) rfl ?_
         refine rs (v := .pointer (some ⟨b0, 10, none⟩)) (fax 10 rfl Try.underlying61 rfl Try.sizeOf4 rfl rfl rfl) rfl ?_
         replace hc := Ctx.exF hc; obtain ⟨v22, hc⟩ := hc
         replace hc := Ctx.exF hc; obtain ⟨v23, hc⟩ := hc
         replace hc := Ctx.sepF hc
         replace hc := Ctx.sepF hc
         obtain ⟨a24, q25, u26⟩ := hc.rd (k := 1) rfl rfl reads_own; subst u26
         obtain ⟨a27, q28, u29⟩ := hc.rd (k := 2) rfl rfl reads_own; subst u29
         refine ruE (A := fun w' => Ctx w' (B b0 [.int .i64 j1.Window, .int .i64 j1.Span, .int .i64 j1.Room, .int .i64 j1.Epoch, .int .i64 j1.Next, .int .i64 j1.Acked, .int .i64 j1.Sent, .int .i64 j1.Got, .slice a24 j1.Out.length q25, .slice a27 j1.Early.length q28, .bool false] 61 :: Own S_ref16_Body.pr 88 (.slice a24 j1.Out.length q25) j1.Out :: Own S_ref16_Early.pr 91 (.slice a27 j1.Early.length q28) j1.Early :: Own S_api_Seg.pr 46 (.slice a3 j2.length q5) j2 :: Fr)) (Ctx.putOp hc (k := 0) rfl rfl (v := .bool false) rfl rfl rfl Try.sizeOf4 rfl rfl rfl) rfl ?_
         clear hc; rintro w30 hc
         refine rn ?_
         refine qn ?_
         refine Wseq ?_
         refine Wreg ?_
         refine rs (v := .slice a3 j2.length q5) (mv (v := .slice a3 j2.length q5) rfl) rfl ?_
         refine rs (v := .slice a3 j2.length q5) (av (v := .slice a3 j2.length q5) rfl) rfl ?_
         refine rn ?_
         refine qn ?_
         refine Wret ?_
         replace hc := hc.pull 2 rfl rfl
         replace hc := hc.pull 2 rfl rfl
         replace hc := hc.pull 2 rfl rfl
         replace hc : Ctx w30 (S_ref16_Link.hp b0 (⟨j1.Window, j1.Span, j1.Room, j1.Epoch, j1.Next, j1.Acked, j1.Sent, j1.Got, j1.Out, j1.Early, false⟩ : S_ref16_Link) :: Own S_api_Seg.pr 46 (.slice a3 j2.length q5) j2 :: Fr) := Ctx.exB _ _ (Ctx.exB _ _ (Ctx.sepB (Ctx.sepB hc)))
         replace hc := hc.pull 1 rfl rfl
         injection hp with hp; subst hp
         refine f1 (v := .slice a3 j2.length q5) Try.results20 Try.ntmps20 rfl ?_
         exact ⟨_, rfl, k _ _ _ _ hc⟩
       · replace hp := gpos hp hb21
         subst hb21
         refine Wct rfl ?_
         replace hc := Ctx.exF hc; obtain ⟨v31, hc⟩ := hc
         replace hc := Ctx.exF hc; obtain ⟨v32, hc⟩ := hc
         replace hc := Ctx.sepF hc
         replace hc := Ctx.sepF hc
         obtain ⟨a33, q34, u35⟩ := hc.rd (k := 1) rfl rfl reads_own; subst u35
         obtain ⟨a36, q37, u38⟩ := hc.rd (k := 2) rfl rfl reads_own; subst u38
         replace hc := hc.drew
         refine Wdrw (fun j w' => True) [0, 0, 2, 6, 14, 0, 32, 96, 224, 510, 1022, 2047, 4095] 0 272 rfl (by kernel_rfl) (fun _ _ => trivial) ?_
         generalize hw : World.drew w20 = w39 at *
         clear hw
         refine ds (v := .slice a3 j2.length q5) rfl (fun w' hF => mv (v := .slice a3 j2.length q5) rfl) rfl ?_
         refine ds (v := .pointer (some ⟨b0, 0, none⟩)) rfl (fun w' hF => mv (v := .pointer (some ⟨b0, 0, none⟩)) rfl) rfl ?_
         refine ds (v := .pointer (some ⟨b0, 0, none⟩)) rfl (fun w' hF => nl rfl) rfl ?_
         refine ds (v := .pointer (some ⟨b0, 3, none⟩)) rfl (fun w' hF => fax 3 rfl Try.underlying61 rfl Try.sizeOf3 rfl rfl rfl) rfl ?_
         refine dx (v := .int .i64 j1.Epoch) rfl (ld rfl Try.isAgg3 (Ctx.cell hc (k := 0) rfl rfl rfl)) rfl rfl ?_
         refine ds (v := .pointer (some ⟨b0, 0, none⟩)) rfl (fun w' hF => mv (v := .pointer (some ⟨b0, 0, none⟩)) rfl) rfl ?_
         refine ds (v := .pointer (some ⟨b0, 0, none⟩)) rfl (fun w' hF => nl rfl) rfl ?_
         refine ds (v := .pointer (some ⟨b0, 7, none⟩)) rfl (fun w' hF => fax 7 rfl Try.underlying61 rfl Try.sizeOf3 rfl rfl rfl) rfl ?_
         refine dx (v := .int .i64 j1.Got) rfl (ld rfl Try.isAgg3 (Ctx.cell hc (k := 0) rfl rfl rfl)) rfl rfl ?_
         refine ds (v := .agg #[.int .i64 j1.Epoch, .int .i64 0, .int .i64 j1.Got, .slice none 0 0]) rfl (fun w' hF => bd_46_0_2 rfl rfl) rfl ?_
         replace hc := hc.nilRo (pInt .u8)
         replace hc := hc.dup (k := 0) rfl rfl
         replace hc : Ctx w39 (Hold S_api_Seg.pr [.int .i64 j1.Epoch, .int .i64 0, .int .i64 j1.Got, .slice none 0 0] (⟨j1.Epoch, 0, j1.Got, []⟩ : S_api_Seg) :: Hold (pRo (pInt .u8)) [.slice none 0 0] ([]) :: B b0 [.int .i64 j1.Window, .int .i64 j1.Span, .int .i64 j1.Room, .int .i64 j1.Epoch, .int .i64 j1.Next, .int .i64 j1.Acked, .int .i64 j1.Sent, .int .i64 j1.Got, .slice a33 j1.Out.length q34, .slice a36 j1.Early.length q37, .bool j1.Owes] 61 :: Own S_ref16_Body.pr 88 (.slice a33 j1.Out.length q34) j1.Out :: Own S_ref16_Early.pr 91 (.slice a36 j1.Early.length q37) j1.Early :: Own S_api_Seg.pr 46 (.slice a3 j2.length q5) j2 :: Fr) := S_api_Seg.cl hc
         refine deE (Ctx.builtOp (css := [[.int .i64 j1.Epoch, .int .i64 0, .int .i64 j1.Got, .slice none 0 0]]) (xs := ([(⟨j1.Epoch, 0, j1.Got, []⟩ : S_api_Seg)] : List S_api_Seg)) (E := S_api_Seg.pr) hc Try.underlying29 Try.sizeOf46 Try.zeroValue46 rfl rfl rfl rfl rfl rfl rfl rfl) rfl rfl ?_
         clear hc; rintro _ w41 ⟨a40, rfl, hc⟩
         refine ⟨fun j hj hb => trivial, ?_⟩
         replace hp := bind_some hp; obtain ⟨z42, hz42, hp⟩ := hp
         obtain ⟨hg43, e44⟩ := app_some hz42
         refine deE (Ctx.append hc (k := 5) rfl rfl (k2 := 0) rfl rfl reads_own Try.underlying29 (i := Try.t46) rfl rfl rfl rfl rfl rfl rfl rfl hg43) rfl rfl ?_
         clear hc; rintro _ w47 ⟨a45, q46, rfl, hc⟩
         rw [← e44] at hc ⊢
         refine ⟨fun j hj hb => trivial, ?_⟩
         refine ds (v := .slice a45 z42.length q46) rfl (fun w' hF => av (v := .slice a45 z42.length q46) rfl) rfl ?_
         refine dn ?_
         refine qn ?_
         refine Wseq ?_
         refine Wreg ?_
         refine rs (v := .pointer (some ⟨b0, 0, none⟩)) (mv (v := .pointer (some ⟨b0, 0, none⟩)) rfl) rfl ?_
         refine rs (v := .pointer (some ⟨b0, 0, none⟩)) (nl rfl) rfl ?_
         refine rs (v := .pointer (some ⟨b0, 10, none⟩)) (fax 10 rfl Try.underlying61 rfl Try.sizeOf4 rfl rfl rfl) rfl ?_
         refine ruE (A := fun w' => Ctx w' (Own S_api_Seg.pr 46 (.slice a40 1 1) ([(⟨j1.Epoch, 0, j1.Got, []⟩ : S_api_Seg)]) :: Hold (pRo (pInt .u8)) [.slice none 0 0] ([]) :: B b0 [.int .i64 j1.Window, .int .i64 j1.Span, .int .i64 j1.Room, .int .i64 j1.Epoch, .int .i64 j1.Next, .int .i64 j1.Acked, .int .i64 j1.Sent, .int .i64 j1.Got, .slice a33 j1.Out.length q34, .slice a36 j1.Early.length q37, .bool false] 61 :: Own S_ref16_Body.pr 88 (.slice a33 j1.Out.length q34) j1.Out :: Own S_ref16_Early.pr 91 (.slice a36 j1.Early.length q37) j1.Early :: Own S_api_Seg.pr 46 (.slice a45 z42.length q46) z42 :: Fr)) (Ctx.putOp hc (k := 2) rfl rfl (v := .bool false) rfl rfl rfl Try.sizeOf4 rfl rfl rfl) rfl ?_
         clear hc; rintro w48 hc
         refine rn ?_
         refine qn ?_
         refine Wseq ?_
         refine Wreg ?_
         refine rs (v := .slice a45 z42.length q46) (mv (v := .slice a45 z42.length q46) rfl) rfl ?_
         refine rs (v := .slice a45 z42.length q46) (av (v := .slice a45 z42.length q46) rfl) rfl ?_
         refine rn ?_
         refine qn ?_
         refine Wret ?_
         replace hc := hc.pull 4 rfl rfl
         replace hc := hc.pull 4 rfl rfl
         replace hc := hc.pull 4 rfl rfl
         replace hc : Ctx w48 (S_ref16_Link.hp b0 (⟨j1.Window, j1.Span, j1.Room, j1.Epoch, j1.Next, j1.Acked, j1.Sent, j1.Got, j1.Out, j1.Early, false⟩ : S_ref16_Link) :: Own S_api_Seg.pr 46 (.slice a40 1 1) ([(⟨j1.Epoch, 0, j1.Got, []⟩ : S_api_Seg)]) :: Hold (pRo (pInt .u8)) [.slice none 0 0] ([]) :: Own S_api_Seg.pr 46 (.slice a45 z42.length q46) z42 :: Fr) := Ctx.exB _ _ (Ctx.exB _ _ (Ctx.sepB (Ctx.sepB hc)))
         replace hc := hc.rem 2 rfl rfl
         replace hc := hc.rem 1 rfl rfl
         replace hc := hc.pull 1 rfl rfl
         injection hp with hp; subst hp
         refine f1 (v := .slice a45 z42.length q46) Try.results20 Try.ntmps20 rfl ?_
         exact ⟨_, rfl, k _ _ _ _ hc⟩
   · replace hp := gpos hp (of_decide_eq_true hb17)
     refine Wct rfl ?_
     refine Wskip ?_
     refine qn ?_
     refine Wseqm (3 :: 14 :: 15 :: 16 :: 17 :: 18 :: 19 :: 20 :: 21 :: 22 :: 23 :: 24 :: 25 :: 26 :: 27 :: 28 :: 29 :: 30 :: 31 :: 32 :: 33 :: 34 :: 35 :: 36 :: 37 :: 38 :: 39 :: 40 :: 41 :: 42 :: 43 :: 44 :: 45 :: 46 :: 47 :: 48 :: 49 :: 50 :: 51 :: 52 :: 53 :: 54 :: 55 :: 56 :: 57 :: 58 :: 59 :: 60 :: 61 :: 62 :: 63 :: 64 :: 65 :: 66 :: 67 :: 68 :: 69 :: 70 :: 71 :: 72 :: 73 :: 74 :: 75 :: 76 :: 77 :: 78 :: 79 :: 80 :: 81 :: 82 :: 83 :: 84 :: 85 :: 86 :: 87 :: 88 :: 89 :: 90 :: 91 :: 92 :: 93 :: 94 :: 95 :: 96 :: 97 :: 98 :: 99 :: 100 :: 101 :: 102 :: 103 :: 104 :: 105 :: 106 :: 107 :: 108 :: 109 :: 110 :: 111 :: 112 :: 113 :: 114 :: 115 :: 116 :: 117 :: 118 :: 119 :: 120 :: 121 :: 122 :: 123 :: 124 :: 125 :: 126 :: 127 :: 128 :: 129 :: 130 :: 131 :: 132 :: 133 :: 134 :: 135 :: 136 :: 137 :: 138 :: 139 :: 140 :: 141 :: []) [3] (fun vs w' => ∃ j49 : S_ref16_Link, ∃ j50 : (List S_api_Seg), ∃ a51 : Option Addr, ∃ n52 : Nat, ∃ q53 : Nat, vs = [.slice a51 n52 q53] ∧ ref16_Link_Tick.J3 j6 (ref16_Link_Tick.L1 m1) j49 j50 = some r ∧ Ctx w' (S_ref16_Link.hp b0 j49 :: Own S_api_Seg.pr 46 (.slice a51 n52 q53) j50 :: Fr)) ?_ ?_
     · refine Wblk ?_
       refine Wseqm [14, 15, 16, 17, 18, 19, 20, 21, 22, 23, 24, 25, 26, 27, 28, 29, 30, 31, 32, 33, 34, 35, 36, 37, 38] [] (fun vs w' => ∃ j54 : S_ref16_Link, vs = [] ∧ ref16_Link_Tick.J4 j2 j6 (ref16_Link_Tick.L1 m1) j54 = some r ∧ Ctx w' (S_ref16_Link.hp b0 j54 :: Own S_api_Seg.pr 46 (.slice a3 j2.length q5) j2 :: Fr)) ?_ ?_
       · refine Wseq ?_
         refine Wreg ?_
         refine rs (v := .pointer (some ⟨b0, 0, none⟩)) (mv (v := .pointer (some ⟨b0, 0, none⟩)) rfl) rfl ?_
         refine rs (v := .pointer (some ⟨b0, 0, none⟩)) (nl rfl) rfl ?_
         refine rs (v := .pointer (some ⟨b0, 8, none⟩)) (fax 8 rfl Try.underlying61 rfl Try.sizeOf58 rfl rfl rfl) rfl ?_
         refine rs (v := .slice a11 j1.Out.length q12) (ld rfl Try.isAgg58 (Ctx.cell hc (k := 0) rfl rfl rfl)) rfl ?_
         refine rs (v := .int .i64 j6) (mv (v := .int .i64 j6) rfl) rfl ?_
         replace hp := bind_some hp; obtain ⟨y55, hy55, hp⟩ := hp
         obtain ⟨b58, o59, u60, hi56, hi57⟩ := Ctx.rdAt hc (k := 1) rfl rfl reads_own hy55
         subst u60
         refine rs (v := .pointer (some ⟨b58, o59 + (j6).toNat * 3, none⟩)) (ixx rfl rfl Try.underlying58 Try.sizeOf88 hi56 hi57 rfl) rfl ?_
         refine rs (v := .pointer (some ⟨b58, o59 + (j6).toNat * 3 + 1, none⟩)) (fax 1 rfl Try.underlying88 rfl Try.sizeOf3 rfl rfl rfl) rfl ?_
         replace hc := Ctx.rdCell hc (k := 1) rfl rfl reads_own hy55; obtain ⟨cs61, hc, hcell62⟩ := hc
         replace hc := S_ref16_Body.op hc; obtain ⟨a64, q65, u63, hc⟩ := hc; subst u63
         refine rs (v := .int .i64 y55.Since) (ld rfl Try.isAgg3 (hcell62 1 _ rfl)) rfl ?_
         refine rs (v := .bool (decide (y55.Since ≥ 0))) (ge' rfl rfl) rfl ?_
         refine rn ?_
         refine qn ?_
         cases hb66 : (decide (y55.Since ≥ 0))
         · replace hp := gneg hp (of_decide_eq_false hb66)
           refine Wcf rfl ?_
           refine Wskip ?_
           refine qn ?_
           replace hc := hc.pull 3 rfl rfl
           replace hc := hc.pull 3 rfl rfl
           replace hc := hc.pull 3 rfl rfl
           replace hc : Ctx w7 (S_ref16_Link.hp b0 j1 :: Hold (pRo (pInt .u8)) [.slice a64 y55.B.length q65] y55.B :: Own S_api_Seg.pr 46 (.slice a3 j2.length q5) j2 :: Fr) := Ctx.exB _ _ (Ctx.exB _ _ (Ctx.sepB (Ctx.sepB hc)))
           replace hc := hc.rem 1 rfl rfl
           exact ⟨⟨j1, rfl, hp, hc⟩, (kl rfl kb)⟩
         · replace hp := gpos hp (of_decide_eq_true hb66)
           refine Wct rfl ?_
           replace hc := hc.drew
           refine Wdrw (fun j w' => True) [0, 1, 3, 7, 0, 0, 32, 96, 224, 0, 992, 2016, 4064, 8160, 16383, 32767, 65535] 0 4360 rfl (by kernel_rfl) (fun _ _ => trivial) ?_
           generalize hw : World.drew w7 = w67 at *
           clear hw
           refine ds (v := .pointer (some ⟨b0, 0, none⟩)) rfl (fun w' hF => mv (v := .pointer (some ⟨b0, 0, none⟩)) rfl) rfl ?_
           refine ds (v := .pointer (some ⟨b0, 0, none⟩)) rfl (fun w' hF => nl rfl) rfl ?_
           refine ds (v := .pointer (some ⟨b0, 8, none⟩)) rfl (fun w' hF => fax 8 rfl Try.underlying61 rfl Try.sizeOf58 rfl rfl rfl) rfl ?_
           refine dx (v := .slice (some ⟨b58, o59, none⟩) j1.Out.length q12) rfl (ld rfl Try.isAgg58 (Ctx.cell hc (k := 1) rfl rfl rfl)) rfl rfl ?_
           refine ds (v := .int .i64 j6) rfl (fun w' hF => mv (v := .int .i64 j6) rfl) rfl ?_
           refine ds (v := .pointer (some ⟨b0, 0, none⟩)) rfl (fun w' hF => mv (v := .pointer (some ⟨b0, 0, none⟩)) rfl) rfl ?_
           refine ds (v := .pointer (some ⟨b0, 0, none⟩)) rfl (fun w' hF => nl rfl) rfl ?_
           refine ds (v := .pointer (some ⟨b0, 8, none⟩)) rfl (fun w' hF => fax 8 rfl Try.underlying61 rfl Try.sizeOf58 rfl rfl rfl) rfl ?_
           refine dx (v := .slice (some ⟨b58, o59, none⟩) j1.Out.length q12) rfl (ld rfl Try.isAgg58 (Ctx.cell hc (k := 1) rfl rfl rfl)) rfl rfl ?_
           refine ds (v := .int .i64 j6) rfl (fun w' hF => mv (v := .int .i64 j6) rfl) rfl ?_
           replace hp := bind_some hp; obtain ⟨y68, hy68, hp⟩ := hp
           obtain ⟨b71, o72, u73, hi69, hi70⟩ := Ctx.rdAt hc (k := 2) rfl rfl reads_own hy68
           clear u73
           refine ds (v := .pointer (some ⟨b58, o59 + (j6).toNat * 3, none⟩)) rfl (fun w' hF => ixx rfl rfl Try.underlying58 Try.sizeOf88 hi69 hi70 rfl) rfl ?_
           refine ds (v := .pointer (some ⟨b58, o59 + (j6).toNat * 3 + 1, none⟩)) rfl (fun w' hF => fax 1 rfl Try.underlying88 rfl Try.sizeOf3 rfl rfl rfl) rfl ?_
           replace hc := Ctx.rdCell hc (k := 2) rfl rfl reads_own hy68; obtain ⟨cs74, hc, hcell75⟩ := hc
           replace hc := S_ref16_Body.op hc; obtain ⟨a77, q78, u76, hc⟩ := hc; subst u76
           refine dx (v := .int .i64 y68.Since) rfl (ld rfl Try.isAgg3 (hcell75 1 _ rfl)) rfl rfl ?_
           refine ds (v := .int .i64 (IntKind.i64.wrap (y68.Since + 1))) rfl (fun w' hF => adw rfl rfl) rfl ?_
           replace hp := bind_some hp; obtain ⟨y79, hy79, hp⟩ := hp
           obtain ⟨b82, o83, u84, hi80, hi81⟩ := Ctx.rdAt hc (k := 3) rfl rfl reads_own hy79
           clear u84
           refine ds (v := .pointer (some ⟨b58, o59 + (j6).toNat * 3, none⟩)) rfl (fun w' hF => ixx rfl rfl Try.underlying58 Try.sizeOf88 hi80 hi81 rfl) rfl ?_
           refine ds (v := .pointer (some ⟨b58, o59 + (j6).toNat * 3 + 1, none⟩)) rfl (fun w' hF => fax 1 rfl Try.underlying88 rfl Try.sizeOf3 rfl rfl rfl) rfl ?_
           refine duE (A := fun w' => Ctx w' (Hold (pRo (pInt .u8)) [.slice a77 y68.B.length q78] y68.B :: Hold (pRo (pInt .u8)) [.slice a64 y55.B.length q65] y55.B :: B b0 [.int .i64 j1.Window, .int .i64 j1.Span, .int .i64 j1.Room, .int .i64 j1.Epoch, .int .i64 j1.Next, .int .i64 j1.Acked, .int .i64 j1.Sent, .int .i64 j1.Got, .slice (some ⟨b58, o59, none⟩) j1.Out.length q12, .slice a14 j1.Early.length q15, .bool j1.Owes] 61 :: Own S_ref16_Body.pr 88 (.slice (some ⟨b58, o59, none⟩) j1.Out.length q12) (j1.Out.set (j6).toNat ({ y79 with Since := (IntKind.i64.wrap (y68.Since + 1)) })) :: Own S_ref16_Early.pr 91 (.slice a14 j1.Early.length q15) j1.Early :: Own S_api_Seg.pr 46 (.slice a3 j2.length q5) j2 :: Fr)) (Ctx.ownPutOp hc (k := 3) rfl rfl (z := y79) (z' := { y79 with Since := (IntKind.i64.wrap (y68.Since + 1)) }) hy79 1 rfl (u := .int .i64 (IntKind.i64.wrap (y68.Since + 1))) rfl rfl rfl Try.sizeOf3 (fun _ _ _ h => by obtain ⟨_, _, rfl, rfl, ⟨_, _, rfl, rfl, ⟨_, rfl, hs85⟩⟩⟩ := h; exact ⟨_, _, rfl, rfl, ⟨_, _, rfl, rfl, ⟨_, rfl, hs85⟩⟩⟩) rfl) rfl rfl ?_
           clear hc; rintro w86 hc
           refine ⟨fun j hj hb => trivial, ?_⟩
           refine dn ?_
           refine qn ?_
           replace hc := hc.pull 4 rfl rfl
           replace hc := hc.pull 4 rfl rfl
           replace hc := hc.pull 4 rfl rfl
           replace hc : Ctx w86 (S_ref16_Link.hp b0 (⟨j1.Window, j1.Span, j1.Room, j1.Epoch, j1.Next, j1.Acked, j1.Sent, j1.Got, (j1.Out.set (j6).toNat ({ y79 with Since := (IntKind.i64.wrap (y68.Since + 1)) })), j1.Early, j1.Owes⟩ : S_ref16_Link) :: Hold (pRo (pInt .u8)) [.slice a77 y68.B.length q78] y68.B :: Hold (pRo (pInt .u8)) [.slice a64 y55.B.length q65] y55.B :: Own S_api_Seg.pr 46 (.slice a3 j2.length q5) j2 :: Fr) := Ctx.exB _ _ (Ctx.exB _ _ (Ctx.sepB (Ctx.sepB hc)))
           replace hc := hc.rem 2 rfl rfl
           replace hc := hc.rem 1 rfl rfl
           exact ⟨⟨(⟨j1.Window, j1.Span, j1.Room, j1.Epoch, j1.Next, j1.Acked, j1.Sent, j1.Got, (j1.Out.set (j6).toNat ({ y79 with Since := (IntKind.i64.wrap (y68.Since + 1)) })), j1.Early, j1.Owes⟩ : S_ref16_Link), rfl, hp, hc⟩, (kl rfl kb)⟩
       · clear hp hc; intro vs u w87 hJ
         obtain ⟨j54, rfl, hp, hc⟩ := hJ
         unfold ref16_Link_Tick.J4 at hp
         refine Wseq ?_
         refine Wseqm [39, 40, 41, 42, 43, 44, 45, 46, 47, 48, 49, 50, 51, 52, 53, 54, 55, 56, 57, 58, 59, 60, 61, 62, 63, 64, 65, 66, 67, 68, 69, 70, 71, 72, 73, 74, 75, 76, 77, 78, 79, 80, 81, 82] [82] (fun vs w' => ∃ j88 : Bool, vs = [.bool j88] ∧ ref16_Link_Tick.J5 j2 j6 j54 (ref16_Link_Tick.L1 m1) j88 = some r ∧ Ctx w' (S_ref16_Link.hp b0 j54 :: Own S_api_Seg.pr 46 (.slice a3 j2.length q5) j2 :: Fr)) ?_ ?_
         · replace hc := Ctx.exF hc; obtain ⟨v89, hc⟩ := hc
           replace hc := Ctx.exF hc; obtain ⟨v90, hc⟩ := hc
           replace hc := Ctx.sepF hc
           replace hc := Ctx.sepF hc
           obtain ⟨a91, q92, u93⟩ := hc.rd (k := 1) rfl rfl reads_own; subst u93
           obtain ⟨a94, q95, u96⟩ := hc.rd (k := 2) rfl rfl reads_own; subst u96
           replace hc := hc.drew
           refine Wdrw (fun _ w' => w' = World.drew w87) [0, 1, 3, 7, 0, 31, 63, 127, 0, 256, 768, 1792, 0, 4096, 12288, 28672, 65280, 131071, 262143, 524287, 1048575, 2097151, 4194303, 524287, 16777215, 33554431, 67108863, 134217727, 268435455, 536870911, 1073741823, 2147483647, 4294967295, 536870911, 17179869183, 34359738367, 68719476735, 536870911, 137975824383, 412853731327, 962609545215, 2199023255551, 4398046511103, 8796093022207] 0 0 rfl (by kernel_rfl) (fun _ _ => rfl) ?_
           generalize hw : World.drew w87 = w97 at *
           clear hw
           refine ds (v := .pointer (some ⟨b0, 0, none⟩)) rfl (fun w' hF => by subst hF; exact mv (v := .pointer (some ⟨b0, 0, none⟩)) rfl) rfl ?_
           refine ds (v := .pointer (some ⟨b0, 0, none⟩)) rfl (fun w' hF => by subst hF; exact nl rfl) rfl ?_
           refine ds (v := .pointer (some ⟨b0, 8, none⟩)) rfl (fun w' hF => by subst hF; exact fax 8 rfl Try.underlying61 rfl Try.sizeOf58 rfl rfl rfl) rfl ?_
           refine ds (v := .slice a91 j54.Out.length q92) rfl (fun w' hF => by subst hF; exact ld rfl Try.isAgg58 (Ctx.cell hc (k := 0) rfl rfl rfl)) rfl ?_
           refine ds (v := .int .i64 j6) rfl (fun w' hF => by subst hF; exact mv (v := .int .i64 j6) rfl) rfl ?_
           replace hp := bind_some hp; obtain ⟨y98, hy98, hp⟩ := hp
           obtain ⟨b101, o102, u103, hi99, hi100⟩ := Ctx.rdAt hc (k := 1) rfl rfl reads_own hy98
           subst u103
           refine ds (v := .pointer (some ⟨b101, o102 + (j6).toNat * 3, none⟩)) rfl (fun w' hF => by subst hF; exact ixx rfl rfl Try.underlying58 Try.sizeOf88 hi99 hi100 rfl) rfl ?_
           refine ds (v := .pointer (some ⟨b101, o102 + (j6).toNat * 3 + 0, none⟩)) rfl (fun w' hF => by subst hF; exact fax 0 rfl Try.underlying88 rfl Try.sizeOf3 rfl rfl rfl) rfl ?_
           replace hc := Ctx.rdCell hc (k := 1) rfl rfl reads_own hy98; obtain ⟨cs104, hc, hcell105⟩ := hc
           replace hc := S_ref16_Body.op hc; obtain ⟨a107, q108, u106, hc⟩ := hc; subst u106
           refine ds (v := .int .i64 y98.Seq) rfl (fun w' hF => by subst hF; exact ld rfl Try.isAgg3 (hcell105 0 _ rfl)) rfl ?_
           refine ds (v := .pointer (some ⟨b0, 0, none⟩)) rfl (fun w' hF => by subst hF; exact mv (v := .pointer (some ⟨b0, 0, none⟩)) rfl) rfl ?_
           refine ds (v := .pointer (some ⟨b0, 0, none⟩)) rfl (fun w' hF => by subst hF; exact nl rfl) rfl ?_
           refine ds (v := .pointer (some ⟨b0, 5, none⟩)) rfl (fun w' hF => by subst hF; exact fax 5 rfl Try.underlying61 rfl Try.sizeOf3 rfl rfl rfl) rfl ?_
           refine ds (v := .int .i64 j54.Acked) rfl (fun w' hF => by subst hF; exact ld rfl Try.isAgg3 (Ctx.cell hc (k := 1) rfl rfl rfl)) rfl ?_
           refine ds (v := .pointer (some ⟨b0, 0, none⟩)) rfl (fun w' hF => by subst hF; exact mv (v := .pointer (some ⟨b0, 0, none⟩)) rfl) rfl ?_
           refine ds (v := .pointer (some ⟨b0, 0, none⟩)) rfl (fun w' hF => by subst hF; exact nl rfl) rfl ?_
           refine ds (v := .pointer (some ⟨b0, 0, none⟩)) rfl (fun w' hF => by subst hF; exact fax 0 rfl Try.underlying61 rfl Try.sizeOf3 rfl rfl rfl) rfl ?_
           refine ds (v := .int .i64 j54.Window) rfl (fun w' hF => by subst hF; exact ld rfl Try.isAgg3 (Ctx.cell hc (k := 1) rfl rfl rfl)) rfl ?_
           refine ds (v := .int .i64 (IntKind.i64.wrap (j54.Acked + j54.Window))) rfl (fun w' hF => by subst hF; exact adw rfl rfl) rfl ?_
           refine ds (v := .bool (decide (y98.Seq > (IntKind.i64.wrap (j54.Acked + j54.Window))))) rfl (fun w' hF => by subst hF; exact gt' rfl rfl) rfl ?_
           refine ds (v := .bool (decide (y98.Seq > (IntKind.i64.wrap (j54.Acked + j54.Window))))) rfl (fun w' hF => by subst hF; exact mv (v := .bool (decide (y98.Seq > (IntKind.i64.wrap (j54.Acked + j54.Window))))) rfl) rfl ?_
           cases hb109 : (decide (y98.Seq > (IntKind.i64.wrap (j54.Acked + j54.Window))))
           · replace hp := gneg hp (of_decide_eq_false hb109)
             refine ds (v := .pointer (some ⟨b0, 0, none⟩)) rfl (fun w' hF => by subst hF; exact mv (v := .pointer (some ⟨b0, 0, none⟩)) rfl) rfl ?_
             refine ds (v := .pointer (some ⟨b0, 0, none⟩)) rfl (fun w' hF => by subst hF; exact nl rfl) rfl ?_
             refine ds (v := .pointer (some ⟨b0, 8, none⟩)) rfl (fun w' hF => by subst hF; exact fax 8 rfl Try.underlying61 rfl Try.sizeOf58 rfl rfl rfl) rfl ?_
             refine ds (v := .slice (some ⟨b101, o102, none⟩) j54.Out.length q92) rfl (fun w' hF => by subst hF; exact ld rfl Try.isAgg58 (Ctx.cell hc (k := 1) rfl rfl rfl)) rfl ?_
             refine ds (v := .int .i64 j6) rfl (fun w' hF => by subst hF; exact mv (v := .int .i64 j6) rfl) rfl ?_
             replace hp := bind_some hp; obtain ⟨y110, hy110, hp⟩ := hp
             obtain ⟨b113, o114, u115, hi111, hi112⟩ := Ctx.rdAt hc (k := 2) rfl rfl reads_own hy110
             clear u115
             refine ds (v := .pointer (some ⟨b101, o102 + (j6).toNat * 3, none⟩)) rfl (fun w' hF => by subst hF; exact ixx rfl rfl Try.underlying58 Try.sizeOf88 hi111 hi112 rfl) rfl ?_
             refine ds (v := .pointer (some ⟨b101, o102 + (j6).toNat * 3 + 1, none⟩)) rfl (fun w' hF => by subst hF; exact fax 1 rfl Try.underlying88 rfl Try.sizeOf3 rfl rfl rfl) rfl ?_
             replace hc := Ctx.rdCell hc (k := 2) rfl rfl reads_own hy110; obtain ⟨cs116, hc, hcell117⟩ := hc
             replace hc := S_ref16_Body.op hc; obtain ⟨a119, q120, u118, hc⟩ := hc; subst u118
             refine ds (v := .int .i64 y110.Since) rfl (fun w' hF => by subst hF; exact ld rfl Try.isAgg3 (hcell117 1 _ rfl)) rfl ?_
             refine ds (v := .bool (decide (y110.Since ≥ 0))) rfl (fun w' hF => by subst hF; exact ge' rfl rfl) rfl ?_
             refine ds (v := .bool (decide (y110.Since ≥ 0))) rfl (fun w' hF => by subst hF; exact mv (v := .bool (decide (y110.Since ≥ 0))) rfl) rfl ?_
             cases hb121 : (decide (y110.Since ≥ 0))
             · replace hp := gneg hp (of_decide_eq_false hb121)
               refine d0 rfl rfl ?_
               refine d0 rfl rfl ?_
               refine d0 rfl rfl ?_
               refine d0 rfl rfl ?_
               refine d0 rfl rfl ?_
               refine d0 rfl rfl ?_
               refine d0 rfl rfl ?_
               refine d0 rfl rfl ?_
               refine d0 rfl rfl ?_
               refine d0 rfl rfl ?_
               refine d0 rfl rfl ?_
               refine d0 rfl rfl ?_
               refine d0 rfl rfl ?_
               refine ds (v := .bool false) rfl (fun w' hF => by subst hF; exact pkf (v := .bool false) rfl rfl) rfl ?_
               refine ds (v := .bool false) rfl (fun w' hF => by subst hF; exact pkf (v := .bool false) rfl rfl) rfl ?_
               refine dn ?_
               refine qn ?_
               replace hc := hc.pull 4 rfl rfl
               replace hc := hc.pull 4 rfl rfl
               replace hc := hc.pull 4 rfl rfl
               replace hc : Ctx w97 (S_ref16_Link.hp b0 j54 :: Hold (pRo (pInt .u8)) [.slice a119 y110.B.length q120] y110.B :: Hold (pRo (pInt .u8)) [.slice a107 y98.B.length q108] y98.B :: Own S_api_Seg.pr 46 (.slice a3 j2.length q5) j2 :: Fr) := Ctx.exB _ _ (Ctx.exB _ _ (Ctx.sepB (Ctx.sepB hc)))
               replace hc := hc.rem 2 rfl rfl
               replace hc := hc.rem 1 rfl rfl
               exact ⟨⟨false, rfl, hp, hc⟩, (kl rfl kb)⟩
             · replace hp := gpos hp (of_decide_eq_true hb121)
               refine ds (v := .pointer (some ⟨b0, 0, none⟩)) rfl (fun w' hF => by subst hF; exact mv (v := .pointer (some ⟨b0, 0, none⟩)) rfl) rfl ?_
               refine ds (v := .pointer (some ⟨b0, 0, none⟩)) rfl (fun w' hF => by subst hF; exact nl rfl) rfl ?_
               refine ds (v := .pointer (some ⟨b0, 8, none⟩)) rfl (fun w' hF => by subst hF; exact fax 8 rfl Try.underlying61 rfl Try.sizeOf58 rfl rfl rfl) rfl ?_
               refine ds (v := .slice (some ⟨b101, o102, none⟩) j54.Out.length q92) rfl (fun w' hF => by subst hF; exact ld rfl Try.isAgg58 (Ctx.cell hc (k := 2) rfl rfl rfl)) rfl ?_
               refine ds (v := .int .i64 j6) rfl (fun w' hF => by subst hF; exact mv (v := .int .i64 j6) rfl) rfl ?_
               replace hp := bind_some hp; obtain ⟨y122, hy122, hp⟩ := hp
               obtain ⟨b125, o126, u127, hi123, hi124⟩ := Ctx.rdAt hc (k := 3) rfl rfl reads_own hy122
               clear u127
               refine ds (v := .pointer (some ⟨b101, o102 + (j6).toNat * 3, none⟩)) rfl (fun w' hF => by subst hF; exact ixx rfl rfl Try.underlying58 Try.sizeOf88 hi123 hi124 rfl) rfl ?_
               refine ds (v := .pointer (some ⟨b101, o102 + (j6).toNat * 3 + 1, none⟩)) rfl (fun w' hF => by subst hF; exact fax 1 rfl Try.underlying88 rfl Try.sizeOf3 rfl rfl rfl) rfl ?_
               replace hc := Ctx.rdCell hc (k := 3) rfl rfl reads_own hy122; obtain ⟨cs128, hc, hcell129⟩ := hc
               replace hc := S_ref16_Body.op hc; obtain ⟨a131, q132, u130, hc⟩ := hc; subst u130
               refine ds (v := .int .i64 y122.Since) rfl (fun w' hF => by subst hF; exact ld rfl Try.isAgg3 (hcell129 1 _ rfl)) rfl ?_
               refine ds (v := .pointer (some ⟨b0, 0, none⟩)) rfl (fun w' hF => by subst hF; exact mv (v := .pointer (some ⟨b0, 0, none⟩)) rfl) rfl ?_
               refine ds (v := .pointer (some ⟨b0, 0, none⟩)) rfl (fun w' hF => by subst hF; exact nl rfl) rfl ?_
               refine ds (v := .pointer (some ⟨b0, 1, none⟩)) rfl (fun w' hF => by subst hF; exact fax 1 rfl Try.underlying61 rfl Try.sizeOf3 rfl rfl rfl) rfl ?_
               refine ds (v := .int .i64 j54.Span) rfl (fun w' hF => by subst hF; exact ld rfl Try.isAgg3 (Ctx.cell hc (k := 3) rfl rfl rfl)) rfl ?_
               refine ds (v := .bool (decide (y122.Since < j54.Span))) rfl (fun w' hF => by subst hF; exact lt' rfl rfl) rfl ?_
               refine ds (v := .bool (decide (y122.Since < j54.Span))) rfl (fun w' hF => by subst hF; exact pkt (v := .bool (decide (y122.Since < j54.Span))) rfl rfl) rfl ?_
               refine ds (v := .bool (decide (y122.Since < j54.Span))) rfl (fun w' hF => by subst hF; exact pkf (v := .bool (decide (y122.Since < j54.Span))) rfl rfl) rfl ?_
               refine dn ?_
               refine qn ?_
               replace hc := hc.pull 5 rfl rfl
               replace hc := hc.pull 5 rfl rfl
               replace hc := hc.pull 5 rfl rfl
               replace hc : Ctx w97 (S_ref16_Link.hp b0 j54 :: Hold (pRo (pInt .u8)) [.slice a131 y122.B.length q132] y122.B :: Hold (pRo (pInt .u8)) [.slice a119 y110.B.length q120] y110.B :: Hold (pRo (pInt .u8)) [.slice a107 y98.B.length q108] y98.B :: Own S_api_Seg.pr 46 (.slice a3 j2.length q5) j2 :: Fr) := Ctx.exB _ _ (Ctx.exB _ _ (Ctx.sepB (Ctx.sepB hc)))
               replace hc := hc.rem 3 rfl rfl
               replace hc := hc.rem 2 rfl rfl
               replace hc := hc.rem 1 rfl rfl
               exact ⟨⟨decide (y122.Since < j54.Span), rfl, hp, hc⟩, (kl rfl kb)⟩
           · replace hp := gpos hp (of_decide_eq_true hb109)
             refine d0 rfl rfl ?_
             refine d0 rfl rfl ?_
             refine d0 rfl rfl ?_
             refine d0 rfl rfl ?_
             refine d0 rfl rfl ?_
             refine d0 rfl rfl ?_
             refine d0 rfl rfl ?_
             refine d0 rfl rfl ?_
             refine d0 rfl rfl ?_
             refine d0 rfl rfl ?_
             refine d0 rfl rfl ?_
             refine d0 rfl rfl ?_
             refine d0 rfl rfl ?_
             refine d0 rfl rfl ?_
             refine d0 rfl rfl ?_
             refine d0 rfl rfl ?_
             refine d0 rfl rfl ?_
             refine d0 rfl rfl ?_
             refine d0 rfl rfl ?_
             refine d0 rfl rfl ?_
             refine d0 rfl rfl ?_
             refine d0 rfl rfl ?_
             refine d0 rfl rfl ?_
             refine d0 rfl rfl ?_
             refine ds (v := .bool true) rfl (fun w' hF => by subst hF; exact pkt (v := .bool true) rfl rfl) rfl ?_
             refine dn ?_
             refine qn ?_
             replace hc := hc.pull 3 rfl rfl
             replace hc := hc.pull 3 rfl rfl
             replace hc := hc.pull 3 rfl rfl
             replace hc : Ctx w97 (S_ref16_Link.hp b0 j54 :: Hold (pRo (pInt .u8)) [.slice a107 y98.B.length q108] y98.B :: Own S_api_Seg.pr 46 (.slice a3 j2.length q5) j2 :: Fr) := Ctx.exB _ _ (Ctx.exB _ _ (Ctx.sepB (Ctx.sepB hc)))
             replace hc := hc.rem 1 rfl rfl
             exact ⟨⟨true, rfl, hp, hc⟩, (kl rfl kb)⟩
         · clear hp hc; intro vs u w133 hJ
           obtain ⟨j88, rfl, hp, hc⟩ := hJ
           unfold ref16_Link_Tick.J5 at hp
           cases hb134 : j88
           · replace hp := gneg hp (by rw [hb134]; exact Bool.false_ne_true)
             subst hb134
             refine Wcf rfl ?_
             refine Wskip ?_
             refine qn ?_
             refine Wseq ?_
             refine Wreg ?_
             refine rs (v := .pointer (some ⟨b0, 0, none⟩)) (mv (v := .pointer (some ⟨b0, 0, none⟩)) rfl) rfl ?_
             refine rs (v := .pointer (some ⟨b0, 0, none⟩)) (nl rfl) rfl ?_
             refine rs (v := .pointer (some ⟨b0, 8, none⟩)) (fax 8 rfl Try.underlying61 rfl Try.sizeOf58 rfl rfl rfl) rfl ?_
             replace hc := Ctx.exF hc; obtain ⟨v135, hc⟩ := hc
             replace hc := Ctx.exF hc; obtain ⟨v136, hc⟩ := hc
             replace hc := Ctx.sepF hc
             replace hc := Ctx.sepF hc
             obtain ⟨a137, q138, u139⟩ := hc.rd (k := 1) rfl rfl reads_own; subst u139
             obtain ⟨a140, q141, u142⟩ := hc.rd (k := 2) rfl rfl reads_own; subst u142
             refine rs (v := .slice a137 j54.Out.length q138) (ld rfl Try.isAgg58 (Ctx.cell hc (k := 0) rfl rfl rfl)) rfl ?_
             refine rs (v := .int .i64 j6) (mv (v := .int .i64 j6) rfl) rfl ?_
             replace hp := bind_some hp; obtain ⟨y143, hy143, hp⟩ := hp
             obtain ⟨b146, o147, u148, hi144, hi145⟩ := Ctx.rdAt hc (k := 1) rfl rfl reads_own hy143
             subst u148
             refine rs (v := .pointer (some ⟨b146, o147 + (j6).toNat * 3, none⟩)) (ixx rfl rfl Try.underlying58 Try.sizeOf88 hi144 hi145 rfl) rfl ?_
             refine rs (v := .pointer (some ⟨b146, o147 + (j6).toNat * 3 + 1, none⟩)) (fax 1 rfl Try.underlying88 rfl Try.sizeOf3 rfl rfl rfl) rfl ?_
             refine ruE (A := fun w' => Ctx w' (B b0 [.int .i64 j54.Window, .int .i64 j54.Span, .int .i64 j54.Room, .int .i64 j54.Epoch, .int .i64 j54.Next, .int .i64 j54.Acked, .int .i64 j54.Sent, .int .i64 j54.Got, .slice (some ⟨b146, o147, none⟩) j54.Out.length q138, .slice a140 j54.Early.length q141, .bool j54.Owes] 61 :: Own S_ref16_Body.pr 88 (.slice (some ⟨b146, o147, none⟩) j54.Out.length q138) (j54.Out.set (j6).toNat ({ y143 with Since := 0 })) :: Own S_ref16_Early.pr 91 (.slice a140 j54.Early.length q141) j54.Early :: Own S_api_Seg.pr 46 (.slice a3 j2.length q5) j2 :: Fr)) (Ctx.ownPutOp hc (k := 1) rfl rfl (z := y143) (z' := { y143 with Since := 0 }) hy143 1 rfl (u := .int .i64 0) rfl rfl rfl Try.sizeOf3 (fun _ _ _ h => by obtain ⟨_, _, rfl, rfl, ⟨_, _, rfl, rfl, ⟨_, rfl, hs149⟩⟩⟩ := h; exact ⟨_, _, rfl, rfl, ⟨_, _, rfl, rfl, ⟨_, rfl, hs149⟩⟩⟩) rfl) rfl ?_
             clear hc; rintro w150 hc
             refine rn ?_
             refine qn ?_
             refine Wseqm [90, 91, 92, 93, 94, 95, 96, 97, 98, 99, 100, 101, 102, 103, 104, 105, 106, 107, 108, 109, 110, 111, 112, 113] [] (fun vs w' => ∃ j151 : S_ref16_Link, vs = [] ∧ ref16_Link_Tick.J6 j2 j6 (ref16_Link_Tick.L1 m1) j151 = some r ∧ Ctx w' (S_ref16_Link.hp b0 j151 :: Own S_api_Seg.pr 46 (.slice a3 j2.length q5) j2 :: Fr)) ?_ ?_
             · refine Wseq ?_
               replace hc := hc.drew
               refine Wdrw (fun _ w' => w' = World.drew w150) [0, 1, 3, 7, 0, 31, 63, 127, 0, 256, 768, 1792, 4095] 0 0 rfl (by kernel_rfl) (fun _ _ => rfl) ?_
               generalize hw : World.drew w150 = w152 at *
               clear hw
               refine ds (v := .pointer (some ⟨b0, 0, none⟩)) rfl (fun w' hF => by subst hF; exact mv (v := .pointer (some ⟨b0, 0, none⟩)) rfl) rfl ?_
               refine ds (v := .pointer (some ⟨b0, 0, none⟩)) rfl (fun w' hF => by subst hF; exact nl rfl) rfl ?_
               refine ds (v := .pointer (some ⟨b0, 8, none⟩)) rfl (fun w' hF => by subst hF; exact fax 8 rfl Try.underlying61 rfl Try.sizeOf58 rfl rfl rfl) rfl ?_
               refine ds (v := .slice (some ⟨b146, o147, none⟩) j54.Out.length q138) rfl (fun w' hF => by subst hF; exact ld rfl Try.isAgg58 (Ctx.cell hc (k := 0) rfl rfl rfl)) rfl ?_
               refine ds (v := .int .i64 j6) rfl (fun w' hF => by subst hF; exact mv (v := .int .i64 j6) rfl) rfl ?_
               replace hp := bind_some hp; obtain ⟨y153, hy153, hp⟩ := hp
               obtain ⟨b156, o157, u158, hi154, hi155⟩ := Ctx.rdAt hc (k := 1) rfl rfl reads_own hy153
               clear u158
               refine ds (v := .pointer (some ⟨b146, o147 + (j6).toNat * 3, none⟩)) rfl (fun w' hF => by subst hF; exact ixx rfl rfl Try.underlying58 Try.sizeOf88 hi154 hi155 rfl) rfl ?_
               refine ds (v := .pointer (some ⟨b146, o147 + (j6).toNat * 3 + 0, none⟩)) rfl (fun w' hF => by subst hF; exact fax 0 rfl Try.underlying88 rfl Try.sizeOf3 rfl rfl rfl) rfl ?_
               replace hc := Ctx.rdCell hc (k := 1) rfl rfl reads_own hy153; obtain ⟨cs159, hc, hcell160⟩ := hc
               replace hc := S_ref16_Body.op hc; obtain ⟨a162, q163, u161, hc⟩ := hc; subst u161
               refine ds (v := .int .i64 y153.Seq) rfl (fun w' hF => by subst hF; exact ld rfl Try.isAgg3 (hcell160 0 _ rfl)) rfl ?_
               refine ds (v := .pointer (some ⟨b0, 0, none⟩)) rfl (fun w' hF => by subst hF; exact mv (v := .pointer (some ⟨b0, 0, none⟩)) rfl) rfl ?_
               refine ds (v := .pointer (some ⟨b0, 0, none⟩)) rfl (fun w' hF => by subst hF; exact nl rfl) rfl ?_
               refine ds (v := .pointer (some ⟨b0, 6, none⟩)) rfl (fun w' hF => by subst hF; exact fax 6 rfl Try.underlying61 rfl Try.sizeOf3 rfl rfl rfl) rfl ?_
               refine ds (v := .int .i64 j54.Sent) rfl (fun w' hF => by subst hF; exact ld rfl Try.isAgg3 (Ctx.cell hc (k := 1) rfl rfl rfl)) rfl ?_
               refine ds (v := .bool (decide (y153.Seq > j54.Sent))) rfl (fun w' hF => by subst hF; exact gt' rfl rfl) rfl ?_
               refine dn ?_
               refine qn ?_
               cases hb164 : (decide (y153.Seq > j54.Sent))
               · replace hp := gneg hp (of_decide_eq_false hb164)
                 refine Wcf rfl ?_
                 refine Wskip ?_
                 refine qn ?_
                 replace hc := hc.pull 3 rfl rfl
                 replace hc := hc.pull 3 rfl rfl
                 replace hc := hc.pull 3 rfl rfl
                 replace hc : Ctx w152 (S_ref16_Link.hp b0 (⟨j54.Window, j54.Span, j54.Room, j54.Epoch, j54.Next, j54.Acked, j54.Sent, j54.Got, (j54.Out.set (j6).toNat ({ y143 with Since := 0 })), j54.Early, j54.Owes⟩ : S_ref16_Link) :: Hold (pRo (pInt .u8)) [.slice a162 y153.B.length q163] y153.B :: Own S_api_Seg.pr 46 (.slice a3 j2.length q5) j2 :: Fr) := Ctx.exB _ _ (Ctx.exB _ _ (Ctx.sepB (Ctx.sepB hc)))
                 replace hc := hc.rem 1 rfl rfl
                 exact ⟨⟨(⟨j54.Window, j54.Span, j54.Room, j54.Epoch, j54.Next, j54.Acked, j54.Sent, j54.Got, (j54.Out.set (j6).toNat ({ y143 with Since := 0 })), j54.Early, j54.Owes⟩ : S_ref16_Link), rfl, hp, hc⟩, (kl rfl kb)⟩
               · replace hp := gpos hp (of_decide_eq_true hb164)
                 refine Wct rfl ?_
                 refine Wreg ?_
                 refine rs (v := .pointer (some ⟨b0, 0, none⟩)) (mv (v := .pointer (some ⟨b0, 0, none⟩)) rfl) rfl ?_
                 refine rs (v := .pointer (some ⟨b0, 0, none⟩)) (mv (v := .pointer (some ⟨b0, 0, none⟩)) rfl) rfl ?_
                 refine rs (v := .pointer (some ⟨b0, 0, none⟩)) (nl rfl) rfl ?_
                 refine rs (v := .pointer (some ⟨b0, 8, none⟩)) (fax 8 rfl Try.underlying61 rfl Try.sizeOf58 rfl rfl rfl) rfl ?_
                 refine rs (v := .slice (some ⟨b146, o147, none⟩) j54.Out.length q138) (ld rfl Try.isAgg58 (Ctx.cell hc (k := 1) rfl rfl rfl)) rfl ?_
                 refine rs (v := .int .i64 j6) (mv (v := .int .i64 j6) rfl) rfl ?_
                 replace hp := bind_some hp; obtain ⟨y165, hy165, hp⟩ := hp
                 obtain ⟨b168, o169, u170, hi166, hi167⟩ := Ctx.rdAt hc (k := 2) rfl rfl reads_own hy165
                 clear u170
                 refine rs (v := .pointer (some ⟨b146, o147 + (j6).toNat * 3, none⟩)) (ixx rfl rfl Try.underlying58 Try.sizeOf88 hi166 hi167 rfl) rfl ?_
                 refine rs (v := .pointer (some ⟨b146, o147 + (j6).toNat * 3 + 0, none⟩)) (fax 0 rfl Try.underlying88 rfl Try.sizeOf3 rfl rfl rfl) rfl ?_
                 replace hc := Ctx.rdCell hc (k := 2) rfl rfl reads_own hy165; obtain ⟨cs171, hc, hcell172⟩ := hc
                 replace hc := S_ref16_Body.op hc; obtain ⟨a174, q175, u173, hc⟩ := hc; subst u173
                 refine rs (v := .int .i64 y165.Seq) (ld rfl Try.isAgg3 (hcell172 0 _ rfl)) rfl ?_
                 refine rs (v := .pointer (some ⟨b0, 0, none⟩)) (nl rfl) rfl ?_
                 refine rs (v := .pointer (some ⟨b0, 6, none⟩)) (fax 6 rfl Try.underlying61 rfl Try.sizeOf3 rfl rfl rfl) rfl ?_
                 refine ruE (A := fun w' => Ctx w' (Hold (pRo (pInt .u8)) [.slice a174 y165.B.length q175] y165.B :: Hold (pRo (pInt .u8)) [.slice a162 y153.B.length q163] y153.B :: B b0 [.int .i64 j54.Window, .int .i64 j54.Span, .int .i64 j54.Room, .int .i64 j54.Epoch, .int .i64 j54.Next, .int .i64 j54.Acked, .int .i64 y165.Seq, .int .i64 j54.Got, .slice (some ⟨b146, o147, none⟩) j54.Out.length q138, .slice a140 j54.Early.length q141, .bool j54.Owes] 61 :: Own S_ref16_Body.pr 88 (.slice (some ⟨b146, o147, none⟩) j54.Out.length q138) (j54.Out.set (j6).toNat ({ y143 with Since := 0 })) :: Own S_ref16_Early.pr 91 (.slice a140 j54.Early.length q141) j54.Early :: Own S_api_Seg.pr 46 (.slice a3 j2.length q5) j2 :: Fr)) (Ctx.putOp hc (k := 2) rfl rfl (v := .int .i64 y165.Seq) rfl rfl rfl Try.sizeOf3 rfl rfl rfl) rfl ?_
                 clear hc; rintro w176 hc
                 refine rn ?_
                 refine qn ?_
                 replace hc := hc.pull 4 rfl rfl
                 replace hc := hc.pull 4 rfl rfl
                 replace hc := hc.pull 4 rfl rfl
                 replace hc : Ctx w176 (S_ref16_Link.hp b0 (⟨j54.Window, j54.Span, j54.Room, j54.Epoch, j54.Next, j54.Acked, y165.Seq, j54.Got, (j54.Out.set (j6).toNat ({ y143 with Since := 0 })), j54.Early, j54.Owes⟩ : S_ref16_Link) :: Hold (pRo (pInt .u8)) [.slice a174 y165.B.length q175] y165.B :: Hold (pRo (pInt .u8)) [.slice a162 y153.B.length q163] y153.B :: Own S_api_Seg.pr 46 (.slice a3 j2.length q5) j2 :: Fr) := Ctx.exB _ _ (Ctx.exB _ _ (Ctx.sepB (Ctx.sepB hc)))
                 replace hc := hc.rem 2 rfl rfl
                 replace hc := hc.rem 1 rfl rfl
                 exact ⟨⟨(⟨j54.Window, j54.Span, j54.Room, j54.Epoch, j54.Next, j54.Acked, y165.Seq, j54.Got, (j54.Out.set (j6).toNat ({ y143 with Since := 0 })), j54.Early, j54.Owes⟩ : S_ref16_Link), rfl, hp, hc⟩, (kl rfl kb)⟩
             · clear hp hc; intro vs u w177 hJ
               obtain ⟨j151, rfl, hp, hc⟩ := hJ
               unfold ref16_Link_Tick.J6 at hp
               replace hc := Ctx.exF hc; obtain ⟨v178, hc⟩ := hc
               replace hc := Ctx.exF hc; obtain ⟨v179, hc⟩ := hc
               replace hc := Ctx.sepF hc
               replace hc := Ctx.sepF hc
               obtain ⟨a180, q181, u182⟩ := hc.rd (k := 1) rfl rfl reads_own; subst u182
               obtain ⟨a183, q184, u185⟩ := hc.rd (k := 2) rfl rfl reads_own; subst u185
               replace hc := hc.drew
               refine Wdrw (fun j w' => True) [0, 0, 2, 6, 14, 0, 32, 96, 224, 0, 992, 2016, 4064, 0, 8192, 24576, 57344, 0, 131072, 393216, 917504, 0, 4063232, 8257536, 16646144, 33554430, 67108862, 134217727, 268435455] 0 17895696 rfl (by kernel_rfl) (fun _ _ => trivial) ?_
               generalize hw : World.drew w177 = w186 at *
               clear hw
               refine ds (v := .slice a3 j2.length q5) rfl (fun w' hF => mv (v := .slice a3 j2.length q5) rfl) rfl ?_
               refine ds (v := .pointer (some ⟨b0, 0, none⟩)) rfl (fun w' hF => mv (v := .pointer (some ⟨b0, 0, none⟩)) rfl) rfl ?_
               refine ds (v := .pointer (some ⟨b0, 0, none⟩)) rfl (fun w' hF => nl rfl) rfl ?_
               refine ds (v := .pointer (some ⟨b0, 3, none⟩)) rfl (fun w' hF => fax 3 rfl Try.underlying61 rfl Try.sizeOf3 rfl rfl rfl) rfl ?_
               refine dx (v := .int .i64 j151.Epoch) rfl (ld rfl Try.isAgg3 (Ctx.cell hc (k := 0) rfl rfl rfl)) rfl rfl ?_
               refine ds (v := .pointer (some ⟨b0, 0, none⟩)) rfl (fun w' hF => mv (v := .pointer (some ⟨b0, 0, none⟩)) rfl) rfl ?_
               refine ds (v := .pointer (some ⟨b0, 0, none⟩)) rfl (fun w' hF => nl rfl) rfl ?_
               refine ds (v := .pointer (some ⟨b0, 8, none⟩)) rfl (fun w' hF => fax 8 rfl Try.underlying61 rfl Try.sizeOf58 rfl rfl rfl) rfl ?_
               refine dx (v := .slice a180 j151.Out.length q181) rfl (ld rfl Try.isAgg58 (Ctx.cell hc (k := 0) rfl rfl rfl)) rfl rfl ?_
               refine ds (v := .int .i64 j6) rfl (fun w' hF => mv (v := .int .i64 j6) rfl) rfl ?_
               replace hp := bind_some hp; obtain ⟨y187, hy187, hp⟩ := hp
               obtain ⟨b190, o191, u192, hi188, hi189⟩ := Ctx.rdAt hc (k := 1) rfl rfl reads_own hy187
               subst u192
               refine ds (v := .pointer (some ⟨b190, o191 + (j6).toNat * 3, none⟩)) rfl (fun w' hF => ixx rfl rfl Try.underlying58 Try.sizeOf88 hi188 hi189 rfl) rfl ?_
               refine ds (v := .pointer (some ⟨b190, o191 + (j6).toNat * 3 + 0, none⟩)) rfl (fun w' hF => fax 0 rfl Try.underlying88 rfl Try.sizeOf3 rfl rfl rfl) rfl ?_
               replace hc := Ctx.rdCell hc (k := 1) rfl rfl reads_own hy187; obtain ⟨cs193, hc, hcell194⟩ := hc
               replace hc := S_ref16_Body.op hc; obtain ⟨a196, q197, u195, hc⟩ := hc; subst u195
               refine dx (v := .int .i64 y187.Seq) rfl (ld rfl Try.isAgg3 (hcell194 0 _ rfl)) rfl rfl ?_
               refine ds (v := .pointer (some ⟨b0, 0, none⟩)) rfl (fun w' hF => mv (v := .pointer (some ⟨b0, 0, none⟩)) rfl) rfl ?_
               refine ds (v := .pointer (some ⟨b0, 0, none⟩)) rfl (fun w' hF => nl rfl) rfl ?_
               refine ds (v := .pointer (some ⟨b0, 7, none⟩)) rfl (fun w' hF => fax 7 rfl Try.underlying61 rfl Try.sizeOf3 rfl rfl rfl) rfl ?_
               refine dx (v := .int .i64 j151.Got) rfl (ld rfl Try.isAgg3 (Ctx.cell hc (k := 1) rfl rfl rfl)) rfl rfl ?_
               refine ds (v := .pointer (some ⟨b0, 0, none⟩)) rfl (fun w' hF => mv (v := .pointer (some ⟨b0, 0, none⟩)) rfl) rfl ?_
               refine ds (v := .pointer (some ⟨b0, 0, none⟩)) rfl (fun w' hF => nl rfl) rfl ?_
               refine ds (v := .pointer (some ⟨b0, 8, none⟩)) rfl (fun w' hF => fax 8 rfl Try.underlying61 rfl Try.sizeOf58 rfl rfl rfl) rfl ?_
               refine dx (v := .slice (some ⟨b190, o191, none⟩) j151.Out.length q181) rfl (ld rfl Try.isAgg58 (Ctx.cell hc (k := 1) rfl rfl rfl)) rfl rfl ?_
               refine ds (v := .int .i64 j6) rfl (fun w' hF => mv (v := .int .i64 j6) rfl) rfl ?_
               replace hp := bind_some hp; obtain ⟨y198, hy198, hp⟩ := hp
               obtain ⟨b201, o202, u203, hi199, hi200⟩ := Ctx.rdAt hc (k := 2) rfl rfl reads_own hy198
               clear u203
               refine ds (v := .pointer (some ⟨b190, o191 + (j6).toNat * 3, none⟩)) rfl (fun w' hF => ixx rfl rfl Try.underlying58 Try.sizeOf88 hi199 hi200 rfl) rfl ?_
               refine ds (v := .pointer (some ⟨b190, o191 + (j6).toNat * 3 + 2, none⟩)) rfl (fun w' hF => fax 2 rfl Try.underlying88 rfl Try.sizeOf38 rfl rfl rfl) rfl ?_
               replace hc := Ctx.rdCell hc (k := 2) rfl rfl reads_own hy198; obtain ⟨cs204, hc, hcell205⟩ := hc
               replace hc := S_ref16_Body.op hc; obtain ⟨a207, q208, u206, hc⟩ := hc; subst u206
               refine dx (v := .slice a207 y198.B.length q208) rfl (ld rfl Try.isAgg38 (hcell205 2 _ rfl)) rfl rfl ?_
               refine ds (v := .agg #[.int .i64 j151.Epoch, .int .i64 y187.Seq, .int .i64 j151.Got, .slice a207 y198.B.length q208]) rfl (fun w' hF => bd_46_0_1_2_3 rfl rfl rfl rfl) rfl ?_
               replace hc := hc.dup (k := 0) rfl rfl
               replace hc : Ctx w186 (Hold S_api_Seg.pr [.int .i64 j151.Epoch, .int .i64 y187.Seq, .int .i64 j151.Got, .slice a207 y198.B.length q208] (⟨j151.Epoch, y187.Seq, j151.Got, y198.B⟩ : S_api_Seg) :: Hold (pRo (pInt .u8)) [.slice a207 y198.B.length q208] y198.B :: Hold (pRo (pInt .u8)) [.slice a196 y187.B.length q197] y187.B :: B b0 [.int .i64 j151.Window, .int .i64 j151.Span, .int .i64 j151.Room, .int .i64 j151.Epoch, .int .i64 j151.Next, .int .i64 j151.Acked, .int .i64 j151.Sent, .int .i64 j151.Got, .slice (some ⟨b190, o191, none⟩) j151.Out.length q181, .slice a183 j151.Early.length q184, .bool j151.Owes] 61 :: Own S_ref16_Body.pr 88 (.slice (some ⟨b190, o191, none⟩) j151.Out.length q181) j151.Out :: Own S_ref16_Early.pr 91 (.slice a183 j151.Early.length q184) j151.Early :: Own S_api_Seg.pr 46 (.slice a3 j2.length q5) j2 :: Fr) := S_api_Seg.cl hc
               refine deE (Ctx.builtOp (css := [[.int .i64 j151.Epoch, .int .i64 y187.Seq, .int .i64 j151.Got, .slice a207 y198.B.length q208]]) (xs := ([(⟨j151.Epoch, y187.Seq, j151.Got, y198.B⟩ : S_api_Seg)] : List S_api_Seg)) (E := S_api_Seg.pr) hc Try.underlying29 Try.sizeOf46 Try.zeroValue46 rfl rfl rfl rfl rfl rfl rfl rfl) rfl rfl ?_
               clear hc; rintro _ w210 ⟨a209, rfl, hc⟩
               refine ⟨fun j hj hb => trivial, ?_⟩
               replace hp := bind_some hp; obtain ⟨z211, hz211, hp⟩ := hp
               obtain ⟨hg212, e213⟩ := app_some hz211
               refine deE (Ctx.append hc (k := 6) rfl rfl (k2 := 0) rfl rfl reads_own Try.underlying29 (i := Try.t46) rfl rfl rfl rfl rfl rfl rfl rfl hg212) rfl rfl ?_
               clear hc; rintro _ w216 ⟨a214, q215, rfl, hc⟩
               rw [← e213] at hc ⊢
               refine ⟨fun j hj hb => trivial, ?_⟩
               refine ds (v := .slice a214 z211.length q215) rfl (fun w' hF => av (v := .slice a214 z211.length q215) rfl) rfl ?_
               refine dn ?_
               refine bn ?_
               refine qn ?_
               replace hc := hc.pull 5 rfl rfl
               replace hc := hc.pull 5 rfl rfl
               replace hc := hc.pull 5 rfl rfl
               replace hc : Ctx w216 (S_ref16_Link.hp b0 j151 :: Own S_api_Seg.pr 46 (.slice a209 1 1) ([(⟨j151.Epoch, y187.Seq, j151.Got, y198.B⟩ : S_api_Seg)]) :: Hold (pRo (pInt .u8)) [.slice a207 y198.B.length q208] y198.B :: Hold (pRo (pInt .u8)) [.slice a196 y187.B.length q197] y187.B :: Own S_api_Seg.pr 46 (.slice a214 z211.length q215) z211 :: Fr) := Ctx.exB _ _ (Ctx.exB _ _ (Ctx.sepB (Ctx.sepB hc)))
               replace hc := hc.rem 3 rfl rfl
               replace hc := hc.rem 2 rfl rfl
               replace hc := hc.rem 1 rfl rfl
               exact ⟨⟨j151, z211, a214, z211.length, q215, rfl, hp, hc⟩, (kl rfl (km rfl (kl rfl (km rfl (kl rfl (km rfl (kl rfl kb)))))))⟩
           · replace hp := gpos hp hb134
             subst hb134
             refine Wct rfl ?_
             refine Wexit ?_
             refine qx ?_
             refine be ?_
             refine qn ?_
             exact ⟨⟨j54, j2, a3, j2.length, q5, rfl, hp, hc⟩, (kl rfl (km rfl (kl rfl (km rfl (kl rfl kb)))))⟩
     · clear hp hc; intro vs u w217 hJ
       obtain ⟨j49, j50, a51, n52, q53, rfl, hp, hc⟩ := hJ
       obtain ⟨u218, _⟩ := Ctx.rdLen hc (k := 1) rfl rfl reads_own; subst u218
       unfold ref16_Link_Tick.J3 at hp
       refine Wreg ?_
       refine rs (v := .int .i64 j6) (mv (v := .int .i64 j6) rfl) rfl ?_
       refine rs (v := .int .i64 (IntKind.i64.wrap (j6 + 1))) (adw rfl rfl) rfl ?_
       refine rs (v := .int .i64 (IntKind.i64.wrap (j6 + 1))) (av (v := .int .i64 (IntKind.i64.wrap (j6 + 1))) rfl) rfl ?_
       refine rn ?_
       refine qn ?_
       exact ⟨m1, Nat.lt_succ_self _, ⟨j49, j50, (IntKind.i64.wrap (j6 + 1)), a51, j50.length, q53, rfl, hp, hc⟩, (kl rfl (km rfl (kl rfl k0)))⟩

-- FN (*peloton/pelotonref16.Link).Reset
theorem bd_61_0_1_2_3 {ρ : Operand → Value} {w : World} {dst : Option Nat} {ty : TypeId} {pos : String} {after : Array Edge} {g : Option (Nat × Bool)} {x0 x1 x2 x3 : Operand} {k0 : IntKind} {a0 : Int} {k1 : IntKind} {a1 : Int} {k2 : IntKind} {a2 : Int} {k3 : IntKind} {a3 : Int} (h0 : ρ x0 = (.int k0 a0)) (h1 : ρ x1 = (.int k1 a1)) (h2 : ρ x2 = (.int k2 a2)) (h3 : ρ x3 = (.int k3 a3)) :
    (execOp ρ ⟨dst, .build 61 #[(0, x0), (1, x1), (2, x2), (3, x3)], ty, pos, after, g⟩).run Try.prog w = .ok (.value (.agg #[(.int k0 a0), (.int k1 a1), (.int k2 a2), (.int k3 a3), (.int .i64 0), (.int .i64 0), (.int .i64 0), (.int .i64 0), (.slice none 0 0), (.slice none 0 0), (.bool false)])) w := by
  simp [execOp, Instr.build, Instr.fill, Try.zeroValue61, Try.runUnderlying61, Try.sizeOf3, Try.sizeOf4, Try.sizeOf58, Try.sizeOf59, h0, h1, h2, h3, Value.cells]

def ref16_Link_Reset (x0 : S_ref16_Link) (x1 : Int) : Option (Int × S_ref16_Link) :=
  if x1 ≤ x0.Epoch then
    some (160, x0)
  else
    if x1 ≥ 1099511627776 then
      some (160, x0)
    else
      some (0, (⟨x0.Window, x0.Span, x0.Room, x1, 0, 0, 0, 0, [], [], false⟩ : S_ref16_Link))

set_option maxHeartbeats 8000000 in
theorem ref16_Link_Reset_any {b0 : Nat} {x0 : S_ref16_Link} {x1 : Int} {Fr : List HP} {w : World} {r : Int × S_ref16_Link} {K : Value → World → Prop}  (hc : Ctx w (S_ref16_Link.hp b0 x0 :: Fr)) (hp : ref16_Link_Reset x0 x1 = some r)
    (k : ∀ w', Ctx w' (S_ref16_Link.hp b0 r.2 :: Fr) → K (.int .i64 r.1) w') : Calls Try.prog 24 #[.pointer (some ⟨b0, 0, none⟩), .int .i64 x1] w (Ret K) := by
 unfold ref16_Link_Reset at hp
 refine Center (args := [.pointer (some ⟨b0, 0, none⟩), .int .i64 x1]) (l := [(0, .pointer (some ⟨b0, 0, none⟩)), (1, .int .i64 x1)]) Try.func24 Try.ntmps24 rfl rfl rfl ?_
 refine Wseq ?_
 refine Wreg ?_
 refine rs (v := .int .i64 0) (av (v := .int .i64 0) rfl) rfl ?_
 refine rn ?_
 refine qn ?_
 refine Wseq ?_
 refine Wseq ?_
 refine Wreg ?_
 refine rs (v := .int .i64 x1) (mv (v := .int .i64 x1) rfl) rfl ?_
 refine rs (v := .pointer (some ⟨b0, 0, none⟩)) (mv (v := .pointer (some ⟨b0, 0, none⟩)) rfl) rfl ?_
 refine rs (v := .pointer (some ⟨b0, 0, none⟩)) (nl rfl) rfl ?_
 refine rs (v := .pointer (some ⟨b0, 3, none⟩)) (fax 3 rfl Try.underlying61 rfl Try.sizeOf3 rfl rfl rfl) rfl ?_
 replace hc := Ctx.exF hc; obtain ⟨v1, hc⟩ := hc
 replace hc := Ctx.exF hc; obtain ⟨v2, hc⟩ := hc
 replace hc := Ctx.sepF hc
 replace hc := Ctx.sepF hc
 obtain ⟨a3, q4, u5⟩ := hc.rd (k := 1) rfl rfl reads_own; subst u5
 obtain ⟨a6, q7, u8⟩ := hc.rd (k := 2) rfl rfl reads_own; subst u8
 refine rs (v := .int .i64 x0.Epoch) (ld rfl Try.isAgg3 (Ctx.cell hc (k := 0) rfl rfl rfl)) rfl ?_
 refine rs (v := .bool (decide (x1 ≤ x0.Epoch))) (le' rfl rfl) rfl ?_
 refine rs (v := .bool (decide (x1 ≤ x0.Epoch))) (mv (v := .bool (decide (x1 ≤ x0.Epoch))) rfl) rfl ?_
 cases hb9 : (decide (x1 ≤ x0.Epoch))
 · replace hp := gneg hp (of_decide_eq_false hb9)
   refine rs (v := .int .i64 x1) (mv (v := .int .i64 x1) rfl) rfl ?_
   refine rs (v := .bool (decide (x1 ≥ 1099511627776))) (ge' rfl rfl) rfl ?_
   refine rs (v := .bool (decide (x1 ≥ 1099511627776))) (pkf (v := .bool (decide (x1 ≥ 1099511627776))) rfl rfl) rfl ?_
   refine rn ?_
   refine qn ?_
   cases hb10 : (decide (x1 ≥ 1099511627776))
   · replace hp := gneg hp (of_decide_eq_false hb10)
     refine Wcf rfl ?_
     refine Wskip ?_
     refine qn ?_
     refine Wseq ?_
     replace hc := hc.drew
     refine Wdrw (fun j w' => True) [0, 0, 2, 6, 14, 0, 32, 96, 224, 0, 512, 1536, 3584, 0, 16382, 32767, 65535] 0 4368 rfl (by kernel_rfl) (fun _ _ => trivial) ?_
     generalize hw : World.drew w = w11 at *
     clear hw
     refine ds (v := .pointer (some ⟨b0, 0, none⟩)) rfl (fun w' hF => mv (v := .pointer (some ⟨b0, 0, none⟩)) rfl) rfl ?_
     refine ds (v := .pointer (some ⟨b0, 0, none⟩)) rfl (fun w' hF => mv (v := .pointer (some ⟨b0, 0, none⟩)) rfl) rfl ?_
     refine ds (v := .pointer (some ⟨b0, 0, none⟩)) rfl (fun w' hF => nl rfl) rfl ?_
     refine ds (v := .pointer (some ⟨b0, 0, none⟩)) rfl (fun w' hF => fax 0 rfl Try.underlying61 rfl Try.sizeOf3 rfl rfl rfl) rfl ?_
     refine dx (v := .int .i64 x0.Window) rfl (ld rfl Try.isAgg3 (Ctx.cell hc (k := 0) rfl rfl rfl)) rfl rfl ?_
     refine ds (v := .pointer (some ⟨b0, 0, none⟩)) rfl (fun w' hF => mv (v := .pointer (some ⟨b0, 0, none⟩)) rfl) rfl ?_
     refine ds (v := .pointer (some ⟨b0, 0, none⟩)) rfl (fun w' hF => nl rfl) rfl ?_
     refine ds (v := .pointer (some ⟨b0, 1, none⟩)) rfl (fun w' hF => fax 1 rfl Try.underlying61 rfl Try.sizeOf3 rfl rfl rfl) rfl ?_
     refine dx (v := .int .i64 x0.Span) rfl (ld rfl Try.isAgg3 (Ctx.cell hc (k := 0) rfl rfl rfl)) rfl rfl ?_
     refine ds (v := .pointer (some ⟨b0, 0, none⟩)) rfl (fun w' hF => mv (v := .pointer (some ⟨b0, 0, none⟩)) rfl) rfl ?_
     refine ds (v := .pointer (some ⟨b0, 0, none⟩)) rfl (fun w' hF => nl rfl) rfl ?_
     refine ds (v := .pointer (some ⟨b0, 2, none⟩)) rfl (fun w' hF => fax 2 rfl Try.underlying61 rfl Try.sizeOf3 rfl rfl rfl) rfl ?_
     refine dx (v := .int .i64 x0.Room) rfl (ld rfl Try.isAgg3 (Ctx.cell hc (k := 0) rfl rfl rfl)) rfl rfl ?_
     refine ds (v := .int .i64 x1) rfl (fun w' hF => mv (v := .int .i64 x1) rfl) rfl ?_
     refine ds (v := .agg #[.int .i64 x0.Window, .int .i64 x0.Span, .int .i64 x0.Room, .int .i64 x1, .int .i64 0, .int .i64 0, .int .i64 0, .int .i64 0, .slice none 0 0, .slice none 0 0, .bool false]) rfl (fun w' hF => bd_61_0_1_2_3 rfl rfl rfl rfl) rfl ?_
     refine ds (v := .pointer (some ⟨b0, 0, none⟩)) rfl (fun w' hF => nl rfl) rfl ?_
     refine duE (A := fun w' => Ctx w' (B b0 [.int .i64 x0.Window, .int .i64 x0.Span, .int .i64 x0.Room, .int .i64 x1, .int .i64 0, .int .i64 0, .int .i64 0, .int .i64 0, .slice none 0 0, .slice none 0 0, .bool false] 61 :: Own S_ref16_Body.pr 88 (.slice a3 x0.Out.length q4) x0.Out :: Own S_ref16_Early.pr 91 (.slice a6 x0.Early.length q7) x0.Early :: Fr)) (Ctx.putAgg hc (k := 0) rfl rfl (vs := [.int .i64 x0.Window, .int .i64 x0.Span, .int .i64 x0.Room, .int .i64 x1, .int .i64 0, .int .i64 0, .int .i64 0, .int .i64 0, .slice none 0 0, .slice none 0 0, .bool false]) rfl rfl rfl Try.sizeOf61 rfl rfl rfl) rfl rfl ?_
     clear hc; rintro w12 hc
     refine ⟨fun j hj hb => trivial, ?_⟩
     refine dn ?_
     refine qn ?_
     refine Wseq ?_
     refine Wreg ?_
     refine rs (v := .int .i64 0) (av (v := .int .i64 0) rfl) rfl ?_
     refine rn ?_
     refine qn ?_
     refine Wret ?_
     replace hc := hc.nilOwn S_ref16_Body.pr 88
     replace hc := hc.nilOwn S_ref16_Early.pr 91
     replace hc := hc.pull 1 rfl rfl
     replace hc := hc.pull 2 rfl rfl
     replace hc : Ctx w12 (S_ref16_Link.hp b0 (⟨x0.Window, x0.Span, x0.Room, x1, 0, 0, 0, 0, [], [], false⟩ : S_ref16_Link) :: Own S_ref16_Body.pr 88 (.slice a3 x0.Out.length q4) x0.Out :: Own S_ref16_Early.pr 91 (.slice a6 x0.Early.length q7) x0.Early :: Fr) := Ctx.exB _ _ (Ctx.exB _ _ (Ctx.sepB (Ctx.sepB hc)))
     replace hc := hc.rem 2 rfl rfl
     replace hc := hc.rem 1 rfl rfl
     injection hp with hp; subst hp
     refine f1 (v := .int .i64 0) Try.results24 Try.ntmps24 rfl ?_
     exact ⟨_, rfl, k _ hc⟩
   · replace hp := gpos hp (of_decide_eq_true hb10)
     refine Wct rfl ?_
     refine Wseq ?_
     refine Wreg ?_
     refine rs (v := .int .i64 160) (av (v := .int .i64 160) rfl) rfl ?_
     refine rn ?_
     refine qn ?_
     refine Wret ?_
     refine qr ?_
     replace hc := hc.pull 2 rfl rfl
     replace hc := hc.pull 2 rfl rfl
     replace hc := hc.pull 2 rfl rfl
     replace hc : Ctx w (S_ref16_Link.hp b0 x0 :: Fr) := Ctx.exB _ _ (Ctx.exB _ _ (Ctx.sepB (Ctx.sepB hc)))
     injection hp with hp; subst hp
     refine f1 (v := .int .i64 160) Try.results24 Try.ntmps24 rfl ?_
     exact ⟨_, rfl, k _ hc⟩
 · replace hp := gpos hp (of_decide_eq_true hb9)
   refine r0 rfl ?_
   refine r0 rfl ?_
   refine rs (v := .bool true) (pkt (v := .bool true) rfl rfl) rfl ?_
   refine rn ?_
   refine qn ?_
   refine Wct rfl ?_
   refine Wseq ?_
   refine Wreg ?_
   refine rs (v := .int .i64 160) (av (v := .int .i64 160) rfl) rfl ?_
   refine rn ?_
   refine qn ?_
   refine Wret ?_
   refine qr ?_
   replace hc := hc.pull 2 rfl rfl
   replace hc := hc.pull 2 rfl rfl
   replace hc := hc.pull 2 rfl rfl
   replace hc : Ctx w (S_ref16_Link.hp b0 x0 :: Fr) := Ctx.exB _ _ (Ctx.exB _ _ (Ctx.sepB (Ctx.sepB hc)))
   injection hp with hp; subst hp
   refine f1 (v := .int .i64 160) Try.results24 Try.ntmps24 rfl ?_
   exact ⟨_, rfl, k _ hc⟩

-- FN peloton/pelotonlaw16.bodies
def law16_bodies.L1 (x0 : (List (List Int))) (x1 : (List (List Int))) : Nat → Int → Option (Bool)
  | 0, _ => none
  | m1 + 1, j2 =>
    if j2 < ((x0.length : Nat) : Int) then
      (idx x0 j2).bind fun y6 =>
      (idx x1 j2).bind fun y18 =>
      if ¬ (strOfNums y6) = (strOfNums y18) then
        some false
      else
        (law16_bodies.L1 x0 x1 m1) (IntKind.i64.wrap (j2 + 1))
    else
      some true

def law16_bodies (N : Nat) (x0 : (List (List Int))) (x1 : (List (List Int))) : Option (Bool) :=
  if ((x0.length : Nat) : Int) ≠ ((x1.length : Nat) : Int) then
    some false
  else
    law16_bodies.L1 x0 x1 N 0

set_option maxHeartbeats 8000000 in
theorem law16_bodies_any {N : Nat} {x0 : (List (List Int))} {ax0 : Option Addr} {nx0 : Nat} {qx0 : Nat} {P0 : HP} {x1 : (List (List Int))} {ax1 : Option Addr} {nx1 : Nat} {qx1 : Nat} {P1 : HP} {Fr : List HP} {w : World} {r : Bool} {K : Value → World → Prop} (hrd0 : Reads P0 (pRo (pInt .u8)) (.slice ax0 nx0 qx0) x0) (hrd1 : Reads P1 (pRo (pInt .u8)) (.slice ax1 nx1 qx1) x1) (hc : Ctx w (P0 :: P1 :: Fr)) (hp : law16_bodies N x0 x1 = some r)
    (k : ∀ w', Ctx w' (P0 :: P1 :: Fr) → K (.bool r) w') : Calls Try.prog 22 #[.slice ax0 nx0 qx0, .slice ax1 nx1 qx1] w (Ret K) := by
 unfold law16_bodies at hp
 refine Center (args := [.slice ax0 nx0 qx0, .slice ax1 nx1 qx1]) (l := [(0, .slice ax0 nx0 qx0), (1, .slice ax1 nx1 qx1)]) Try.func22 Try.ntmps22 rfl rfl rfl ?_
 obtain ⟨hn0, _⟩ := Ctx.rdLen hc (k := 0) rfl rfl hrd0; subst hn0
 obtain ⟨hn1, _⟩ := Ctx.rdLen hc (k := 1) rfl rfl hrd1; subst hn1
 refine Wseq ?_
 refine Wreg ?_
 refine rs (v := .bool false) (av (v := .bool false) rfl) rfl ?_
 refine rn ?_
 refine qn ?_
 refine Wseq ?_
 refine Wseq ?_
 refine Wreg ?_
 refine rs (v := .slice ax0 x0.length qx0) (mv (v := .slice ax0 x0.length qx0) rfl) rfl ?_
 refine rs (v := .int .i64 ((x0.length : Nat) : Int)) (ln rfl Try.underlying51) rfl ?_
 refine rs (v := .slice ax1 x1.length qx1) (mv (v := .slice ax1 x1.length qx1) rfl) rfl ?_
 refine rs (v := .int .i64 ((x1.length : Nat) : Int)) (ln rfl Try.underlying51) rfl ?_
 refine rs (v := .bool (decide (((x0.length : Nat) : Int) ≠ ((x1.length : Nat) : Int)))) (ned rfl rfl) rfl ?_
 refine rn ?_
 refine qn ?_
 cases hb1 : (decide (((x0.length : Nat) : Int) ≠ ((x1.length : Nat) : Int)))
 · replace hp := gneg hp (of_decide_eq_false hb1)
   refine Wcf rfl ?_
   refine Wskip ?_
   refine qn ?_
   refine Wseq ?_
   refine Wseq ?_
   refine Wreg ?_
   refine rs (v := .int .i64 0) (av (v := .int .i64 0) rfl) rfl ?_
   refine rn ?_
   refine qn ?_
   refine Wblk ?_
   refine Wloop [4, 5, 11, 12, 13, 14, 15, 16, 17, 18, 19, 20, 21, 22, 23, 24, 25, 26, 27] [5] (fun m vs w' => ∃ j2 : Int, vs = [.int .i64 j2] ∧ law16_bodies.L1 x0 x1 m j2 = some r ∧ Ctx w' (P0 :: P1 :: Fr)) N ?_ ?_
   · exact ⟨0, rfl, hp, hc⟩
   · clear hp hc; intro m vs u w3 hJ
     obtain ⟨j2, rfl, hp, hc⟩ := hJ
     rcases m with _ | m1
     · cases (show none = some r from hp)
     rw [law16_bodies.L1] at hp
     refine Wseq ?_
     refine Wseq ?_
     refine Wreg ?_
     refine rs (v := .int .i64 j2) (mv (v := .int .i64 j2) rfl) rfl ?_
     refine rs (v := .slice ax0 x0.length qx0) (mv (v := .slice ax0 x0.length qx0) rfl) rfl ?_
     refine rs (v := .int .i64 ((x0.length : Nat) : Int)) (ln rfl Try.underlying51) rfl ?_
     refine rs (v := .bool (decide (j2 < ((x0.length : Nat) : Int)))) (lt' rfl rfl) rfl ?_
     refine rn ?_
     refine qn ?_
     cases hb4 : (decide (j2 < ((x0.length : Nat) : Int)))
     · replace hp := gneg hp (of_decide_eq_false hb4)
       refine Wcf rfl ?_
       refine Wexit ?_
       refine qx ?_
       refine qx ?_
       refine be ?_
       refine qn ?_
       refine Wseq ?_
       refine Wreg ?_
       refine rs (v := .bool true) (av (v := .bool true) rfl) rfl ?_
       refine rn ?_
       refine qn ?_
       refine Wret ?_
       injection hp with hp; subst hp
       refine f1 (v := .bool true) Try.results22 Try.ntmps22 rfl ?_
       exact ⟨_, rfl, k _ hc⟩
     · replace hp := gpos hp (of_decide_eq_true hb4)
       refine Wct rfl ?_
       refine Wskip ?_
       refine qn ?_
       refine Wseq ?_
       refine Wblk ?_
       refine Wseq ?_
       replace hc := hc.drew
       refine Wdrw (fun _ w' => w' = World.drew w3) [0, 0, 3, 7, 15, 0, 0, 96, 224, 480, 1023] 0 0 rfl (by kernel_rfl) (fun _ _ => rfl) ?_
       generalize hw : World.drew w3 = w5 at *
       clear hw
       refine ds (v := .slice ax0 x0.length qx0) rfl (fun w' hF => by subst hF; exact mv (v := .slice ax0 x0.length qx0) rfl) rfl ?_
       refine ds (v := .int .i64 j2) rfl (fun w' hF => by subst hF; exact mv (v := .int .i64 j2) rfl) rfl ?_
       replace hp := bind_some hp; obtain ⟨y6, hy6, hp⟩ := hp
       obtain ⟨b9, o10, u11, hi7, hi8⟩ := Ctx.rdAt hc (k := 0) rfl rfl hrd0 hy6
       subst u11
       refine ds (v := .pointer (some ⟨b9, o10 + (j2).toNat * 1, none⟩)) rfl (fun w' hF => by subst hF; exact ixx rfl rfl Try.underlying51 Try.sizeOf38 hi7 hi8 rfl) rfl ?_
       replace hc := Ctx.rdCell hc (k := 0) rfl rfl hrd0 hy6; obtain ⟨cs12, hc, hcell13⟩ := hc
       replace hc := Ctx.holdRo hc; obtain ⟨v17, u14, hc⟩ := hc; subst u14
       obtain ⟨a15, q16, u14⟩ := hc.rd (k := 0) rfl rfl reads_ro; subst u14
       refine ds (v := .slice a15 y6.length q16) rfl (fun w' hF => by subst hF; exact ld rfl Try.isAgg38 (hcell13 0 _ rfl)) rfl ?_
       refine ds (v := .string (strOfNums y6)) rfl (fun w' hF => by subst hF; exact Ctx.b2s hc (k := 0) rfl rfl reads_ro rfl Try.underlying38 Try.underlying5 Try.underlying9) rfl ?_
       refine ds (v := .slice ax1 x1.length qx1) rfl (fun w' hF => by subst hF; exact mv (v := .slice ax1 x1.length qx1) rfl) rfl ?_
       refine ds (v := .int .i64 j2) rfl (fun w' hF => by subst hF; exact mv (v := .int .i64 j2) rfl) rfl ?_
       replace hp := bind_some hp; obtain ⟨y18, hy18, hp⟩ := hp
       obtain ⟨b21, o22, u23, hi19, hi20⟩ := Ctx.rdAt hc (k := 2) rfl rfl hrd1 hy18
       subst u23
       refine ds (v := .pointer (some ⟨b21, o22 + (j2).toNat * 1, none⟩)) rfl (fun w' hF => by subst hF; exact ixx rfl rfl Try.underlying51 Try.sizeOf38 hi19 hi20 rfl) rfl ?_
       replace hc := Ctx.rdCell hc (k := 2) rfl rfl hrd1 hy18; obtain ⟨cs24, hc, hcell25⟩ := hc
       replace hc := Ctx.holdRo hc; obtain ⟨v29, u26, hc⟩ := hc; subst u26
       obtain ⟨a27, q28, u26⟩ := hc.rd (k := 0) rfl rfl reads_ro; subst u26
       refine ds (v := .slice a27 y18.length q28) rfl (fun w' hF => by subst hF; exact ld rfl Try.isAgg38 (hcell25 0 _ rfl)) rfl ?_
       refine ds (v := .string (strOfNums y18)) rfl (fun w' hF => by subst hF; exact Ctx.b2s hc (k := 0) rfl rfl reads_ro rfl Try.underlying38 Try.underlying5 Try.underlying9) rfl ?_
       refine ds (v := .bool (decide (¬ (strOfNums y6) = (strOfNums y18)))) rfl (fun w' hF => by subst hF; exact nestr rfl rfl) rfl ?_
       refine dn ?_
       refine qn ?_
       cases hb30 : (decide (¬ (strOfNums y6) = (strOfNums y18)))
       · replace hp := gneg hp (of_decide_eq_false hb30)
         refine Wcf rfl ?_
         refine Wskip ?_
         refine bn ?_
         refine qn ?_
         refine Wreg ?_
         refine rs (v := .int .i64 j2) (mv (v := .int .i64 j2) rfl) rfl ?_
         refine rs (v := .int .i64 (IntKind.i64.wrap (j2 + 1))) (adw rfl rfl) rfl ?_
         refine rs (v := .int .i64 (IntKind.i64.wrap (j2 + 1))) (av (v := .int .i64 (IntKind.i64.wrap (j2 + 1))) rfl) rfl ?_
         refine rn ?_
         refine qn ?_
         replace hc := hc.rem 1 rfl rfl
         replace hc := hc.rem 0 rfl rfl
         exact ⟨m1, Nat.lt_succ_self _, ⟨(IntKind.i64.wrap (j2 + 1)), rfl, hp, hc⟩, (kl rfl k0)⟩
       · replace hp := gpos hp (of_decide_eq_true hb30)
         refine Wct rfl ?_
         refine Wseq ?_
         refine Wreg ?_
         refine rs (v := .bool false) (av (v := .bool false) rfl) rfl ?_
         refine rn ?_
         refine qn ?_
         refine Wret ?_
         refine br ?_
         refine qr ?_
         refine qr ?_
         refine br ?_
         refine qr ?_
         replace hc := hc.rem 1 rfl rfl
         replace hc := hc.rem 0 rfl rfl
         injection hp with hp; subst hp
         refine f1 (v := .bool false) Try.results22 Try.ntmps22 rfl ?_
         exact ⟨_, rfl, k _ hc⟩
 · replace hp := gpos hp (of_decide_eq_true hb1)
   refine Wct rfl ?_
   refine Wseq ?_
   refine Wreg ?_
   refine rs (v := .bool false) (av (v := .bool false) rfl) rfl ?_
   refine rn ?_
   refine qn ?_
   refine Wret ?_
   refine qr ?_
   injection hp with hp; subst hp
   refine f1 (v := .bool false) Try.results22 Try.ntmps22 rfl ?_
   exact ⟨_, rfl, k _ hc⟩

-- FN (peloton/pelotonlaw16.Act).small
def law16_Act_small.L1 (x0 : S_law16_Act) : Nat → Int → Option (Bool)
  | 0, _ => none
  | m1 + 1, j14 =>
    if j14 < ((x0.Bodies.length : Nat) : Int) then
      (idx x0.Bodies j14).bind fun y17 =>
      if ((y17.length : Nat) : Int) > 500 then
        some false
      else
        (law16_Act_small.L1 x0 m1) (IntKind.i64.wrap (j14 + 1))
    else
      some true

def law16_Act_small (N : Nat) (x0 : S_law16_Act) : Option (Bool) :=
  if ((x0.Bodies.length : Nat) : Int) > 20 then
    some false
  else
    if ((x0.S.Body.length : Nat) : Int) > 500 then
      some false
    else
      law16_Act_small.L1 x0 N 0

set_option maxHeartbeats 8000000 in
theorem law16_Act_small_any {N : Nat} {x0 : S_law16_Act} {a1 : Option Addr} {n2 : Nat} {q3 : Nat} {a4 : Option Addr} {n5 : Nat} {q6 : Nat} {Fr : List HP} {w : World} {r : Bool} {K : Value → World → Prop}  (hc : Ctx w (Hold (pRo (pRo (pInt .u8))) [.slice a1 n2 q3] x0.Bodies :: Hold (pRo (pInt .u8)) [.slice a4 n5 q6] x0.S.Body :: Fr)) (hp : law16_Act_small N x0 = some r)
    (k : ∀ w', Ctx w' (Fr) → K (.bool r) w') : Calls Try.prog 17 #[.agg #[.int .i64 x0.Kind, .int .i64 x0.N, .slice a1 n2 q3, .int .i64 x0.S.Epoch, .int .i64 x0.S.Seq, .int .i64 x0.S.Ack, .slice a4 n5 q6]] w (Ret K) := by
 unfold law16_Act_small at hp
 refine Center (args := [.agg #[.int .i64 x0.Kind, .int .i64 x0.N, .slice a1 n2 q3, .int .i64 x0.S.Epoch, .int .i64 x0.S.Seq, .int .i64 x0.S.Ack, .slice a4 n5 q6]]) (l := [(0, .agg #[.int .i64 x0.Kind, .int .i64 x0.N, .slice a1 n2 q3, .int .i64 x0.S.Epoch, .int .i64 x0.S.Seq, .int .i64 x0.S.Ack, .slice a4 n5 q6])]) Try.func17 Try.ntmps17 rfl rfl rfl ?_
 obtain ⟨u7, _⟩ := Ctx.rdLen hc (k := 0) rfl rfl reads_ro; subst u7
 obtain ⟨u8, _⟩ := Ctx.rdLen hc (k := 1) rfl rfl reads_ro; subst u8
 refine Wseq ?_
 refine Wreg ?_
 refine rsE (Ctx.boxOp (cs := [.int .i64 x0.Kind, .int .i64 x0.N, .slice a1 x0.Bodies.length q3, .int .i64 x0.S.Epoch, .int .i64 x0.S.Seq, .int .i64 x0.S.Ack, .slice a4 x0.S.Body.length q6]) (v := .agg #[.int .i64 x0.Kind, .int .i64 x0.N, .slice a1 x0.Bodies.length q3, .int .i64 x0.S.Epoch, .int .i64 x0.S.Seq, .int .i64 x0.S.Ack, .slice a4 x0.S.Body.length q6]) hc rfl rfl) rfl ?_
 clear hc; rintro _ w11 ⟨b9, rfl, hc⟩
 refine rs (v := .bool false) (av (v := .bool false) rfl) rfl ?_
 refine rn ?_
 refine qn ?_
 refine Wseq ?_
 refine Wseq ?_
 refine Wreg ?_
 refine rs (v := .pointer (some ⟨b9, 2, none⟩)) (fax 2 rfl Try.underlying63 rfl Try.sizeOf51 rfl rfl rfl) rfl ?_
 refine rs (v := .slice a1 x0.Bodies.length q3) (ld rfl Try.isAgg51 (Ctx.cell hc (k := 0) rfl rfl rfl)) rfl ?_
 refine rs (v := .int .i64 ((x0.Bodies.length : Nat) : Int)) (ln rfl Try.underlying51) rfl ?_
 refine rs (v := .bool (decide (((x0.Bodies.length : Nat) : Int) > 20))) (gt' rfl rfl) rfl ?_
 refine rs (v := .bool (decide (((x0.Bodies.length : Nat) : Int) > 20))) (mv (v := .bool (decide (((x0.Bodies.length : Nat) : Int) > 20))) rfl) rfl ?_
 cases hb12 : (decide (((x0.Bodies.length : Nat) : Int) > 20))
 · replace hp := gneg hp (of_decide_eq_false hb12)
   refine rs (v := .pointer (some ⟨b9, 3, none⟩)) (fax 3 rfl Try.underlying63 rfl Try.sizeOf46 rfl rfl rfl) rfl ?_
   refine rs (v := .pointer (some ⟨b9, 6, none⟩)) (fax 3 rfl Try.underlying46 rfl Try.sizeOf38 rfl rfl rfl) rfl ?_
   refine rs (v := .slice a4 x0.S.Body.length q6) (ld rfl Try.isAgg38 (Ctx.cell hc (k := 0) rfl rfl rfl)) rfl ?_
   refine rs (v := .int .i64 ((x0.S.Body.length : Nat) : Int)) (ln rfl Try.underlying38) rfl ?_
   refine rs (v := .bool (decide (((x0.S.Body.length : Nat) : Int) > 500))) (gt' rfl rfl) rfl ?_
   refine rs (v := .bool (decide (((x0.S.Body.length : Nat) : Int) > 500))) (pkf (v := .bool (decide (((x0.S.Body.length : Nat) : Int) > 500))) rfl rfl) rfl ?_
   refine rn ?_
   refine qn ?_
   cases hb13 : (decide (((x0.S.Body.length : Nat) : Int) > 500))
   · replace hp := gneg hp (of_decide_eq_false hb13)
     refine Wcf rfl ?_
     refine Wskip ?_
     refine qn ?_
     refine Wseq ?_
     refine Wseq ?_
     refine Wreg ?_
     refine rs (v := .int .i64 0) (av (v := .int .i64 0) rfl) rfl ?_
     refine rn ?_
     refine qn ?_
     refine Wblk ?_
     refine Wloop [2, 3, 15, 16, 17, 18, 19, 20, 21, 22, 23, 24, 25, 26, 27, 28] [3] (fun m vs w' => ∃ j14 : Int, vs = [.int .i64 j14] ∧ law16_Act_small.L1 x0 m j14 = some r ∧ Ctx w' (B b9 [.int .i64 x0.Kind, .int .i64 x0.N, .slice a1 x0.Bodies.length q3, .int .i64 x0.S.Epoch, .int .i64 x0.S.Seq, .int .i64 x0.S.Ack, .slice a4 x0.S.Body.length q6] 63 :: Hold (pRo (pRo (pInt .u8))) [.slice a1 x0.Bodies.length q3] x0.Bodies :: Hold (pRo (pInt .u8)) [.slice a4 x0.S.Body.length q6] x0.S.Body :: Fr)) N ?_ ?_
     · exact ⟨0, rfl, hp, hc⟩
     · clear hp hc; intro m vs u w15 hJ
       obtain ⟨j14, rfl, hp, hc⟩ := hJ
       rcases m with _ | m1
       · cases (show none = some r from hp)
       rw [law16_Act_small.L1] at hp
       refine Wseq ?_
       refine Wseq ?_
       refine Wreg ?_
       refine rs (v := .int .i64 j14) (mv (v := .int .i64 j14) rfl) rfl ?_
       refine rs (v := .pointer (some ⟨b9, 2, none⟩)) (fax 2 rfl Try.underlying63 rfl Try.sizeOf51 rfl rfl rfl) rfl ?_
       refine rs (v := .slice a1 x0.Bodies.length q3) (ld rfl Try.isAgg51 (Ctx.cell hc (k := 0) rfl rfl rfl)) rfl ?_
       refine rs (v := .int .i64 ((x0.Bodies.length : Nat) : Int)) (ln rfl Try.underlying51) rfl ?_
       refine rs (v := .bool (decide (j14 < ((x0.Bodies.length : Nat) : Int)))) (lt' rfl rfl) rfl ?_
       refine rn ?_
       refine qn ?_
       cases hb16 : (decide (j14 < ((x0.Bodies.length : Nat) : Int)))
       · replace hp := gneg hp (of_decide_eq_false hb16)
         refine Wcf rfl ?_
         refine Wexit ?_
         refine qx ?_
         refine qx ?_
         refine be ?_
         refine qn ?_
         refine Wseq ?_
         refine Wreg ?_
         refine rs (v := .bool true) (av (v := .bool true) rfl) rfl ?_
         refine rn ?_
         refine qn ?_
         refine Wret ?_
         replace hc := hc.rem 2 rfl rfl
         replace hc := hc.rem 1 rfl rfl
         replace hc := hc.rem 0 rfl rfl
         injection hp with hp; subst hp
         refine f1 (v := .bool true) Try.results17 Try.ntmps17 rfl ?_
         exact ⟨_, rfl, k _ hc⟩
       · replace hp := gpos hp (of_decide_eq_true hb16)
         refine Wct rfl ?_
         refine Wskip ?_
         refine qn ?_
         refine Wseq ?_
         refine Wblk ?_
         refine Wseq ?_
         refine Wreg ?_
         refine rs (v := .pointer (some ⟨b9, 2, none⟩)) (fax 2 rfl Try.underlying63 rfl Try.sizeOf51 rfl rfl rfl) rfl ?_
         refine rs (v := .slice a1 x0.Bodies.length q3) (ld rfl Try.isAgg51 (Ctx.cell hc (k := 0) rfl rfl rfl)) rfl ?_
         refine rs (v := .int .i64 j14) (mv (v := .int .i64 j14) rfl) rfl ?_
         replace hp := bind_some hp; obtain ⟨y17, hy17, hp⟩ := hp
         obtain ⟨b20, o21, u22, hi18, hi19⟩ := Ctx.rdAt hc (k := 1) rfl rfl reads_ro hy17
         subst u22
         refine rs (v := .pointer (some ⟨b20, o21 + (j14).toNat * 1, none⟩)) (ixx rfl rfl Try.underlying51 Try.sizeOf38 hi18 hi19 rfl) rfl ?_
         replace hc := Ctx.rdCell hc (k := 1) rfl rfl reads_ro hy17; obtain ⟨cs23, hc, hcell24⟩ := hc
         replace hc := Ctx.holdRo hc; obtain ⟨v28, u25, hc⟩ := hc; subst u25
         obtain ⟨a26, q27, u25⟩ := hc.rd (k := 0) rfl rfl reads_ro; subst u25
         refine rs (v := .slice a26 y17.length q27) (ld rfl Try.isAgg38 (hcell24 0 _ rfl)) rfl ?_
         refine rs (v := .int .i64 ((y17.length : Nat) : Int)) (ln rfl Try.underlying38) rfl ?_
         refine rs (v := .bool (decide (((y17.length : Nat) : Int) > 500))) (gt' rfl rfl) rfl ?_
         refine rn ?_
         refine qn ?_
         cases hb29 : (decide (((y17.length : Nat) : Int) > 500))
         · replace hp := gneg hp (of_decide_eq_false hb29)
           refine Wcf rfl ?_
           refine Wskip ?_
           refine bn ?_
           refine qn ?_
           refine Wreg ?_
           refine rs (v := .int .i64 j14) (mv (v := .int .i64 j14) rfl) rfl ?_
           refine rs (v := .int .i64 (IntKind.i64.wrap (j14 + 1))) (adw rfl rfl) rfl ?_
           refine rs (v := .int .i64 (IntKind.i64.wrap (j14 + 1))) (av (v := .int .i64 (IntKind.i64.wrap (j14 + 1))) rfl) rfl ?_
           refine rn ?_
           refine qn ?_
           replace hc := hc.rem 0 rfl rfl
           exact ⟨m1, Nat.lt_succ_self _, ⟨(IntKind.i64.wrap (j14 + 1)), rfl, hp, hc⟩, (kl rfl k0)⟩
         · replace hp := gpos hp (of_decide_eq_true hb29)
           refine Wct rfl ?_
           refine Wseq ?_
           refine Wreg ?_
           refine rs (v := .bool false) (av (v := .bool false) rfl) rfl ?_
           refine rn ?_
           refine qn ?_
           refine Wret ?_
           refine br ?_
           refine qr ?_
           refine qr ?_
           refine br ?_
           refine qr ?_
           replace hc := hc.rem 3 rfl rfl
           replace hc := hc.rem 2 rfl rfl
           replace hc := hc.rem 1 rfl rfl
           replace hc := hc.rem 0 rfl rfl
           injection hp with hp; subst hp
           refine f1 (v := .bool false) Try.results17 Try.ntmps17 rfl ?_
           exact ⟨_, rfl, k _ hc⟩
   · replace hp := gpos hp (of_decide_eq_true hb13)
     refine Wct rfl ?_
     refine Wseq ?_
     refine Wreg ?_
     refine rs (v := .bool false) (av (v := .bool false) rfl) rfl ?_
     refine rn ?_
     refine qn ?_
     refine Wret ?_
     refine qr ?_
     replace hc := hc.rem 2 rfl rfl
     replace hc := hc.rem 1 rfl rfl
     replace hc := hc.rem 0 rfl rfl
     injection hp with hp; subst hp
     refine f1 (v := .bool false) Try.results17 Try.ntmps17 rfl ?_
     exact ⟨_, rfl, k _ hc⟩
 · replace hp := gpos hp (of_decide_eq_true hb12)
   refine r0 rfl ?_
   refine r0 rfl ?_
   refine r0 rfl ?_
   refine r0 rfl ?_
   refine r0 rfl ?_
   refine rs (v := .bool true) (pkt (v := .bool true) rfl rfl) rfl ?_
   refine rn ?_
   refine qn ?_
   refine Wct rfl ?_
   refine Wseq ?_
   refine Wreg ?_
   refine rs (v := .bool false) (av (v := .bool false) rfl) rfl ?_
   refine rn ?_
   refine qn ?_
   refine Wret ?_
   refine qr ?_
   replace hc := hc.rem 2 rfl rfl
   replace hc := hc.rem 1 rfl rfl
   replace hc := hc.rem 0 rfl rfl
   injection hp with hp; subst hp
   refine f1 (v := .bool false) Try.results17 Try.ntmps17 rfl ?_
   exact ⟨_, rfl, k _ hc⟩

-- FN peloton/pelotonlaw16.awake
theorem bd_46_2 {ρ : Operand → Value} {w : World} {dst : Option Nat} {ty : TypeId} {pos : String} {after : Array Edge} {g : Option (Nat × Bool)} {x2 : Operand} {k2 : IntKind} {a2 : Int} (h2 : ρ x2 = (.int k2 a2)) :
    (execOp ρ ⟨dst, .build 46 #[(2, x2)], ty, pos, after, g⟩).run Try.prog w = .ok (.value (.agg #[(.int .i64 0), (.int .i64 0), (.int k2 a2), (.slice none 0 0)])) w := by
  simp [execOp, Instr.build, Instr.fill, Try.zeroValue46, Try.runUnderlying46, Try.sizeOf3, Try.sizeOf38, h2, Value.cells]

def law16_awake (N : Nat) : Option (Bool) :=
  (link_New 2 3 9).bind fun r1 =>
  optc r1.1 (
    some false) fun y5 =>
  if r1.2 ≠ 0 then
    some false
  else
    (link_Link_Send N y5 ([[97], [98], [99]])).bind fun r21 =>
    if r21.1 ≠ 0 then
      some false
    else
      (link_Link_Tick N r21.2).bind fun r24 =>
      (link_Link_Tick N r24.2).bind fun r30 =>
      (link_Link_Tick N r30.2).bind fun r36 =>
      (link_Link_Tick N r36.2).bind fun r42 =>
      (link_Link_Hear N r42.2 (⟨0, 0, 1, []⟩ : S_api_Seg)).bind fun r48 =>
      (link_Link_Tick N r48.2.2).bind fun r54 =>
      if ((r24.1.length : Nat) : Int) = 2 then
        if (IntKind.i64.wrap (((r30.1.length : Nat) : Int) + ((r36.1.length : Nat) : Int))) = 0 then
          if ((r42.1.length : Nat) : Int) = 2 then
            (idx r42.1 (1 : Int)).bind fun y63 =>
            if y63.Seq = 2 then
              (idx r42.1 (1 : Int)).bind fun y75 =>
              if (strOfNums y75.Body) = (ByteArray.mk #[98]) then
                if r48.2.1 = 0 then
                  if ((r54.1.length : Nat) : Int) = 1 then
                    (idx r54.1 (0 : Int)).bind fun y89 =>
                    some (decide (y89.Seq = 3))
                  else
                    some false
                else
                  some false
              else
                some false
            else
              some false
          else
            some false
        else
          some false
      else
        some false

set_option maxHeartbeats 8000000 in
theorem law16_awake_any {N : Nat} {Fr : List HP} {w : World} {r : Bool} {K : Value → World → Prop}  (hc : Ctx w (Fr)) (hp : law16_awake N = some r)
    (k : ∀ w', Ctx w' (Fr) → K (.bool r) w') : Calls Try.prog 7 #[] w (Ret K) := by
 unfold law16_awake at hp
 refine Center (args := []) (l := []) Try.func7 Try.ntmps7 rfl rfl rfl ?_
 refine Wseq ?_
 refine Wreg ?_
 refine rs (v := .bool false) (av (v := .bool false) rfl) rfl ?_
 refine rn ?_
 refine qn ?_
 refine Wseq ?_
 refine Wreg ?_
 replace hp := bind_some hp; obtain ⟨r1, hr1, hp⟩ := hp
 refine rc (cl Try.call8 rfl rfl) rfl ?_
 refine link_New_any hc hr1 ?_
 clear hc; intro v2 w3 hc
 refine rs (v := .tuple #[v2, .int .i64 r1.2]) (mv (v := .tuple #[v2, .int .i64 r1.2]) rfl) rfl ?_
 refine rs (v := v2) (ext (v := v2) rfl rfl) rfl ?_
 refine rs (v := .int .i64 r1.2) (ext (v := .int .i64 r1.2) rfl rfl) rfl ?_
 refine rs (v := v2) (av (v := v2) rfl) rfl ?_
 refine rs (v := .int .i64 r1.2) (av (v := .int .i64 r1.2) rfl) rfl ?_
 refine rn ?_
 refine qn ?_
 refine Wseq ?_
 refine Wseq ?_
 refine Wreg ?_
 refine rs (v := v2) (mv (v := v2) rfl) rfl ?_
 cases hb4 : r1.1
 · replace hp := optN hp hb4
   rw [hb4] at hc
   replace hc := Ctx.ptoN hc; obtain ⟨u6, hc⟩ := hc; subst u6
   refine rs (v := .bool true) (ept Try.underlying27 rfl rfl) rfl ?_
   refine rs (v := .bool true) (mv (v := .bool true) rfl) rfl ?_
   refine r0 rfl ?_
   refine r0 rfl ?_
   refine rs (v := .bool true) (pkt (v := .bool true) rfl rfl) rfl ?_
   refine rs (v := .bool true) (mv (v := .bool true) rfl) rfl ?_
   refine r0 rfl ?_
   refine r0 rfl ?_
   refine r0 rfl ?_
   refine r0 rfl ?_
   refine r0 rfl ?_
   refine r0 rfl ?_
   refine r0 rfl ?_
   refine r0 rfl ?_
   refine r0 rfl ?_
   refine r0 rfl ?_
   refine rs (v := .bool true) (pkt (v := .bool true) rfl rfl) rfl ?_
   refine rn ?_
   refine qn ?_
   refine Wct rfl ?_
   refine Wseq ?_
   refine Wreg ?_
   refine rs (v := .bool false) (av (v := .bool false) rfl) rfl ?_
   refine rn ?_
   refine qn ?_
   refine Wret ?_
   refine qr ?_
   injection hp with hp; subst hp
   refine f1 (v := .bool false) Try.results7 Try.ntmps7 rfl ?_
   exact ⟨_, rfl, k _ hc⟩
 · rename_i y5
   replace hp := optS hp hb4
   rw [hb4] at hc
   replace hc := Ctx.ptoS hc; obtain ⟨b7, u8, hc⟩ := hc; subst u8
   refine rs (v := .bool false) (epf Try.underlying27 rfl rfl) rfl ?_
   refine rs (v := .bool false) (mv (v := .bool false) rfl) rfl ?_
   refine rs (v := .int .i64 r1.2) (mv (v := .int .i64 r1.2) rfl) rfl ?_
   refine rs (v := .bool (decide (r1.2 ≠ 0))) (ned rfl rfl) rfl ?_
   refine rs (v := .bool (decide (r1.2 ≠ 0))) (pkf (v := .bool (decide (r1.2 ≠ 0))) rfl rfl) rfl ?_
   refine rs (v := .bool (decide (r1.2 ≠ 0))) (mv (v := .bool (decide (r1.2 ≠ 0))) rfl) rfl ?_
   cases hb9 : (decide (r1.2 ≠ 0))
   · replace hp := gneg hp (of_decide_eq_false hb9)
     refine rs (v := .pointer (some ⟨b7, 0, none⟩)) (mv (v := .pointer (some ⟨b7, 0, none⟩)) rfl) rfl ?_
     replace hc : Ctx w3 (Hold (pInt .u8) [.int .u8 97] 97 :: S_link_Link.hp b7 y5 :: Fr) := hc.add _ fun _ _ _ => ⟨rfl, rfl⟩
     refine rsE (Ctx.builtOp (css := [[.int .u8 97]]) (xs := ([97] : List Int)) (E := (pInt .u8)) hc Try.underlying38 Try.sizeOf5 Try.zeroValue5 rfl rfl rfl rfl rfl rfl rfl rfl) rfl ?_
     clear hc; rintro _ w11 ⟨a10, rfl, hc⟩
     refine rsE (Ctx.cvB hc rfl Try.underlying38 Try.underlying5 (by simp)) rfl ?_
     clear hc; rintro _ w12 ⟨rfl, hc⟩
     replace hc : Ctx w12 (Hold (pInt .u8) [.int .u8 98] 98 :: Hold (pRo (pInt .u8)) [.slice a10 1 1] ([97]) :: S_link_Link.hp b7 y5 :: Fr) := hc.add _ fun _ _ _ => ⟨rfl, rfl⟩
     refine rsE (Ctx.builtOp (css := [[.int .u8 98]]) (xs := ([98] : List Int)) (E := (pInt .u8)) hc Try.underlying38 Try.sizeOf5 Try.zeroValue5 rfl rfl rfl rfl rfl rfl rfl rfl) rfl ?_
     clear hc; rintro _ w14 ⟨a13, rfl, hc⟩
     refine rsE (Ctx.cvB hc rfl Try.underlying38 Try.underlying5 (by simp)) rfl ?_
     clear hc; rintro _ w15 ⟨rfl, hc⟩
     replace hc : Ctx w15 (Hold (pInt .u8) [.int .u8 99] 99 :: Hold (pRo (pInt .u8)) [.slice a13 1 1] ([98]) :: Hold (pRo (pInt .u8)) [.slice a10 1 1] ([97]) :: S_link_Link.hp b7 y5 :: Fr) := hc.add _ fun _ _ _ => ⟨rfl, rfl⟩
     refine rsE (Ctx.builtOp (css := [[.int .u8 99]]) (xs := ([99] : List Int)) (E := (pInt .u8)) hc Try.underlying38 Try.sizeOf5 Try.zeroValue5 rfl rfl rfl rfl rfl rfl rfl rfl) rfl ?_
     clear hc; rintro _ w17 ⟨a16, rfl, hc⟩
     refine rsE (Ctx.cvB hc rfl Try.underlying38 Try.underlying5 (by simp)) rfl ?_
     clear hc; rintro _ w18 ⟨rfl, hc⟩
     replace hc := hc.dup (k := 0) rfl rfl
     replace hc := hc.dup (k := 2) rfl rfl
     replace hc := hc.dup (k := 4) rfl rfl
     refine rsE (Ctx.builtOp (css := [[.slice a10 1 1], [.slice a13 1 1], [.slice a16 1 1]]) (xs := ([[97], [98], [99]] : List (List Int))) (E := (pRo (pInt .u8))) hc Try.underlying51 Try.sizeOf38 Try.zeroValue38 rfl rfl rfl rfl rfl rfl rfl rfl) rfl ?_
     clear hc; rintro _ w20 ⟨a19, rfl, hc⟩
     replace hp := bind_some hp; obtain ⟨r21, hr21, hp⟩ := hp
     replace hc := hc.pull 4 rfl rfl
     refine rc (cl Try.call13 rfl rfl) rfl ?_
     refine link_Link_Send_any reads_own hc hr21 ?_
     clear hc; intro w22 hc
     refine rs (v := .bool (decide (r21.1 ≠ 0))) (ned rfl rfl) rfl ?_
     refine rs (v := .bool (decide (r21.1 ≠ 0))) (pkf (v := .bool (decide (r21.1 ≠ 0))) rfl rfl) rfl ?_
     refine rn ?_
     refine qn ?_
     cases hb23 : (decide (r21.1 ≠ 0))
     · replace hp := gneg hp (of_decide_eq_false hb23)
       refine Wcf rfl ?_
       refine Wskip ?_
       refine qn ?_
       refine Wseq ?_
       refine Wreg ?_
       refine rs (v := .pointer (some ⟨b7, 0, none⟩)) (mv (v := .pointer (some ⟨b7, 0, none⟩)) rfl) rfl ?_
       replace hp := bind_some hp; obtain ⟨r24, hr24, hp⟩ := hp
       refine rc (cl Try.call14 rfl rfl) rfl ?_
       refine link_Link_Tick_any hc hr24 ?_
       clear hc; intro a25 n26 q27 w28 hc
       obtain ⟨u29, _⟩ := Ctx.rdLen hc (k := 0) rfl rfl reads_own; subst u29
       refine rs (v := .pointer (some ⟨b7, 0, none⟩)) (mv (v := .pointer (some ⟨b7, 0, none⟩)) rfl) rfl ?_
       replace hp := bind_some hp; obtain ⟨r30, hr30, hp⟩ := hp
       replace hc := hc.pull 1 rfl rfl
       refine rc (cl Try.call14 rfl rfl) rfl ?_
       refine link_Link_Tick_any hc hr30 ?_
       clear hc; intro a31 n32 q33 w34 hc
       obtain ⟨u35, _⟩ := Ctx.rdLen hc (k := 0) rfl rfl reads_own; subst u35
       refine rs (v := .pointer (some ⟨b7, 0, none⟩)) (mv (v := .pointer (some ⟨b7, 0, none⟩)) rfl) rfl ?_
       replace hp := bind_some hp; obtain ⟨r36, hr36, hp⟩ := hp
       replace hc := hc.pull 1 rfl rfl
       refine rc (cl Try.call14 rfl rfl) rfl ?_
       refine link_Link_Tick_any hc hr36 ?_
       clear hc; intro a37 n38 q39 w40 hc
       obtain ⟨u41, _⟩ := Ctx.rdLen hc (k := 0) rfl rfl reads_own; subst u41
       refine rs (v := .pointer (some ⟨b7, 0, none⟩)) (mv (v := .pointer (some ⟨b7, 0, none⟩)) rfl) rfl ?_
       replace hp := bind_some hp; obtain ⟨r42, hr42, hp⟩ := hp
       replace hc := hc.pull 1 rfl rfl
       refine rc (cl Try.call14 rfl rfl) rfl ?_
       refine link_Link_Tick_any hc hr42 ?_
       clear hc; intro a43 n44 q45 w46 hc
       obtain ⟨u47, _⟩ := Ctx.rdLen hc (k := 0) rfl rfl reads_own; subst u47
       refine rs (v := .slice a25 r24.1.length q27) (av (v := .slice a25 r24.1.length q27) rfl) rfl ?_
       refine rs (v := .slice a31 r30.1.length q33) (av (v := .slice a31 r30.1.length q33) rfl) rfl ?_
       refine rs (v := .slice a37 r36.1.length q39) (av (v := .slice a37 r36.1.length q39) rfl) rfl ?_
       refine rs (v := .slice a43 r42.1.length q45) (av (v := .slice a43 r42.1.length q45) rfl) rfl ?_
       refine rn ?_
       refine qn ?_
       refine Wseq ?_
       refine Wreg ?_
       refine rs (v := .pointer (some ⟨b7, 0, none⟩)) (mv (v := .pointer (some ⟨b7, 0, none⟩)) rfl) rfl ?_
       refine rs (v := .agg #[.int .i64 0, .int .i64 0, .int .i64 1, .slice none 0 0]) (bd_46_2 rfl) rfl ?_
       replace hc := hc.nilRo (pInt .u8)
       replace hc := hc.dup (k := 0) rfl rfl
       replace hp := bind_some hp; obtain ⟨r48, hr48, hp⟩ := hp
       replace hc := hc.pull 3 rfl rfl
       refine rc (cl Try.call15 rfl rfl) rfl ?_
       refine link_Link_Hear_any (x1 := (⟨0, 0, 1, []⟩ : S_api_Seg)) hc hr48 ?_
       clear hc; intro a49 n50 q51 w52 hc
       obtain ⟨u53, _⟩ := Ctx.rdLen hc (k := 0) rfl rfl reads_own; subst u53
       refine rs (v := .tuple #[.slice a49 r48.1.length q51, .int .i64 r48.2.1]) (mv (v := .tuple #[.slice a49 r48.1.length q51, .int .i64 r48.2.1]) rfl) rfl ?_
       refine rs (v := .slice a49 r48.1.length q51) (ext (v := .slice a49 r48.1.length q51) rfl rfl) rfl ?_
       refine rs (v := .int .i64 r48.2.1) (ext (v := .int .i64 r48.2.1) rfl rfl) rfl ?_
       refine rs (v := .slice a49 r48.1.length q51) (av (v := .slice a49 r48.1.length q51) rfl) rfl ?_
       refine rs (v := .int .i64 r48.2.1) (av (v := .int .i64 r48.2.1) rfl) rfl ?_
       refine rn ?_
       refine qn ?_
       refine Wseq ?_
       refine Wreg ?_
       refine rs (v := .pointer (some ⟨b7, 0, none⟩)) (mv (v := .pointer (some ⟨b7, 0, none⟩)) rfl) rfl ?_
       replace hp := bind_some hp; obtain ⟨r54, hr54, hp⟩ := hp
       replace hc := hc.pull 1 rfl rfl
       refine rc (cl Try.call14 rfl rfl) rfl ?_
       refine link_Link_Tick_any hc hr54 ?_
       clear hc; intro a55 n56 q57 w58 hc
       obtain ⟨u59, _⟩ := Ctx.rdLen hc (k := 0) rfl rfl reads_own; subst u59
       refine rs (v := .slice a55 r54.1.length q57) (av (v := .slice a55 r54.1.length q57) rfl) rfl ?_
       refine rn ?_
       refine qn ?_
       refine Wseq ?_
       refine Wreg ?_
       refine rs (v := .slice a25 r24.1.length q27) (mv (v := .slice a25 r24.1.length q27) rfl) rfl ?_
       refine rs (v := .int .i64 ((r24.1.length : Nat) : Int)) (ln rfl Try.underlying29) rfl ?_
       refine rs (v := .bool (decide (((r24.1.length : Nat) : Int) = 2))) (eqd rfl rfl) rfl ?_
       refine rs (v := .bool (decide (((r24.1.length : Nat) : Int) = 2))) (mv (v := .bool (decide (((r24.1.length : Nat) : Int) = 2))) rfl) rfl ?_
       cases hb60 : (decide (((r24.1.length : Nat) : Int) = 2))
       · replace hp := gneg hp (of_decide_eq_false hb60)
         refine r0 rfl ?_
         refine r0 rfl ?_
         refine r0 rfl ?_
         refine r0 rfl ?_
         refine r0 rfl ?_
         refine r0 rfl ?_
         refine rs (v := .bool false) (pkf (v := .bool false) rfl rfl) rfl ?_
         refine rs (v := .bool false) (mv (v := .bool false) rfl) rfl ?_
         refine r0 rfl ?_
         refine r0 rfl ?_
         refine r0 rfl ?_
         refine rs (v := .bool false) (pkf (v := .bool false) rfl rfl) rfl ?_
         refine rs (v := .bool false) (mv (v := .bool false) rfl) rfl ?_
         refine r0 rfl ?_
         refine r0 rfl ?_
         refine r0 rfl ?_
         refine r0 rfl ?_
         refine r0 rfl ?_
         refine rs (v := .bool false) (pkf (v := .bool false) rfl rfl) rfl ?_
         refine rs (v := .bool false) (mv (v := .bool false) rfl) rfl ?_
         refine r0 rfl ?_
         refine r0 rfl ?_
         refine r0 rfl ?_
         refine r0 rfl ?_
         refine r0 rfl ?_
         refine r0 rfl ?_
         refine rs (v := .bool false) (pkf (v := .bool false) rfl rfl) rfl ?_
         refine rs (v := .bool false) (mv (v := .bool false) rfl) rfl ?_
         refine r0 rfl ?_
         refine r0 rfl ?_
         refine rs (v := .bool false) (pkf (v := .bool false) rfl rfl) rfl ?_
         refine rs (v := .bool false) (mv (v := .bool false) rfl) rfl ?_
         refine r0 rfl ?_
         refine r0 rfl ?_
         refine r0 rfl ?_
         refine rs (v := .bool false) (pkf (v := .bool false) rfl rfl) rfl ?_
         refine rs (v := .bool false) (mv (v := .bool false) rfl) rfl ?_
         refine r0 rfl ?_
         refine r0 rfl ?_
         refine r0 rfl ?_
         refine r0 rfl ?_
         refine r0 rfl ?_
         refine rs (v := .bool false) (pkf (v := .bool false) rfl rfl) rfl ?_
         refine rs (v := .bool false) (av (v := .bool false) rfl) rfl ?_
         refine rn ?_
         refine qn ?_
         refine Wret ?_
         replace hc := hc.rem 11 rfl rfl
         replace hc := hc.rem 10 rfl rfl
         replace hc := hc.rem 9 rfl rfl
         replace hc := hc.rem 8 rfl rfl
         replace hc := hc.rem 7 rfl rfl
         replace hc := hc.rem 6 rfl rfl
         replace hc := hc.rem 5 rfl rfl
         replace hc := hc.rem 4 rfl rfl
         replace hc := hc.rem 3 rfl rfl
         replace hc := hc.rem 2 rfl rfl
         replace hc := hc.rem 1 rfl rfl
         replace hc := hc.rem 0 rfl rfl
         injection hp with hp; subst hp
         refine f1 (v := .bool false) Try.results7 Try.ntmps7 rfl ?_
         exact ⟨_, rfl, k _ hc⟩
       · replace hp := gpos hp (of_decide_eq_true hb60)
         refine rs (v := .slice a31 r30.1.length q33) (mv (v := .slice a31 r30.1.length q33) rfl) rfl ?_
         refine rs (v := .int .i64 ((r30.1.length : Nat) : Int)) (ln rfl Try.underlying29) rfl ?_
         refine rs (v := .slice a37 r36.1.length q39) (mv (v := .slice a37 r36.1.length q39) rfl) rfl ?_
         refine rs (v := .int .i64 ((r36.1.length : Nat) : Int)) (ln rfl Try.underlying29) rfl ?_
         refine rs (v := .int .i64 (IntKind.i64.wrap (((r30.1.length : Nat) : Int) + ((r36.1.length : Nat) : Int)))) (adw rfl rfl) rfl ?_
         refine rs (v := .bool (decide ((IntKind.i64.wrap (((r30.1.length : Nat) : Int) + ((r36.1.length : Nat) : Int))) = 0))) (eqd rfl rfl) rfl ?_
         refine rs (v := .bool (decide ((IntKind.i64.wrap (((r30.1.length : Nat) : Int) + ((r36.1.length : Nat) : Int))) = 0))) (pkt (v := .bool (decide ((IntKind.i64.wrap (((r30.1.length : Nat) : Int) + ((r36.1.length : Nat) : Int))) = 0))) rfl rfl) rfl ?_
         refine rs (v := .bool (decide ((IntKind.i64.wrap (((r30.1.length : Nat) : Int) + ((r36.1.length : Nat) : Int))) = 0))) (mv (v := .bool (decide ((IntKind.i64.wrap (((r30.1.length : Nat) : Int) + ((r36.1.length : Nat) : Int))) = 0))) rfl) rfl ?_
         cases hb61 : (decide ((IntKind.i64.wrap (((r30.1.length : Nat) : Int) + ((r36.1.length : Nat) : Int))) = 0))
         · replace hp := gneg hp (of_decide_eq_false hb61)
           refine r0 rfl ?_
           refine r0 rfl ?_
           refine r0 rfl ?_
           refine rs (v := .bool false) (pkf (v := .bool false) rfl rfl) rfl ?_
           refine rs (v := .bool false) (mv (v := .bool false) rfl) rfl ?_
           refine r0 rfl ?_
           refine r0 rfl ?_
           refine r0 rfl ?_
           refine r0 rfl ?_
           refine r0 rfl ?_
           refine rs (v := .bool false) (pkf (v := .bool false) rfl rfl) rfl ?_
           refine rs (v := .bool false) (mv (v := .bool false) rfl) rfl ?_
           refine r0 rfl ?_
           refine r0 rfl ?_
           refine r0 rfl ?_
           refine r0 rfl ?_
           refine r0 rfl ?_
           refine r0 rfl ?_
           refine rs (v := .bool false) (pkf (v := .bool false) rfl rfl) rfl ?_
           refine rs (v := .bool false) (mv (v := .bool false) rfl) rfl ?_
           refine r0 rfl ?_
           refine r0 rfl ?_
           refine rs (v := .bool false) (pkf (v := .bool false) rfl rfl) rfl ?_
           refine rs (v := .bool false) (mv (v := .bool false) rfl) rfl ?_
           refine r0 rfl ?_
           refine r0 rfl ?_
           refine r0 rfl ?_
           refine rs (v := .bool false) (pkf (v := .bool false) rfl rfl) rfl ?_
           refine rs (v := .bool false) (mv (v := .bool false) rfl) rfl ?_
           refine r0 rfl ?_
           refine r0 rfl ?_
           refine r0 rfl ?_
           refine r0 rfl ?_
           refine r0 rfl ?_
           refine rs (v := .bool false) (pkf (v := .bool false) rfl rfl) rfl ?_
           refine rs (v := .bool false) (av (v := .bool false) rfl) rfl ?_
           refine rn ?_
           refine qn ?_
           refine Wret ?_
           replace hc := hc.rem 11 rfl rfl
           replace hc := hc.rem 10 rfl rfl
           replace hc := hc.rem 9 rfl rfl
           replace hc := hc.rem 8 rfl rfl
           replace hc := hc.rem 7 rfl rfl
           replace hc := hc.rem 6 rfl rfl
           replace hc := hc.rem 5 rfl rfl
           replace hc := hc.rem 4 rfl rfl
           replace hc := hc.rem 3 rfl rfl
           replace hc := hc.rem 2 rfl rfl
           replace hc := hc.rem 1 rfl rfl
           replace hc := hc.rem 0 rfl rfl
           injection hp with hp; subst hp
           refine f1 (v := .bool false) Try.results7 Try.ntmps7 rfl ?_
           exact ⟨_, rfl, k _ hc⟩
         · replace hp := gpos hp (of_decide_eq_true hb61)
           refine rs (v := .slice a43 r42.1.length q45) (mv (v := .slice a43 r42.1.length q45) rfl) rfl ?_
           refine rs (v := .int .i64 ((r42.1.length : Nat) : Int)) (ln rfl Try.underlying29) rfl ?_
           refine rs (v := .bool (decide (((r42.1.length : Nat) : Int) = 2))) (eqd rfl rfl) rfl ?_
           refine rs (v := .bool (decide (((r42.1.length : Nat) : Int) = 2))) (pkt (v := .bool (decide (((r42.1.length : Nat) : Int) = 2))) rfl rfl) rfl ?_
           refine rs (v := .bool (decide (((r42.1.length : Nat) : Int) = 2))) (mv (v := .bool (decide (((r42.1.length : Nat) : Int) = 2))) rfl) rfl ?_
           cases hb62 : (decide (((r42.1.length : Nat) : Int) = 2))
           · replace hp := gneg hp (of_decide_eq_false hb62)
             refine r0 rfl ?_
             refine r0 rfl ?_
             refine r0 rfl ?_
             refine r0 rfl ?_
             refine r0 rfl ?_
             refine rs (v := .bool false) (pkf (v := .bool false) rfl rfl) rfl ?_
             refine rs (v := .bool false) (mv (v := .bool false) rfl) rfl ?_
             refine r0 rfl ?_
             refine r0 rfl ?_
             refine r0 rfl ?_
             refine r0 rfl ?_
             refine r0 rfl ?_
             refine r0 rfl ?_
             refine rs (v := .bool false) (pkf (v := .bool false) rfl rfl) rfl ?_
             refine rs (v := .bool false) (mv (v := .bool false) rfl) rfl ?_
             refine r0 rfl ?_
             refine r0 rfl ?_
             refine rs (v := .bool false) (pkf (v := .bool false) rfl rfl) rfl ?_
             refine rs (v := .bool false) (mv (v := .bool false) rfl) rfl ?_
             refine r0 rfl ?_
             refine r0 rfl ?_
             refine r0 rfl ?_
             refine rs (v := .bool false) (pkf (v := .bool false) rfl rfl) rfl ?_
             refine rs (v := .bool false) (mv (v := .bool false) rfl) rfl ?_
             refine r0 rfl ?_
             refine r0 rfl ?_
             refine r0 rfl ?_
             refine r0 rfl ?_
             refine r0 rfl ?_
             refine rs (v := .bool false) (pkf (v := .bool false) rfl rfl) rfl ?_
             refine rs (v := .bool false) (av (v := .bool false) rfl) rfl ?_
             refine rn ?_
             refine qn ?_
             refine Wret ?_
             replace hc := hc.rem 11 rfl rfl
             replace hc := hc.rem 10 rfl rfl
             replace hc := hc.rem 9 rfl rfl
             replace hc := hc.rem 8 rfl rfl
             replace hc := hc.rem 7 rfl rfl
             replace hc := hc.rem 6 rfl rfl
             replace hc := hc.rem 5 rfl rfl
             replace hc := hc.rem 4 rfl rfl
             replace hc := hc.rem 3 rfl rfl
             replace hc := hc.rem 2 rfl rfl
             replace hc := hc.rem 1 rfl rfl
             replace hc := hc.rem 0 rfl rfl
             injection hp with hp; subst hp
             refine f1 (v := .bool false) Try.results7 Try.ntmps7 rfl ?_
             exact ⟨_, rfl, k _ hc⟩
           · replace hp := gpos hp (of_decide_eq_true hb62)
             refine rs (v := .slice a43 r42.1.length q45) (mv (v := .slice a43 r42.1.length q45) rfl) rfl ?_
             replace hp := bind_some hp; obtain ⟨y63, hy63, hp⟩ := hp
             obtain ⟨b66, o67, u68, hi64, hi65⟩ := Ctx.rdAt hc (k := 4) rfl rfl reads_own hy63
             subst u68
             refine rs (v := .pointer (some ⟨b66, o67 + ((1 : Int)).toNat * 4, none⟩)) (ixx rfl rfl Try.underlying29 Try.sizeOf46 hi64 hi65 rfl) rfl ?_
             refine rs (v := .pointer (some ⟨b66, o67 + ((1 : Int)).toNat * 4 + 1, none⟩)) (fax 1 rfl Try.underlying46 rfl Try.sizeOf3 rfl rfl rfl) rfl ?_
             replace hc := Ctx.rdCell hc (k := 4) rfl rfl reads_own hy63; obtain ⟨cs69, hc, hcell70⟩ := hc
             replace hc := S_api_Seg.op hc; obtain ⟨a72, q73, u71, hc⟩ := hc; subst u71
             refine rs (v := .int .i64 y63.Seq) (ld rfl Try.isAgg3 (hcell70 1 _ rfl)) rfl ?_
             refine rs (v := .bool (decide (y63.Seq = 2))) (eqd rfl rfl) rfl ?_
             refine rs (v := .bool (decide (y63.Seq = 2))) (pkt (v := .bool (decide (y63.Seq = 2))) rfl rfl) rfl ?_
             refine rs (v := .bool (decide (y63.Seq = 2))) (mv (v := .bool (decide (y63.Seq = 2))) rfl) rfl ?_
             cases hb74 : (decide (y63.Seq = 2))
             · replace hp := gneg hp (of_decide_eq_false hb74)
               refine r0 rfl ?_
               refine r0 rfl ?_
               refine r0 rfl ?_
               refine r0 rfl ?_
               refine r0 rfl ?_
               refine r0 rfl ?_
               refine rs (v := .bool false) (pkf (v := .bool false) rfl rfl) rfl ?_
               refine rs (v := .bool false) (mv (v := .bool false) rfl) rfl ?_
               refine r0 rfl ?_
               refine r0 rfl ?_
               refine rs (v := .bool false) (pkf (v := .bool false) rfl rfl) rfl ?_
               refine rs (v := .bool false) (mv (v := .bool false) rfl) rfl ?_
               refine r0 rfl ?_
               refine r0 rfl ?_
               refine r0 rfl ?_
               refine rs (v := .bool false) (pkf (v := .bool false) rfl rfl) rfl ?_
               refine rs (v := .bool false) (mv (v := .bool false) rfl) rfl ?_
               refine r0 rfl ?_
               refine r0 rfl ?_
               refine r0 rfl ?_
               refine r0 rfl ?_
               refine r0 rfl ?_
               refine rs (v := .bool false) (pkf (v := .bool false) rfl rfl) rfl ?_
               refine rs (v := .bool false) (av (v := .bool false) rfl) rfl ?_
               refine rn ?_
               refine qn ?_
               refine Wret ?_
               replace hc := hc.rem 12 rfl rfl
               replace hc := hc.rem 11 rfl rfl
               replace hc := hc.rem 10 rfl rfl
               replace hc := hc.rem 9 rfl rfl
               replace hc := hc.rem 8 rfl rfl
               replace hc := hc.rem 7 rfl rfl
               replace hc := hc.rem 6 rfl rfl
               replace hc := hc.rem 5 rfl rfl
               replace hc := hc.rem 4 rfl rfl
               replace hc := hc.rem 3 rfl rfl
               replace hc := hc.rem 2 rfl rfl
               replace hc := hc.rem 1 rfl rfl
               replace hc := hc.rem 0 rfl rfl
               injection hp with hp; subst hp
               refine f1 (v := .bool false) Try.results7 Try.ntmps7 rfl ?_
               exact ⟨_, rfl, k _ hc⟩
             · replace hp := gpos hp (of_decide_eq_true hb74)
               refine rs (v := .slice (some ⟨b66, o67, none⟩) r42.1.length q45) (mv (v := .slice (some ⟨b66, o67, none⟩) r42.1.length q45) rfl) rfl ?_
               replace hp := bind_some hp; obtain ⟨y75, hy75, hp⟩ := hp
               obtain ⟨b78, o79, u80, hi76, hi77⟩ := Ctx.rdAt hc (k := 5) rfl rfl reads_own hy75
               clear u80
               refine rs (v := .pointer (some ⟨b66, o67 + ((1 : Int)).toNat * 4, none⟩)) (ixx rfl rfl Try.underlying29 Try.sizeOf46 hi76 hi77 rfl) rfl ?_
               refine rs (v := .pointer (some ⟨b66, o67 + ((1 : Int)).toNat * 4 + 3, none⟩)) (fax 3 rfl Try.underlying46 rfl Try.sizeOf38 rfl rfl rfl) rfl ?_
               replace hc := Ctx.rdCell hc (k := 5) rfl rfl reads_own hy75; obtain ⟨cs81, hc, hcell82⟩ := hc
               replace hc := S_api_Seg.op hc; obtain ⟨a84, q85, u83, hc⟩ := hc; subst u83
               refine rs (v := .slice a84 y75.Body.length q85) (ld rfl Try.isAgg38 (hcell82 3 _ rfl)) rfl ?_
               refine rs (v := .string (strOfNums y75.Body)) (Ctx.b2s hc (k := 0) rfl rfl reads_ro rfl Try.underlying38 Try.underlying5 Try.underlying9) rfl ?_
               refine rs (v := .bool (decide ((strOfNums y75.Body) = (ByteArray.mk #[98])))) (eqstr rfl rfl) rfl ?_
               refine rs (v := .bool (decide ((strOfNums y75.Body) = (ByteArray.mk #[98])))) (pkt (v := .bool (decide ((strOfNums y75.Body) = (ByteArray.mk #[98])))) rfl rfl) rfl ?_
               refine rs (v := .bool (decide ((strOfNums y75.Body) = (ByteArray.mk #[98])))) (mv (v := .bool (decide ((strOfNums y75.Body) = (ByteArray.mk #[98])))) rfl) rfl ?_
               cases hb86 : (decide ((strOfNums y75.Body) = (ByteArray.mk #[98])))
               · replace hp := gneg hp (of_decide_eq_false hb86)
                 refine r0 rfl ?_
                 refine r0 rfl ?_
                 refine rs (v := .bool false) (pkf (v := .bool false) rfl rfl) rfl ?_
                 refine rs (v := .bool false) (mv (v := .bool false) rfl) rfl ?_
                 refine r0 rfl ?_
                 refine r0 rfl ?_
                 refine r0 rfl ?_
                 refine rs (v := .bool false) (pkf (v := .bool false) rfl rfl) rfl ?_
                 refine rs (v := .bool false) (mv (v := .bool false) rfl) rfl ?_
                 refine r0 rfl ?_
                 refine r0 rfl ?_
                 refine r0 rfl ?_
                 refine r0 rfl ?_
                 refine r0 rfl ?_
                 refine rs (v := .bool false) (pkf (v := .bool false) rfl rfl) rfl ?_
                 refine rs (v := .bool false) (av (v := .bool false) rfl) rfl ?_
                 refine rn ?_
                 refine qn ?_
                 refine Wret ?_
                 replace hc := hc.rem 13 rfl rfl
                 replace hc := hc.rem 12 rfl rfl
                 replace hc := hc.rem 11 rfl rfl
                 replace hc := hc.rem 10 rfl rfl
                 replace hc := hc.rem 9 rfl rfl
                 replace hc := hc.rem 8 rfl rfl
                 replace hc := hc.rem 7 rfl rfl
                 replace hc := hc.rem 6 rfl rfl
                 replace hc := hc.rem 5 rfl rfl
                 replace hc := hc.rem 4 rfl rfl
                 replace hc := hc.rem 3 rfl rfl
                 replace hc := hc.rem 2 rfl rfl
                 replace hc := hc.rem 1 rfl rfl
                 replace hc := hc.rem 0 rfl rfl
                 injection hp with hp; subst hp
                 refine f1 (v := .bool false) Try.results7 Try.ntmps7 rfl ?_
                 exact ⟨_, rfl, k _ hc⟩
               · replace hp := gpos hp (of_decide_eq_true hb86)
                 refine rs (v := .int .i64 r48.2.1) (mv (v := .int .i64 r48.2.1) rfl) rfl ?_
                 refine rs (v := .bool (decide (r48.2.1 = 0))) (eqd rfl rfl) rfl ?_
                 refine rs (v := .bool (decide (r48.2.1 = 0))) (pkt (v := .bool (decide (r48.2.1 = 0))) rfl rfl) rfl ?_
                 refine rs (v := .bool (decide (r48.2.1 = 0))) (mv (v := .bool (decide (r48.2.1 = 0))) rfl) rfl ?_
                 cases hb87 : (decide (r48.2.1 = 0))
                 · replace hp := gneg hp (of_decide_eq_false hb87)
                   refine r0 rfl ?_
                   refine r0 rfl ?_
                   refine r0 rfl ?_
                   refine rs (v := .bool false) (pkf (v := .bool false) rfl rfl) rfl ?_
                   refine rs (v := .bool false) (mv (v := .bool false) rfl) rfl ?_
                   refine r0 rfl ?_
                   refine r0 rfl ?_
                   refine r0 rfl ?_
                   refine r0 rfl ?_
                   refine r0 rfl ?_
                   refine rs (v := .bool false) (pkf (v := .bool false) rfl rfl) rfl ?_
                   refine rs (v := .bool false) (av (v := .bool false) rfl) rfl ?_
                   refine rn ?_
                   refine qn ?_
                   refine Wret ?_
                   replace hc := hc.rem 13 rfl rfl
                   replace hc := hc.rem 12 rfl rfl
                   replace hc := hc.rem 11 rfl rfl
                   replace hc := hc.rem 10 rfl rfl
                   replace hc := hc.rem 9 rfl rfl
                   replace hc := hc.rem 8 rfl rfl
                   replace hc := hc.rem 7 rfl rfl
                   replace hc := hc.rem 6 rfl rfl
                   replace hc := hc.rem 5 rfl rfl
                   replace hc := hc.rem 4 rfl rfl
                   replace hc := hc.rem 3 rfl rfl
                   replace hc := hc.rem 2 rfl rfl
                   replace hc := hc.rem 1 rfl rfl
                   replace hc := hc.rem 0 rfl rfl
                   injection hp with hp; subst hp
                   refine f1 (v := .bool false) Try.results7 Try.ntmps7 rfl ?_
                   exact ⟨_, rfl, k _ hc⟩
                 · replace hp := gpos hp (of_decide_eq_true hb87)
                   refine rs (v := .slice a55 r54.1.length q57) (mv (v := .slice a55 r54.1.length q57) rfl) rfl ?_
                   refine rs (v := .int .i64 ((r54.1.length : Nat) : Int)) (ln rfl Try.underlying29) rfl ?_
                   refine rs (v := .bool (decide (((r54.1.length : Nat) : Int) = 1))) (eqd rfl rfl) rfl ?_
                   refine rs (v := .bool (decide (((r54.1.length : Nat) : Int) = 1))) (pkt (v := .bool (decide (((r54.1.length : Nat) : Int) = 1))) rfl rfl) rfl ?_
                   refine rs (v := .bool (decide (((r54.1.length : Nat) : Int) = 1))) (mv (v := .bool (decide (((r54.1.length : Nat) : Int) = 1))) rfl) rfl ?_
                   cases hb88 : (decide (((r54.1.length : Nat) : Int) = 1))
                   · replace hp := gneg hp (of_decide_eq_false hb88)
                     refine r0 rfl ?_
                     refine r0 rfl ?_
                     refine r0 rfl ?_
                     refine r0 rfl ?_
                     refine r0 rfl ?_
                     refine rs (v := .bool false) (pkf (v := .bool false) rfl rfl) rfl ?_
                     refine rs (v := .bool false) (av (v := .bool false) rfl) rfl ?_
                     refine rn ?_
                     refine qn ?_
                     refine Wret ?_
                     replace hc := hc.rem 13 rfl rfl
                     replace hc := hc.rem 12 rfl rfl
                     replace hc := hc.rem 11 rfl rfl
                     replace hc := hc.rem 10 rfl rfl
                     replace hc := hc.rem 9 rfl rfl
                     replace hc := hc.rem 8 rfl rfl
                     replace hc := hc.rem 7 rfl rfl
                     replace hc := hc.rem 6 rfl rfl
                     replace hc := hc.rem 5 rfl rfl
                     replace hc := hc.rem 4 rfl rfl
                     replace hc := hc.rem 3 rfl rfl
                     replace hc := hc.rem 2 rfl rfl
                     replace hc := hc.rem 1 rfl rfl
                     replace hc := hc.rem 0 rfl rfl
                     injection hp with hp; subst hp
                     refine f1 (v := .bool false) Try.results7 Try.ntmps7 rfl ?_
                     exact ⟨_, rfl, k _ hc⟩
                   · replace hp := gpos hp (of_decide_eq_true hb88)
                     refine rs (v := .slice a55 r54.1.length q57) (mv (v := .slice a55 r54.1.length q57) rfl) rfl ?_
                     replace hp := bind_some hp; obtain ⟨y89, hy89, hp⟩ := hp
                     obtain ⟨b92, o93, u94, hi90, hi91⟩ := Ctx.rdAt hc (k := 2) rfl rfl reads_own hy89
                     subst u94
                     refine rs (v := .pointer (some ⟨b92, o93 + ((0 : Int)).toNat * 4, none⟩)) (ixx rfl rfl Try.underlying29 Try.sizeOf46 hi90 hi91 rfl) rfl ?_
                     refine rs (v := .pointer (some ⟨b92, o93 + ((0 : Int)).toNat * 4 + 1, none⟩)) (fax 1 rfl Try.underlying46 rfl Try.sizeOf3 rfl rfl rfl) rfl ?_
                     replace hc := Ctx.rdCell hc (k := 2) rfl rfl reads_own hy89; obtain ⟨cs95, hc, hcell96⟩ := hc
                     replace hc := S_api_Seg.op hc; obtain ⟨a98, q99, u97, hc⟩ := hc; subst u97
                     refine rs (v := .int .i64 y89.Seq) (ld rfl Try.isAgg3 (hcell96 1 _ rfl)) rfl ?_
                     refine rs (v := .bool (decide (y89.Seq = 3))) (eqd rfl rfl) rfl ?_
                     refine rs (v := .bool (decide (y89.Seq = 3))) (pkt (v := .bool (decide (y89.Seq = 3))) rfl rfl) rfl ?_
                     refine rs (v := .bool (decide (y89.Seq = 3))) (av (v := .bool (decide (y89.Seq = 3))) rfl) rfl ?_
                     refine rn ?_
                     refine qn ?_
                     refine Wret ?_
                     replace hc := hc.rem 14 rfl rfl
                     replace hc := hc.rem 13 rfl rfl
                     replace hc := hc.rem 12 rfl rfl
                     replace hc := hc.rem 11 rfl rfl
                     replace hc := hc.rem 10 rfl rfl
                     replace hc := hc.rem 9 rfl rfl
                     replace hc := hc.rem 8 rfl rfl
                     replace hc := hc.rem 7 rfl rfl
                     replace hc := hc.rem 6 rfl rfl
                     replace hc := hc.rem 5 rfl rfl
                     replace hc := hc.rem 4 rfl rfl
                     replace hc := hc.rem 3 rfl rfl
                     replace hc := hc.rem 2 rfl rfl
                     replace hc := hc.rem 1 rfl rfl
                     replace hc := hc.rem 0 rfl rfl
                     injection hp with hp; subst hp
                     refine f1 (v := .bool (decide (y89.Seq = 3))) Try.results7 Try.ntmps7 rfl ?_
                     exact ⟨_, rfl, k _ hc⟩
     · replace hp := gpos hp (of_decide_eq_true hb23)
       refine Wct rfl ?_
       refine Wseq ?_
       refine Wreg ?_
       refine rs (v := .bool false) (av (v := .bool false) rfl) rfl ?_
       refine rn ?_
       refine qn ?_
       refine Wret ?_
       refine qr ?_
       replace hc := hc.rem 4 rfl rfl
       replace hc := hc.rem 3 rfl rfl
       replace hc := hc.rem 2 rfl rfl
       replace hc := hc.rem 1 rfl rfl
       replace hc := hc.rem 0 rfl rfl
       injection hp with hp; subst hp
       refine f1 (v := .bool false) Try.results7 Try.ntmps7 rfl ?_
       exact ⟨_, rfl, k _ hc⟩
   · replace hp := gpos hp (of_decide_eq_true hb9)
     refine r0 rfl ?_
     refine r0 rfl ?_
     refine r0 rfl ?_
     refine r0 rfl ?_
     refine r0 rfl ?_
     refine r0 rfl ?_
     refine r0 rfl ?_
     refine r0 rfl ?_
     refine r0 rfl ?_
     refine r0 rfl ?_
     refine rs (v := .bool true) (pkt (v := .bool true) rfl rfl) rfl ?_
     refine rn ?_
     refine qn ?_
     refine Wct rfl ?_
     refine Wseq ?_
     refine Wreg ?_
     refine rs (v := .bool false) (av (v := .bool false) rfl) rfl ?_
     refine rn ?_
     refine qn ?_
     refine Wret ?_
     refine qr ?_
     replace hc := hc.rem 0 rfl rfl
     injection hp with hp; subst hp
     refine f1 (v := .bool false) Try.results7 Try.ntmps7 rfl ?_
     exact ⟨_, rfl, k _ hc⟩

-- FN peloton/pelotonlaw16.LinkWindow
def law16_LinkWindow.J4 (j45 : Int) (j46 : Int) (y69 : S_api_Seg) (k3 : Int → Int → Option (Bool)) (j80 : Bool) : Option (Bool) :=
  if j80 = true then
    some false
  else
    k3 (max j45 y69.Seq) (IntKind.i64.wrap (j46 + 1))

def law16_LinkWindow.L3 (N : Nat) (x2 : (List Int)) (e10 : Int) (e20 : Int) (j26 : Int) (j28 : Int) (r38 : ((List S_api_Seg) × S_link_Link)) (k2 : S_link_Link → Int → Int → Int → Option (Bool)) : Nat → Int → Int → Option (Bool)
  | 0, _, _ => none
  | m3 + 1, j45, j46 =>
    if j46 < ((r38.1.length : Nat) : Int) then
      (idx r38.1 j46).bind fun y69 =>
      if y69.Seq ≤ j26 then
        law16_LinkWindow.J4 j45 j46 y69 (law16_LinkWindow.L3 N x2 e10 e20 j26 j28 r38 k2 m3) true
      else
        if y69.Seq > (IntKind.i64.wrap (j26 + e10)) then
          law16_LinkWindow.J4 j45 j46 y69 (law16_LinkWindow.L3 N x2 e10 e20 j26 j28 r38 k2 m3) true
        else
          if y69.Seq > e20 then
            law16_LinkWindow.J4 j45 j46 y69 (law16_LinkWindow.L3 N x2 e10 e20 j26 j28 r38 k2 m3) true
          else
            if j46 > 0 then
              (idx r38.1 (IntKind.i64.wrap (j46 - 1))).bind fun y117 =>
              if y117.Seq ≥ y69.Seq then
                law16_LinkWindow.J4 j45 j46 y69 (law16_LinkWindow.L3 N x2 e10 e20 j26 j28 r38 k2 m3) true
              else
                (idx r38.1 j46).bind fun y129 =>
                if ((y129.Body.length : Nat) : Int) ≠ 1 then
                  law16_LinkWindow.J4 j45 j46 y69 (law16_LinkWindow.L3 N x2 e10 e20 j26 j28 r38 k2 m3) true
                else
                  (idx r38.1 j46).bind fun y141 =>
                  (idx y141.Body (0 : Int)).bind fun y152 =>
                  law16_LinkWindow.J4 j45 j46 y69 (law16_LinkWindow.L3 N x2 e10 e20 j26 j28 r38 k2 m3) (decide ((IntKind.i64.wrap y152) ≠ (IntKind.i64.wrap (y69.Seq - 1))))
            else
              (idx r38.1 j46).bind fun y85 =>
              if ((y85.Body.length : Nat) : Int) ≠ 1 then
                law16_LinkWindow.J4 j45 j46 y69 (law16_LinkWindow.L3 N x2 e10 e20 j26 j28 r38 k2 m3) true
              else
                (idx r38.1 j46).bind fun y97 =>
                (idx y97.Body (0 : Int)).bind fun y108 =>
                law16_LinkWindow.J4 j45 j46 y69 (law16_LinkWindow.L3 N x2 e10 e20 j26 j28 r38 k2 m3) (decide ((IntKind.i64.wrap y108) ≠ (IntKind.i64.wrap (y69.Seq - 1))))
    else
      (idx x2 j28).bind fun y49 =>
      (some (min j45 (IntKind.i64.wrap (j26 + (Int.tmod (IntKind.i64.wrap ((Int.tmod y49 4) + 4)) 4))))).bind fun e58 =>
      (link_Link_Hear N r38.2 (⟨0, 0, e58, []⟩ : S_api_Seg)).bind fun r59 =>
      if r59.2.1 ≠ 0 then
        some false
      else
        (link_Link_Left r59.2.2).bind fun r66 =>
        if r66 ≠ (IntKind.i64.wrap (e20 - (max j26 e58))) then
          some false
        else
          k2 r59.2.2 (max j26 e58) j45 (IntKind.i64.wrap (j28 + 1))

def law16_LinkWindow.L2 (N : Nat) (x2 : (List Int)) (e10 : Int) (e20 : Int) : Nat → S_link_Link → Int → Int → Int → Option (Bool)
  | 0, _, _, _, _ => none
  | m2 + 1, j25, j26, j27, j28 =>
    if j28 < ((x2.length : Nat) : Int) then
      (link_Link_Tick N j25).bind fun r38 =>
      if ((r38.1.length : Nat) : Int) > e10 then
        some false
      else
        law16_LinkWindow.L3 N x2 e10 e20 j26 j28 r38 (law16_LinkWindow.L2 N x2 e10 e20 m2) N j27 0
    else
      if j26 < e20 then
        some true
      else
        (link_Link_Tick N j25).bind fun r32 =>
        some (decide (((r32.1.length : Nat) : Int) = 0))

def law16_LinkWindow.L1 (N : Nat) (x2 : (List Int)) (e10 : Int) (e20 : Int) : Nat → S_link_Link → Int → Option (Bool)
  | 0, _, _ => none
  | m1 + 1, j21, j22 =>
    if j22 < e20 then
      (link_Link_Send N j21 ([[(IntKind.u8.wrap j22)]])).bind fun r167 =>
      if r167.1 ≠ 0 then
        some false
      else
        (law16_LinkWindow.L1 N x2 e10 e20 m1) r167.2 (IntKind.i64.wrap (j22 + 1))
    else
      law16_LinkWindow.L2 N x2 e10 e20 N j21 0 0 0

def law16_LinkWindow (N : Nat) (x0 : S_law16_Sides) (x1 : Int) (x2 : (List Int)) : Option (Bool) :=
  (law16_awake N).bind fun r4 =>
  if r4 = true then
    if ((x2.length : Nat) : Int) > 60 then
      (law16_awake N).bind fun r170 =>
      some r170
    else
      (some (IntKind.i64.wrap (1 + (Int.tmod (IntKind.i64.wrap ((Int.tmod x0.Window 9) + 9)) 9)))).bind fun e10 =>
      (link_New e10 (IntKind.i64.wrap (1 + (Int.tmod (IntKind.i64.wrap ((Int.tmod x0.Span 5) + 5)) 5))) 64).bind fun r11 =>
      optc r11.1 (
        some false) fun y15 =>
      if r11.2 ≠ 0 then
        some false
      else
        (some (Int.tmod (IntKind.i64.wrap ((Int.tmod x1 60) + 60)) 60)).bind fun e20 =>
        law16_LinkWindow.L1 N x2 e10 e20 N y15 0
  else
    (law16_awake N).bind fun r7 =>
    some r7

set_option maxHeartbeats 8000000 in
theorem law16_LinkWindow_any {N : Nat} {x0 : S_law16_Sides} {x1 : Int} {x2 : (List Int)} {ax2 : Option Addr} {nx2 : Nat} {qx2 : Nat} {P2 : HP} {Fr : List HP} {w : World} {r : Bool} {K : Value → World → Prop} (hrd2 : Reads P2 (pInt .i64) (.slice ax2 nx2 qx2) x2) (hc : Ctx w (P2 :: Fr)) (hp : law16_LinkWindow N x0 x1 x2 = some r)
    (k : ∀ w', Ctx w' (P2 :: Fr) → K (.bool r) w') : Calls Try.prog 4 #[.agg #[.int .i64 x0.Window, .int .i64 x0.Span, .int .i64 x0.Room], .int .i64 x1, .slice ax2 nx2 qx2] w (Ret K) := by
 unfold law16_LinkWindow at hp
 refine Center (args := [.agg #[.int .i64 x0.Window, .int .i64 x0.Span, .int .i64 x0.Room], .int .i64 x1, .slice ax2 nx2 qx2]) (l := [(0, .agg #[.int .i64 x0.Window, .int .i64 x0.Span, .int .i64 x0.Room]), (1, .int .i64 x1), (2, .slice ax2 nx2 qx2)]) Try.func4 Try.ntmps4 rfl rfl rfl ?_
 obtain ⟨hn2, _⟩ := Ctx.rdLen hc (k := 0) rfl rfl hrd2; subst hn2
 refine Wseq ?_
 refine Wreg ?_
 refine rsE (Ctx.boxOp (cs := [.int .i64 x0.Window, .int .i64 x0.Span, .int .i64 x0.Room]) (v := .agg #[.int .i64 x0.Window, .int .i64 x0.Span, .int .i64 x0.Room]) hc rfl rfl) rfl ?_
 clear hc; rintro _ w3 ⟨b1, rfl, hc⟩
 refine rs (v := .bool false) (av (v := .bool false) rfl) rfl ?_
 refine rn ?_
 refine qn ?_
 refine Wseq ?_
 refine Wseq ?_
 refine Wreg ?_
 replace hp := bind_some hp; obtain ⟨r4, hr4, hp⟩ := hp
 refine rc (cl Try.call7 rfl rfl) rfl ?_
 refine law16_awake_any hc hr4 ?_
 clear hc; intro w5 hc
 cases hb6 : r4
 · replace hp := gneg hp (by rw [hb6]; exact Bool.false_ne_true)
   subst hb6
   refine rs (v := .bool true) (ntf rfl) rfl ?_
   refine rs (v := .bool true) (mv (v := .bool true) rfl) rfl ?_
   refine r0 rfl ?_
   refine r0 rfl ?_
   refine r0 rfl ?_
   refine rs (v := .bool true) (pkt (v := .bool true) rfl rfl) rfl ?_
   refine rn ?_
   refine qn ?_
   refine Wct rfl ?_
   refine Wseq ?_
   refine Wreg ?_
   replace hp := bind_some hp; obtain ⟨r7, hr7, hp⟩ := hp
   refine rc (cl Try.call7 rfl rfl) rfl ?_
   refine law16_awake_any hc hr7 ?_
   clear hc; intro w8 hc
   refine rs (v := .bool r7) (av (v := .bool r7) rfl) rfl ?_
   refine rn ?_
   refine qn ?_
   refine Wret ?_
   refine qr ?_
   replace hc := hc.rem 0 rfl rfl
   injection hp with hp; subst hp
   refine f1 (v := .bool r7) Try.results4 Try.ntmps4 rfl ?_
   exact ⟨_, rfl, k _ hc⟩
 · replace hp := gpos hp hb6
   subst hb6
   refine rs (v := .bool false) (ntt rfl) rfl ?_
   refine rs (v := .bool false) (mv (v := .bool false) rfl) rfl ?_
   refine rs (v := .slice ax2 x2.length qx2) (mv (v := .slice ax2 x2.length qx2) rfl) rfl ?_
   refine rs (v := .int .i64 ((x2.length : Nat) : Int)) (ln rfl Try.underlying48) rfl ?_
   refine rs (v := .bool (decide (((x2.length : Nat) : Int) > 60))) (gt' rfl rfl) rfl ?_
   refine rs (v := .bool (decide (((x2.length : Nat) : Int) > 60))) (pkf (v := .bool (decide (((x2.length : Nat) : Int) > 60))) rfl rfl) rfl ?_
   refine rn ?_
   refine qn ?_
   cases hb9 : (decide (((x2.length : Nat) : Int) > 60))
   · replace hp := gneg hp (of_decide_eq_false hb9)
     refine Wcf rfl ?_
     refine Wskip ?_
     refine qn ?_
     refine Wseq ?_
     refine Wreg ?_
     refine rs (v := .pointer (some ⟨b1, 0, none⟩)) (fax 0 rfl Try.underlying23 rfl Try.sizeOf3 rfl rfl rfl) rfl ?_
     refine rs (v := .int .i64 x0.Window) (ld rfl Try.isAgg3 (Ctx.cell hc (k := 0) rfl rfl rfl)) rfl ?_
     refine rs (v := .int .i64 (Int.tmod x0.Window 9)) (rm rfl rfl (by decide)) rfl ?_
     refine rs (v := .int .i64 (IntKind.i64.wrap ((Int.tmod x0.Window 9) + 9))) (adw rfl rfl) rfl ?_
     refine rs (v := .int .i64 (Int.tmod (IntKind.i64.wrap ((Int.tmod x0.Window 9) + 9)) 9)) (rm rfl rfl (by decide)) rfl ?_
     refine rs (v := .int .i64 (IntKind.i64.wrap (1 + (Int.tmod (IntKind.i64.wrap ((Int.tmod x0.Window 9) + 9)) 9)))) (adw rfl rfl) rfl ?_
     replace hp := bind_some hp; obtain ⟨e10, he10, hp⟩ := hp
     injection he10 with he10
     refine rs (v := .int .i64 e10) (av (v := .int .i64 e10) (by rw [← he10]; rfl)) rfl ?_
     refine rn ?_
     refine qn ?_
     refine Wseq ?_
     refine Wreg ?_
     refine rs (v := .int .i64 e10) (mv (v := .int .i64 e10) rfl) rfl ?_
     refine rs (v := .pointer (some ⟨b1, 1, none⟩)) (fax 1 rfl Try.underlying23 rfl Try.sizeOf3 rfl rfl rfl) rfl ?_
     refine rs (v := .int .i64 x0.Span) (ld rfl Try.isAgg3 (Ctx.cell hc (k := 0) rfl rfl rfl)) rfl ?_
     refine rs (v := .int .i64 (Int.tmod x0.Span 5)) (rm rfl rfl (by decide)) rfl ?_
     refine rs (v := .int .i64 (IntKind.i64.wrap ((Int.tmod x0.Span 5) + 5))) (adw rfl rfl) rfl ?_
     refine rs (v := .int .i64 (Int.tmod (IntKind.i64.wrap ((Int.tmod x0.Span 5) + 5)) 5)) (rm rfl rfl (by decide)) rfl ?_
     refine rs (v := .int .i64 (IntKind.i64.wrap (1 + (Int.tmod (IntKind.i64.wrap ((Int.tmod x0.Span 5) + 5)) 5)))) (adw rfl rfl) rfl ?_
     replace hp := bind_some hp; obtain ⟨r11, hr11, hp⟩ := hp
     refine rc (cl Try.call8 rfl rfl) rfl ?_
     refine link_New_any hc hr11 ?_
     clear hc; intro v12 w13 hc
     refine rs (v := .tuple #[v12, .int .i64 r11.2]) (mv (v := .tuple #[v12, .int .i64 r11.2]) rfl) rfl ?_
     refine rs (v := v12) (ext (v := v12) rfl rfl) rfl ?_
     refine rs (v := .int .i64 r11.2) (ext (v := .int .i64 r11.2) rfl rfl) rfl ?_
     refine rs (v := v12) (av (v := v12) rfl) rfl ?_
     refine rs (v := .int .i64 r11.2) (av (v := .int .i64 r11.2) rfl) rfl ?_
     refine rn ?_
     refine qn ?_
     refine Wseq ?_
     refine Wseq ?_
     refine Wreg ?_
     refine rs (v := v12) (mv (v := v12) rfl) rfl ?_
     cases hb14 : r11.1
     · replace hp := optN hp hb14
       rw [hb14] at hc
       replace hc := Ctx.ptoN hc; obtain ⟨u16, hc⟩ := hc; subst u16
       refine rs (v := .bool true) (ept Try.underlying27 rfl rfl) rfl ?_
       refine rs (v := .bool true) (mv (v := .bool true) rfl) rfl ?_
       refine r0 rfl ?_
       refine r0 rfl ?_
       refine rs (v := .bool true) (pkt (v := .bool true) rfl rfl) rfl ?_
       refine rn ?_
       refine qn ?_
       refine Wct rfl ?_
       refine Wseq ?_
       refine Wreg ?_
       refine rs (v := .bool false) (av (v := .bool false) rfl) rfl ?_
       refine rn ?_
       refine qn ?_
       refine Wret ?_
       refine qr ?_
       replace hc := hc.rem 0 rfl rfl
       injection hp with hp; subst hp
       refine f1 (v := .bool false) Try.results4 Try.ntmps4 rfl ?_
       exact ⟨_, rfl, k _ hc⟩
     · rename_i y15
       replace hp := optS hp hb14
       rw [hb14] at hc
       replace hc := Ctx.ptoS hc; obtain ⟨b17, u18, hc⟩ := hc; subst u18
       refine rs (v := .bool false) (epf Try.underlying27 rfl rfl) rfl ?_
       refine rs (v := .bool false) (mv (v := .bool false) rfl) rfl ?_
       refine rs (v := .int .i64 r11.2) (mv (v := .int .i64 r11.2) rfl) rfl ?_
       refine rs (v := .bool (decide (r11.2 ≠ 0))) (ned rfl rfl) rfl ?_
       refine rs (v := .bool (decide (r11.2 ≠ 0))) (pkf (v := .bool (decide (r11.2 ≠ 0))) rfl rfl) rfl ?_
       refine rn ?_
       refine qn ?_
       cases hb19 : (decide (r11.2 ≠ 0))
       · replace hp := gneg hp (of_decide_eq_false hb19)
         refine Wcf rfl ?_
         refine Wskip ?_
         refine qn ?_
         refine Wseq ?_
         refine Wreg ?_
         refine rs (v := .int .i64 x1) (mv (v := .int .i64 x1) rfl) rfl ?_
         refine rs (v := .int .i64 (Int.tmod x1 60)) (rm rfl rfl (by decide)) rfl ?_
         refine rs (v := .int .i64 (IntKind.i64.wrap ((Int.tmod x1 60) + 60))) (adw rfl rfl) rfl ?_
         refine rs (v := .int .i64 (Int.tmod (IntKind.i64.wrap ((Int.tmod x1 60) + 60)) 60)) (rm rfl rfl (by decide)) rfl ?_
         replace hp := bind_some hp; obtain ⟨e20, he20, hp⟩ := hp
         injection he20 with he20
         refine rs (v := .int .i64 e20) (av (v := .int .i64 e20) (by rw [← he20]; rfl)) rfl ?_
         refine rn ?_
         refine qn ?_
         refine Wseq ?_
         refine Wseq ?_
         refine Wreg ?_
         refine rs (v := .int .i64 0) (av (v := .int .i64 0) rfl) rfl ?_
         refine rn ?_
         refine qn ?_
         refine Wblk ?_
         replace hc := hc.rem 1 rfl rfl
         refine Wloop [6, 11, 56, 57, 58, 59, 60, 61, 62, 63, 64, 65, 66, 67] [11] (fun m vs w' => ∃ j21 : S_link_Link, ∃ j22 : Int, vs = [.int .i64 j22] ∧ law16_LinkWindow.L1 N x2 e10 e20 m j21 j22 = some r ∧ Ctx w' (S_link_Link.hp b17 j21 :: P2 :: Fr)) N ?_ ?_
         · exact ⟨y15, 0, rfl, hp, hc⟩
         · clear hp hc; intro m vs u w23 hJ
           obtain ⟨j21, j22, rfl, hp, hc⟩ := hJ
           rcases m with _ | m1
           · cases (show none = some r from hp)
           rw [law16_LinkWindow.L1] at hp
           refine Wseq ?_
           refine Wseq ?_
           refine Wreg ?_
           refine rs (v := .int .i64 j22) (mv (v := .int .i64 j22) rfl) rfl ?_
           refine rs (v := .int .i64 e20) (mv (v := .int .i64 e20) rfl) rfl ?_
           refine rs (v := .bool (decide (j22 < e20))) (lt' rfl rfl) rfl ?_
           refine rn ?_
           refine qn ?_
           cases hb24 : (decide (j22 < e20))
           · replace hp := gneg hp (of_decide_eq_false hb24)
             refine Wcf rfl ?_
             refine Wexit ?_
             refine qx ?_
             refine qx ?_
             refine be ?_
             refine qn ?_
             refine Wseq ?_
             refine Wreg ?_
             refine rs (v := .int .i64 0) (av (v := .int .i64 0) rfl) rfl ?_
             refine rs (v := .int .i64 0) (av (v := .int .i64 0) rfl) rfl ?_
             refine rn ?_
             refine qn ?_
             refine Wseq ?_
             refine Wseq ?_
             refine Wreg ?_
             refine rs (v := .int .i64 0) (av (v := .int .i64 0) rfl) rfl ?_
             refine rn ?_
             refine qn ?_
             refine Wblk ?_
             refine Wloop (6 :: 12 :: 13 :: 14 :: 15 :: 16 :: 17 :: 18 :: 19 :: 20 :: 68 :: 69 :: 70 :: 71 :: 72 :: 73 :: 74 :: 75 :: 76 :: 77 :: 78 :: 79 :: 80 :: 81 :: 82 :: 83 :: 84 :: 85 :: 86 :: 87 :: 88 :: 89 :: 90 :: 91 :: 92 :: 93 :: 94 :: 95 :: 96 :: 97 :: 98 :: 99 :: 100 :: 101 :: 102 :: 103 :: 104 :: 105 :: 106 :: 107 :: 108 :: 109 :: 110 :: 111 :: 112 :: 113 :: 114 :: 115 :: 116 :: 117 :: 118 :: 119 :: 120 :: 121 :: 122 :: 123 :: 124 :: 125 :: 126 :: 127 :: 128 :: 129 :: 130 :: 131 :: 132 :: 133 :: 134 :: 135 :: 136 :: 137 :: 138 :: 139 :: 140 :: 141 :: 142 :: 143 :: 144 :: 145 :: 146 :: 147 :: 148 :: 149 :: 150 :: 151 :: 152 :: 153 :: 154 :: 155 :: 156 :: 157 :: 158 :: 159 :: 160 :: 161 :: 162 :: 163 :: 164 :: 165 :: 166 :: 167 :: 168 :: 169 :: 170 :: 171 :: 172 :: 173 :: []) [12, 13, 14] (fun m vs w' => ∃ j25 : S_link_Link, ∃ j26 : Int, ∃ j27 : Int, ∃ j28 : Int, vs = [.int .i64 j26, .int .i64 j27, .int .i64 j28] ∧ law16_LinkWindow.L2 N x2 e10 e20 m j25 j26 j27 j28 = some r ∧ Ctx w' (S_link_Link.hp b17 j25 :: P2 :: Fr)) N ?_ ?_
             · exact ⟨j21, 0, 0, 0, rfl, hp, hc⟩
             · clear hp hc; intro m vs u w29 hJ
               obtain ⟨j25, j26, j27, j28, rfl, hp, hc⟩ := hJ
               rcases m with _ | m2
               · cases (show none = some r from hp)
               rw [law16_LinkWindow.L2] at hp
               refine Wseq ?_
               refine Wseq ?_
               refine Wreg ?_
               refine rs (v := .int .i64 j28) (mv (v := .int .i64 j28) rfl) rfl ?_
               refine rs (v := .slice ax2 x2.length qx2) (mv (v := .slice ax2 x2.length qx2) rfl) rfl ?_
               refine rs (v := .int .i64 ((x2.length : Nat) : Int)) (ln rfl Try.underlying48) rfl ?_
               refine rs (v := .bool (decide (j28 < ((x2.length : Nat) : Int)))) (lt' rfl rfl) rfl ?_
               refine rn ?_
               refine qn ?_
               cases hb30 : (decide (j28 < ((x2.length : Nat) : Int)))
               · replace hp := gneg hp (of_decide_eq_false hb30)
                 refine Wcf rfl ?_
                 refine Wexit ?_
                 refine qx ?_
                 refine qx ?_
                 refine be ?_
                 refine qn ?_
                 refine Wseq ?_
                 refine Wseq ?_
                 refine Wreg ?_
                 refine rs (v := .int .i64 j26) (mv (v := .int .i64 j26) rfl) rfl ?_
                 refine rs (v := .int .i64 e20) (mv (v := .int .i64 e20) rfl) rfl ?_
                 refine rs (v := .bool (decide (j26 < e20))) (lt' rfl rfl) rfl ?_
                 refine rn ?_
                 refine qn ?_
                 cases hb31 : (decide (j26 < e20))
                 · replace hp := gneg hp (of_decide_eq_false hb31)
                   refine Wcf rfl ?_
                   refine Wskip ?_
                   refine qn ?_
                   refine Wseq ?_
                   refine Wreg ?_
                   refine rs (v := .pointer (some ⟨b17, 0, none⟩)) (mv (v := .pointer (some ⟨b17, 0, none⟩)) rfl) rfl ?_
                   replace hp := bind_some hp; obtain ⟨r32, hr32, hp⟩ := hp
                   refine rc (cl Try.call14 rfl rfl) rfl ?_
                   refine link_Link_Tick_any hc hr32 ?_
                   clear hc; intro a33 n34 q35 w36 hc
                   obtain ⟨u37, _⟩ := Ctx.rdLen hc (k := 0) rfl rfl reads_own; subst u37
                   refine rs (v := .int .i64 ((r32.1.length : Nat) : Int)) (ln rfl Try.underlying29) rfl ?_
                   refine rs (v := .bool (decide (((r32.1.length : Nat) : Int) = 0))) (eqd rfl rfl) rfl ?_
                   refine rs (v := .bool (decide (((r32.1.length : Nat) : Int) = 0))) (av (v := .bool (decide (((r32.1.length : Nat) : Int) = 0))) rfl) rfl ?_
                   refine rn ?_
                   refine qn ?_
                   refine Wret ?_
                   replace hc := hc.rem 1 rfl rfl
                   replace hc := hc.rem 0 rfl rfl
                   injection hp with hp; subst hp
                   refine f1 (v := .bool (decide (((r32.1.length : Nat) : Int) = 0))) Try.results4 Try.ntmps4 rfl ?_
                   exact ⟨_, rfl, k _ hc⟩
                 · replace hp := gpos hp (of_decide_eq_true hb31)
                   refine Wct rfl ?_
                   refine Wseq ?_
                   refine Wreg ?_
                   refine rs (v := .bool true) (av (v := .bool true) rfl) rfl ?_
                   refine rn ?_
                   refine qn ?_
                   refine Wret ?_
                   refine qr ?_
                   replace hc := hc.rem 0 rfl rfl
                   injection hp with hp; subst hp
                   refine f1 (v := .bool true) Try.results4 Try.ntmps4 rfl ?_
                   exact ⟨_, rfl, k _ hc⟩
               · replace hp := gpos hp (of_decide_eq_true hb30)
                 refine Wct rfl ?_
                 refine Wskip ?_
                 refine qn ?_
                 refine Wseq ?_
                 refine Wblk ?_
                 refine Wseq ?_
                 refine Wreg ?_
                 refine rs (v := .pointer (some ⟨b17, 0, none⟩)) (mv (v := .pointer (some ⟨b17, 0, none⟩)) rfl) rfl ?_
                 replace hp := bind_some hp; obtain ⟨r38, hr38, hp⟩ := hp
                 refine rc (cl Try.call14 rfl rfl) rfl ?_
                 refine link_Link_Tick_any hc hr38 ?_
                 clear hc; intro a39 n40 q41 w42 hc
                 obtain ⟨u43, _⟩ := Ctx.rdLen hc (k := 0) rfl rfl reads_own; subst u43
                 refine rs (v := .slice a39 r38.1.length q41) (av (v := .slice a39 r38.1.length q41) rfl) rfl ?_
                 refine rn ?_
                 refine qn ?_
                 refine Wseq ?_
                 refine Wseq ?_
                 refine Wreg ?_
                 refine rs (v := .slice a39 r38.1.length q41) (mv (v := .slice a39 r38.1.length q41) rfl) rfl ?_
                 refine rs (v := .int .i64 ((r38.1.length : Nat) : Int)) (ln rfl Try.underlying29) rfl ?_
                 refine rs (v := .int .i64 e10) (mv (v := .int .i64 e10) rfl) rfl ?_
                 refine rs (v := .bool (decide (((r38.1.length : Nat) : Int) > e10))) (gt' rfl rfl) rfl ?_
                 refine rn ?_
                 refine qn ?_
                 cases hb44 : (decide (((r38.1.length : Nat) : Int) > e10))
                 · replace hp := gneg hp (of_decide_eq_false hb44)
                   refine Wcf rfl ?_
                   refine Wskip ?_
                   refine qn ?_
                   refine Wseq ?_
                   refine Wseq ?_
                   refine Wreg ?_
                   refine rs (v := .int .i64 0) (av (v := .int .i64 0) rfl) rfl ?_
                   refine rn ?_
                   refine qn ?_
                   refine Wblk ?_
                   refine Wloop (6 :: 13 :: 16 :: 17 :: 80 :: 81 :: 82 :: 83 :: 84 :: 85 :: 86 :: 87 :: 88 :: 89 :: 90 :: 91 :: 92 :: 93 :: 94 :: 95 :: 96 :: 97 :: 98 :: 99 :: 100 :: 101 :: 102 :: 103 :: 104 :: 105 :: 106 :: 107 :: 108 :: 109 :: 110 :: 111 :: 112 :: 113 :: 114 :: 115 :: 116 :: 117 :: 118 :: 119 :: 120 :: 121 :: 122 :: 123 :: 124 :: 125 :: 126 :: 127 :: 128 :: 129 :: 130 :: 131 :: 132 :: 133 :: 134 :: 135 :: 136 :: 137 :: 138 :: 139 :: 140 :: 141 :: 142 :: 143 :: 144 :: []) [13, 16] (fun m vs w' => ∃ j45 : Int, ∃ j46 : Int, vs = [.int .i64 j45, .int .i64 j46] ∧ law16_LinkWindow.L3 N x2 e10 e20 j26 j28 r38 (law16_LinkWindow.L2 N x2 e10 e20 m2) m j45 j46 = some r ∧ Ctx w' (Own S_api_Seg.pr 46 (.slice a39 r38.1.length q41) r38.1 :: S_link_Link.hp b17 r38.2 :: P2 :: Fr)) N ?_ ?_
                   · exact ⟨j27, 0, rfl, hp, hc⟩
                   · clear hp hc; intro m vs u w47 hJ
                     obtain ⟨j45, j46, rfl, hp, hc⟩ := hJ
                     rcases m with _ | m3
                     · cases (show none = some r from hp)
                     rw [law16_LinkWindow.L3] at hp
                     refine Wseq ?_
                     refine Wseq ?_
                     refine Wreg ?_
                     refine rs (v := .int .i64 j46) (mv (v := .int .i64 j46) rfl) rfl ?_
                     refine rs (v := .slice a39 r38.1.length q41) (mv (v := .slice a39 r38.1.length q41) rfl) rfl ?_
                     refine rs (v := .int .i64 ((r38.1.length : Nat) : Int)) (ln rfl Try.underlying29) rfl ?_
                     refine rs (v := .bool (decide (j46 < ((r38.1.length : Nat) : Int)))) (lt' rfl rfl) rfl ?_
                     refine rn ?_
                     refine qn ?_
                     cases hb48 : (decide (j46 < ((r38.1.length : Nat) : Int)))
                     · replace hp := gneg hp (of_decide_eq_false hb48)
                       refine Wcf rfl ?_
                       refine Wexit ?_
                       refine qx ?_
                       refine qx ?_
                       refine be ?_
                       refine qn ?_
                       refine Wseq ?_
                       refine Wreg ?_
                       refine rs (v := .int .i64 j45) (mv (v := .int .i64 j45) rfl) rfl ?_
                       refine rs (v := .int .i64 j26) (mv (v := .int .i64 j26) rfl) rfl ?_
                       refine rs (v := .slice ax2 x2.length qx2) (mv (v := .slice ax2 x2.length qx2) rfl) rfl ?_
                       refine rs (v := .int .i64 j28) (mv (v := .int .i64 j28) rfl) rfl ?_
                       replace hp := bind_some hp; obtain ⟨y49, hy49, hp⟩ := hp
                       obtain ⟨b52, o53, u54, hi50, hi51⟩ := Ctx.rdAt hc (k := 2) rfl rfl hrd2 hy49
                       subst u54
                       refine rs (v := .pointer (some ⟨b52, o53 + (j28).toNat * 1, none⟩)) (ixx rfl rfl Try.underlying48 Try.sizeOf3 hi50 hi51 rfl) rfl ?_
                       replace hc := Ctx.rdCell hc (k := 2) rfl rfl hrd2 hy49; obtain ⟨cs55, hc, hcell56⟩ := hc
                       replace hc := Ctx.holdC hc; obtain ⟨u57, hc⟩ := hc; subst u57
                       refine rs (v := .int .i64 y49) (ld rfl Try.isAgg3 (hcell56 0 _ rfl)) rfl ?_
                       refine rs (v := .int .i64 (Int.tmod y49 4)) (rm rfl rfl (by decide)) rfl ?_
                       refine rs (v := .int .i64 (IntKind.i64.wrap ((Int.tmod y49 4) + 4))) (adw rfl rfl) rfl ?_
                       refine rs (v := .int .i64 (Int.tmod (IntKind.i64.wrap ((Int.tmod y49 4) + 4)) 4)) (rm rfl rfl (by decide)) rfl ?_
                       refine rs (v := .int .i64 (IntKind.i64.wrap (j26 + (Int.tmod (IntKind.i64.wrap ((Int.tmod y49 4) + 4)) 4)))) (adw rfl rfl) rfl ?_
                       refine rs (v := .int .i64 (min j45 (IntKind.i64.wrap (j26 + (Int.tmod (IntKind.i64.wrap ((Int.tmod y49 4) + 4)) 4))))) (bmn rfl rfl Try.underlying3) rfl ?_
                       replace hp := bind_some hp; obtain ⟨e58, he58, hp⟩ := hp
                       injection he58 with he58
                       refine rs (v := .int .i64 e58) (av (v := .int .i64 e58) (by rw [← he58]; rfl)) rfl ?_
                       refine rn ?_
                       refine qn ?_
                       refine Wseq ?_
                       refine Wseq ?_
                       refine Wreg ?_
                       refine rs (v := .pointer (some ⟨b17, 0, none⟩)) (mv (v := .pointer (some ⟨b17, 0, none⟩)) rfl) rfl ?_
                       refine rs (v := .int .i64 e58) (mv (v := .int .i64 e58) rfl) rfl ?_
                       refine rs (v := .agg #[.int .i64 0, .int .i64 0, .int .i64 e58, .slice none 0 0]) (bd_46_2 rfl) rfl ?_
                       replace hc := hc.nilRo (pInt .u8)
                       replace hc := hc.dup (k := 0) rfl rfl
                       replace hp := bind_some hp; obtain ⟨r59, hr59, hp⟩ := hp
                       replace hc := hc.pull 3 rfl rfl
                       refine rc (cl Try.call15 rfl rfl) rfl ?_
                       refine link_Link_Hear_any (x1 := (⟨0, 0, e58, []⟩ : S_api_Seg)) hc hr59 ?_
                       clear hc; intro a60 n61 q62 w63 hc
                       obtain ⟨u64, _⟩ := Ctx.rdLen hc (k := 0) rfl rfl reads_own; subst u64
                       refine rs (v := .tuple #[.slice a60 r59.1.length q62, .int .i64 r59.2.1]) (mv (v := .tuple #[.slice a60 r59.1.length q62, .int .i64 r59.2.1]) rfl) rfl ?_
                       refine rs (v := .slice a60 r59.1.length q62) (ext (v := .slice a60 r59.1.length q62) rfl rfl) rfl ?_
                       refine rs (v := .int .i64 r59.2.1) (ext (v := .int .i64 r59.2.1) rfl rfl) rfl ?_
                       refine rs (v := .slice a60 r59.1.length q62) (av (v := .slice a60 r59.1.length q62) rfl) rfl ?_
                       refine rs (v := .int .i64 r59.2.1) (av (v := .int .i64 r59.2.1) rfl) rfl ?_
                       refine rn ?_
                       refine qn ?_
                       refine Wseq ?_
                       refine Wreg ?_
                       refine rs (v := .int .i64 r59.2.1) (mv (v := .int .i64 r59.2.1) rfl) rfl ?_
                       refine rs (v := .bool (decide (r59.2.1 ≠ 0))) (ned rfl rfl) rfl ?_
                       refine rn ?_
                       refine qn ?_
                       cases hb65 : (decide (r59.2.1 ≠ 0))
                       · replace hp := gneg hp (of_decide_eq_false hb65)
                         refine Wcf rfl ?_
                         refine Wskip ?_
                         refine qn ?_
                         refine Wseq ?_
                         refine Wreg ?_
                         refine rs (v := .int .i64 j26) (mv (v := .int .i64 j26) rfl) rfl ?_
                         refine rs (v := .int .i64 e58) (mv (v := .int .i64 e58) rfl) rfl ?_
                         refine rs (v := .int .i64 (max j26 e58)) (bmx rfl rfl Try.underlying3) rfl ?_
                         refine rs (v := .int .i64 (max j26 e58)) (av (v := .int .i64 (max j26 e58)) rfl) rfl ?_
                         refine rn ?_
                         refine qn ?_
                         refine Wseq ?_
                         refine Wreg ?_
                         refine rs (v := .pointer (some ⟨b17, 0, none⟩)) (mv (v := .pointer (some ⟨b17, 0, none⟩)) rfl) rfl ?_
                         replace hp := bind_some hp; obtain ⟨r66, hr66, hp⟩ := hp
                         replace hc := hc.pull 1 rfl rfl
                         refine rc (cl Try.call10 rfl rfl) rfl ?_
                         refine link_Link_Left_any hc hr66 ?_
                         clear hc; intro w67 hc
                         refine rs (v := .int .i64 e20) (mv (v := .int .i64 e20) rfl) rfl ?_
                         refine rs (v := .int .i64 (max j26 e58)) (mv (v := .int .i64 (max j26 e58)) rfl) rfl ?_
                         refine rs (v := .int .i64 (IntKind.i64.wrap (e20 - (max j26 e58)))) (sbw rfl rfl) rfl ?_
                         refine rs (v := .bool (decide (r66 ≠ (IntKind.i64.wrap (e20 - (max j26 e58)))))) (ned rfl rfl) rfl ?_
                         refine rn ?_
                         refine qn ?_
                         cases hb68 : (decide (r66 ≠ (IntKind.i64.wrap (e20 - (max j26 e58)))))
                         · replace hp := gneg hp (of_decide_eq_false hb68)
                           refine Wcf rfl ?_
                           refine Wskip ?_
                           refine bn ?_
                           refine qn ?_
                           refine Wreg ?_
                           refine rs (v := .int .i64 j28) (mv (v := .int .i64 j28) rfl) rfl ?_
                           refine rs (v := .int .i64 (IntKind.i64.wrap (j28 + 1))) (adw rfl rfl) rfl ?_
                           refine rs (v := .int .i64 (IntKind.i64.wrap (j28 + 1))) (av (v := .int .i64 (IntKind.i64.wrap (j28 + 1))) rfl) rfl ?_
                           refine rn ?_
                           refine qn ?_
                           replace hc := hc.rem 3 rfl rfl
                           replace hc := hc.rem 2 rfl rfl
                           replace hc := hc.rem 1 rfl rfl
                           exact ⟨m2, Nat.lt_succ_self _, ⟨r59.2.2, (max j26 e58), j45, (IntKind.i64.wrap (j28 + 1)), rfl, hp, hc⟩, (kl rfl (km rfl (kl rfl k0)))⟩
                         · replace hp := gpos hp (of_decide_eq_true hb68)
                           refine Wct rfl ?_
                           refine Wseq ?_
                           refine Wreg ?_
                           refine rs (v := .bool false) (av (v := .bool false) rfl) rfl ?_
                           refine rn ?_
                           refine qn ?_
                           refine Wret ?_
                           refine br ?_
                           refine qr ?_
                           refine qr ?_
                           refine br ?_
                           refine qr ?_
                           replace hc := hc.rem 3 rfl rfl
                           replace hc := hc.rem 2 rfl rfl
                           replace hc := hc.rem 1 rfl rfl
                           replace hc := hc.rem 0 rfl rfl
                           injection hp with hp; subst hp
                           refine f1 (v := .bool false) Try.results4 Try.ntmps4 rfl ?_
                           exact ⟨_, rfl, k _ hc⟩
                       · replace hp := gpos hp (of_decide_eq_true hb65)
                         refine Wct rfl ?_
                         refine Wseq ?_
                         refine Wreg ?_
                         refine rs (v := .bool false) (av (v := .bool false) rfl) rfl ?_
                         refine rn ?_
                         refine qn ?_
                         refine Wret ?_
                         refine qr ?_
                         refine br ?_
                         refine qr ?_
                         refine qr ?_
                         refine br ?_
                         refine qr ?_
                         replace hc := hc.rem 3 rfl rfl
                         replace hc := hc.rem 2 rfl rfl
                         replace hc := hc.rem 1 rfl rfl
                         replace hc := hc.rem 0 rfl rfl
                         injection hp with hp; subst hp
                         refine f1 (v := .bool false) Try.results4 Try.ntmps4 rfl ?_
                         exact ⟨_, rfl, k _ hc⟩
                     · replace hp := gpos hp (of_decide_eq_true hb48)
                       refine Wct rfl ?_
                       refine Wskip ?_
                       refine qn ?_
                       refine Wseq ?_
                       refine Wblk ?_
                       refine Wseq ?_
                       refine Wreg ?_
                       refine rs (v := .slice a39 r38.1.length q41) (mv (v := .slice a39 r38.1.length q41) rfl) rfl ?_
                       refine rs (v := .int .i64 j46) (mv (v := .int .i64 j46) rfl) rfl ?_
                       replace hp := bind_some hp; obtain ⟨y69, hy69, hp⟩ := hp
                       obtain ⟨b72, o73, u74, hi70, hi71⟩ := Ctx.rdAt hc (k := 0) rfl rfl reads_own hy69
                       subst u74
                       refine rs (v := .pointer (some ⟨b72, o73 + (j46).toNat * 4, none⟩)) (ixx rfl rfl Try.underlying29 Try.sizeOf46 hi70 hi71 rfl) rfl ?_
                       refine rs (v := .pointer (some ⟨b72, o73 + (j46).toNat * 4 + 1, none⟩)) (fax 1 rfl Try.underlying46 rfl Try.sizeOf3 rfl rfl rfl) rfl ?_
                       replace hc := Ctx.rdCell hc (k := 0) rfl rfl reads_own hy69; obtain ⟨cs75, hc, hcell76⟩ := hc
                       replace hc := S_api_Seg.op hc; obtain ⟨a78, q79, u77, hc⟩ := hc; subst u77
                       refine rs (v := .int .i64 y69.Seq) (ld rfl Try.isAgg3 (hcell76 1 _ rfl)) rfl ?_
                       refine rs (v := .int .i64 y69.Seq) (av (v := .int .i64 y69.Seq) rfl) rfl ?_
                       refine rn ?_
                       refine qn ?_
                       refine Wseq ?_
                       refine Wseqm [91, 92, 93, 94, 95, 96, 97, 98, 99, 100, 101, 102, 103, 104, 105, 106, 107, 108, 109, 110, 111, 112, 113, 114, 115, 116, 117, 118, 119, 120, 121, 122, 123, 124, 125, 126, 127, 128, 129, 130, 131, 132, 133, 134, 135, 136, 137, 138, 139, 140, 141] [141] (fun vs w' => ∃ j80 : Bool, vs = [.bool j80] ∧ law16_LinkWindow.J4 j45 j46 y69 (law16_LinkWindow.L3 N x2 e10 e20 j26 j28 r38 (law16_LinkWindow.L2 N x2 e10 e20 m2) m3) j80 = some r ∧ Ctx w' (Own S_api_Seg.pr 46 (.slice (some ⟨b72, o73, none⟩) r38.1.length q41) r38.1 :: S_link_Link.hp b17 r38.2 :: P2 :: Fr)) ?_ ?_
                       · refine Wreg ?_
                         refine rs (v := .int .i64 y69.Seq) (mv (v := .int .i64 y69.Seq) rfl) rfl ?_
                         refine rs (v := .int .i64 j26) (mv (v := .int .i64 j26) rfl) rfl ?_
                         refine rs (v := .bool (decide (y69.Seq ≤ j26))) (le' rfl rfl) rfl ?_
                         refine rs (v := .bool (decide (y69.Seq ≤ j26))) (mv (v := .bool (decide (y69.Seq ≤ j26))) rfl) rfl ?_
                         cases hb81 : (decide (y69.Seq ≤ j26))
                         · replace hp := gneg hp (of_decide_eq_false hb81)
                           refine rs (v := .int .i64 y69.Seq) (mv (v := .int .i64 y69.Seq) rfl) rfl ?_
                           refine rs (v := .int .i64 j26) (mv (v := .int .i64 j26) rfl) rfl ?_
                           refine rs (v := .int .i64 e10) (mv (v := .int .i64 e10) rfl) rfl ?_
                           refine rs (v := .int .i64 (IntKind.i64.wrap (j26 + e10))) (adw rfl rfl) rfl ?_
                           refine rs (v := .bool (decide (y69.Seq > (IntKind.i64.wrap (j26 + e10))))) (gt' rfl rfl) rfl ?_
                           refine rs (v := .bool (decide (y69.Seq > (IntKind.i64.wrap (j26 + e10))))) (pkf (v := .bool (decide (y69.Seq > (IntKind.i64.wrap (j26 + e10))))) rfl rfl) rfl ?_
                           refine rs (v := .bool (decide (y69.Seq > (IntKind.i64.wrap (j26 + e10))))) (mv (v := .bool (decide (y69.Seq > (IntKind.i64.wrap (j26 + e10))))) rfl) rfl ?_
                           cases hb82 : (decide (y69.Seq > (IntKind.i64.wrap (j26 + e10))))
                           · replace hp := gneg hp (of_decide_eq_false hb82)
                             refine rs (v := .int .i64 y69.Seq) (mv (v := .int .i64 y69.Seq) rfl) rfl ?_
                             refine rs (v := .int .i64 e20) (mv (v := .int .i64 e20) rfl) rfl ?_
                             refine rs (v := .bool (decide (y69.Seq > e20))) (gt' rfl rfl) rfl ?_
                             refine rs (v := .bool (decide (y69.Seq > e20))) (pkf (v := .bool (decide (y69.Seq > e20))) rfl rfl) rfl ?_
                             refine rs (v := .bool (decide (y69.Seq > e20))) (mv (v := .bool (decide (y69.Seq > e20))) rfl) rfl ?_
                             cases hb83 : (decide (y69.Seq > e20))
                             · replace hp := gneg hp (of_decide_eq_false hb83)
                               refine rs (v := .int .i64 j46) (mv (v := .int .i64 j46) rfl) rfl ?_
                               refine rs (v := .bool (decide (j46 > 0))) (gt' rfl rfl) rfl ?_
                               refine rs (v := .bool (decide (j46 > 0))) (mv (v := .bool (decide (j46 > 0))) rfl) rfl ?_
                               cases hb84 : (decide (j46 > 0))
                               · replace hp := gneg hp (of_decide_eq_false hb84)
                                 refine r0 rfl ?_
                                 refine r0 rfl ?_
                                 refine r0 rfl ?_
                                 refine r0 rfl ?_
                                 refine r0 rfl ?_
                                 refine r0 rfl ?_
                                 refine r0 rfl ?_
                                 refine r0 rfl ?_
                                 refine rs (v := .bool false) (pkf (v := .bool false) rfl rfl) rfl ?_
                                 refine rs (v := .bool false) (pkf (v := .bool false) rfl rfl) rfl ?_
                                 refine rs (v := .bool false) (mv (v := .bool false) rfl) rfl ?_
                                 refine rs (v := .slice (some ⟨b72, o73, none⟩) r38.1.length q41) (mv (v := .slice (some ⟨b72, o73, none⟩) r38.1.length q41) rfl) rfl ?_
                                 refine rs (v := .int .i64 j46) (mv (v := .int .i64 j46) rfl) rfl ?_
                                 replace hp := bind_some hp; obtain ⟨y85, hy85, hp⟩ := hp
                                 obtain ⟨b88, o89, u90, hi86, hi87⟩ := Ctx.rdAt hc (k := 1) rfl rfl reads_own hy85
                                 clear u90
                                 refine rs (v := .pointer (some ⟨b72, o73 + (j46).toNat * 4, none⟩)) (ixx rfl rfl Try.underlying29 Try.sizeOf46 hi86 hi87 rfl) rfl ?_
                                 refine rs (v := .pointer (some ⟨b72, o73 + (j46).toNat * 4 + 3, none⟩)) (fax 3 rfl Try.underlying46 rfl Try.sizeOf38 rfl rfl rfl) rfl ?_
                                 replace hc := Ctx.rdCell hc (k := 1) rfl rfl reads_own hy85; obtain ⟨cs91, hc, hcell92⟩ := hc
                                 replace hc := S_api_Seg.op hc; obtain ⟨a94, q95, u93, hc⟩ := hc; subst u93
                                 refine rs (v := .slice a94 y85.Body.length q95) (ld rfl Try.isAgg38 (hcell92 3 _ rfl)) rfl ?_
                                 refine rs (v := .int .i64 ((y85.Body.length : Nat) : Int)) (ln rfl Try.underlying38) rfl ?_
                                 refine rs (v := .bool (decide (((y85.Body.length : Nat) : Int) ≠ 1))) (ned rfl rfl) rfl ?_
                                 refine rs (v := .bool (decide (((y85.Body.length : Nat) : Int) ≠ 1))) (pkf (v := .bool (decide (((y85.Body.length : Nat) : Int) ≠ 1))) rfl rfl) rfl ?_
                                 refine rs (v := .bool (decide (((y85.Body.length : Nat) : Int) ≠ 1))) (mv (v := .bool (decide (((y85.Body.length : Nat) : Int) ≠ 1))) rfl) rfl ?_
                                 cases hb96 : (decide (((y85.Body.length : Nat) : Int) ≠ 1))
                                 · replace hp := gneg hp (of_decide_eq_false hb96)
                                   refine rs (v := .slice (some ⟨b72, o73, none⟩) r38.1.length q41) (mv (v := .slice (some ⟨b72, o73, none⟩) r38.1.length q41) rfl) rfl ?_
                                   refine rs (v := .int .i64 j46) (mv (v := .int .i64 j46) rfl) rfl ?_
                                   replace hp := bind_some hp; obtain ⟨y97, hy97, hp⟩ := hp
                                   obtain ⟨b100, o101, u102, hi98, hi99⟩ := Ctx.rdAt hc (k := 2) rfl rfl reads_own hy97
                                   clear u102
                                   refine rs (v := .pointer (some ⟨b72, o73 + (j46).toNat * 4, none⟩)) (ixx rfl rfl Try.underlying29 Try.sizeOf46 hi98 hi99 rfl) rfl ?_
                                   refine rs (v := .pointer (some ⟨b72, o73 + (j46).toNat * 4 + 3, none⟩)) (fax 3 rfl Try.underlying46 rfl Try.sizeOf38 rfl rfl rfl) rfl ?_
                                   replace hc := Ctx.rdCell hc (k := 2) rfl rfl reads_own hy97; obtain ⟨cs103, hc, hcell104⟩ := hc
                                   replace hc := S_api_Seg.op hc; obtain ⟨a106, q107, u105, hc⟩ := hc; subst u105
                                   refine rs (v := .slice a106 y97.Body.length q107) (ld rfl Try.isAgg38 (hcell104 3 _ rfl)) rfl ?_
                                   replace hp := bind_some hp; obtain ⟨y108, hy108, hp⟩ := hp
                                   obtain ⟨b111, o112, u113, hi109, hi110⟩ := Ctx.rdAt hc (k := 0) rfl rfl reads_ro hy108
                                   subst u113
                                   refine rs (v := .pointer (some ⟨b111, o112 + ((0 : Int)).toNat * 1, none⟩)) (ixx rfl rfl Try.underlying38 Try.sizeOf5 hi109 hi110 rfl) rfl ?_
                                   replace hc := Ctx.rdCell hc (k := 0) rfl rfl reads_ro hy108; obtain ⟨cs114, hc, hcell115⟩ := hc
                                   replace hc := Ctx.holdC hc; obtain ⟨u116, hc⟩ := hc; subst u116
                                   refine rs (v := .int .u8 y108) (ld rfl Try.isAgg5 (hcell115 0 _ rfl)) rfl ?_
                                   refine rs (v := .int .i64 (IntKind.i64.wrap y108)) (cvi rfl Try.underlying5 Try.underlying3) rfl ?_
                                   refine rs (v := .int .i64 y69.Seq) (mv (v := .int .i64 y69.Seq) rfl) rfl ?_
                                   refine rs (v := .int .i64 (IntKind.i64.wrap (y69.Seq - 1))) (sbw rfl rfl) rfl ?_
                                   refine rs (v := .bool (decide ((IntKind.i64.wrap y108) ≠ (IntKind.i64.wrap (y69.Seq - 1))))) (ned rfl rfl) rfl ?_
                                   refine rs (v := .bool (decide ((IntKind.i64.wrap y108) ≠ (IntKind.i64.wrap (y69.Seq - 1))))) (pkf (v := .bool (decide ((IntKind.i64.wrap y108) ≠ (IntKind.i64.wrap (y69.Seq - 1))))) rfl rfl) rfl ?_
                                   refine rn ?_
                                   refine qn ?_
                                   replace hc := hc.rem 2 rfl rfl
                                   replace hc := hc.rem 1 rfl rfl
                                   replace hc := hc.rem 0 rfl rfl
                                   exact ⟨⟨decide ((IntKind.i64.wrap y108) ≠ (IntKind.i64.wrap (y69.Seq - 1))), rfl, hp, hc⟩, (kl rfl kb)⟩
                                 · replace hp := gpos hp (of_decide_eq_true hb96)
                                   refine r0 rfl ?_
                                   refine r0 rfl ?_
                                   refine r0 rfl ?_
                                   refine r0 rfl ?_
                                   refine r0 rfl ?_
                                   refine r0 rfl ?_
                                   refine r0 rfl ?_
                                   refine r0 rfl ?_
                                   refine r0 rfl ?_
                                   refine r0 rfl ?_
                                   refine r0 rfl ?_
                                   refine rs (v := .bool true) (pkt (v := .bool true) rfl rfl) rfl ?_
                                   refine rn ?_
                                   refine qn ?_
                                   replace hc := hc.rem 1 rfl rfl
                                   replace hc := hc.rem 0 rfl rfl
                                   exact ⟨⟨true, rfl, hp, hc⟩, (kl rfl kb)⟩
                               · replace hp := gpos hp (of_decide_eq_true hb84)
                                 refine rs (v := .slice (some ⟨b72, o73, none⟩) r38.1.length q41) (mv (v := .slice (some ⟨b72, o73, none⟩) r38.1.length q41) rfl) rfl ?_
                                 refine rs (v := .int .i64 j46) (mv (v := .int .i64 j46) rfl) rfl ?_
                                 refine rs (v := .int .i64 (IntKind.i64.wrap (j46 - 1))) (sbw rfl rfl) rfl ?_
                                 replace hp := bind_some hp; obtain ⟨y117, hy117, hp⟩ := hp
                                 obtain ⟨b120, o121, u122, hi118, hi119⟩ := Ctx.rdAt hc (k := 1) rfl rfl reads_own hy117
                                 clear u122
                                 refine rs (v := .pointer (some ⟨b72, o73 + ((IntKind.i64.wrap (j46 - 1))).toNat * 4, none⟩)) (ixx rfl rfl Try.underlying29 Try.sizeOf46 hi118 hi119 rfl) rfl ?_
                                 refine rs (v := .pointer (some ⟨b72, o73 + ((IntKind.i64.wrap (j46 - 1))).toNat * 4 + 1, none⟩)) (fax 1 rfl Try.underlying46 rfl Try.sizeOf3 rfl rfl rfl) rfl ?_
                                 replace hc := Ctx.rdCell hc (k := 1) rfl rfl reads_own hy117; obtain ⟨cs123, hc, hcell124⟩ := hc
                                 replace hc := S_api_Seg.op hc; obtain ⟨a126, q127, u125, hc⟩ := hc; subst u125
                                 refine rs (v := .int .i64 y117.Seq) (ld rfl Try.isAgg3 (hcell124 1 _ rfl)) rfl ?_
                                 refine rs (v := .int .i64 y69.Seq) (mv (v := .int .i64 y69.Seq) rfl) rfl ?_
                                 refine rs (v := .bool (decide (y117.Seq ≥ y69.Seq))) (ge' rfl rfl) rfl ?_
                                 refine rs (v := .bool (decide (y117.Seq ≥ y69.Seq))) (pkt (v := .bool (decide (y117.Seq ≥ y69.Seq))) rfl rfl) rfl ?_
                                 refine rs (v := .bool (decide (y117.Seq ≥ y69.Seq))) (pkf (v := .bool (decide (y117.Seq ≥ y69.Seq))) rfl rfl) rfl ?_
                                 refine rs (v := .bool (decide (y117.Seq ≥ y69.Seq))) (mv (v := .bool (decide (y117.Seq ≥ y69.Seq))) rfl) rfl ?_
                                 cases hb128 : (decide (y117.Seq ≥ y69.Seq))
                                 · replace hp := gneg hp (of_decide_eq_false hb128)
                                   refine rs (v := .slice (some ⟨b72, o73, none⟩) r38.1.length q41) (mv (v := .slice (some ⟨b72, o73, none⟩) r38.1.length q41) rfl) rfl ?_
                                   refine rs (v := .int .i64 j46) (mv (v := .int .i64 j46) rfl) rfl ?_
                                   replace hp := bind_some hp; obtain ⟨y129, hy129, hp⟩ := hp
                                   obtain ⟨b132, o133, u134, hi130, hi131⟩ := Ctx.rdAt hc (k := 2) rfl rfl reads_own hy129
                                   clear u134
                                   refine rs (v := .pointer (some ⟨b72, o73 + (j46).toNat * 4, none⟩)) (ixx rfl rfl Try.underlying29 Try.sizeOf46 hi130 hi131 rfl) rfl ?_
                                   refine rs (v := .pointer (some ⟨b72, o73 + (j46).toNat * 4 + 3, none⟩)) (fax 3 rfl Try.underlying46 rfl Try.sizeOf38 rfl rfl rfl) rfl ?_
                                   replace hc := Ctx.rdCell hc (k := 2) rfl rfl reads_own hy129; obtain ⟨cs135, hc, hcell136⟩ := hc
                                   replace hc := S_api_Seg.op hc; obtain ⟨a138, q139, u137, hc⟩ := hc; subst u137
                                   refine rs (v := .slice a138 y129.Body.length q139) (ld rfl Try.isAgg38 (hcell136 3 _ rfl)) rfl ?_
                                   refine rs (v := .int .i64 ((y129.Body.length : Nat) : Int)) (ln rfl Try.underlying38) rfl ?_
                                   refine rs (v := .bool (decide (((y129.Body.length : Nat) : Int) ≠ 1))) (ned rfl rfl) rfl ?_
                                   refine rs (v := .bool (decide (((y129.Body.length : Nat) : Int) ≠ 1))) (pkf (v := .bool (decide (((y129.Body.length : Nat) : Int) ≠ 1))) rfl rfl) rfl ?_
                                   refine rs (v := .bool (decide (((y129.Body.length : Nat) : Int) ≠ 1))) (mv (v := .bool (decide (((y129.Body.length : Nat) : Int) ≠ 1))) rfl) rfl ?_
                                   cases hb140 : (decide (((y129.Body.length : Nat) : Int) ≠ 1))
                                   · replace hp := gneg hp (of_decide_eq_false hb140)
                                     refine rs (v := .slice (some ⟨b72, o73, none⟩) r38.1.length q41) (mv (v := .slice (some ⟨b72, o73, none⟩) r38.1.length q41) rfl) rfl ?_
                                     refine rs (v := .int .i64 j46) (mv (v := .int .i64 j46) rfl) rfl ?_
                                     replace hp := bind_some hp; obtain ⟨y141, hy141, hp⟩ := hp
                                     obtain ⟨b144, o145, u146, hi142, hi143⟩ := Ctx.rdAt hc (k := 3) rfl rfl reads_own hy141
                                     clear u146
                                     refine rs (v := .pointer (some ⟨b72, o73 + (j46).toNat * 4, none⟩)) (ixx rfl rfl Try.underlying29 Try.sizeOf46 hi142 hi143 rfl) rfl ?_
                                     refine rs (v := .pointer (some ⟨b72, o73 + (j46).toNat * 4 + 3, none⟩)) (fax 3 rfl Try.underlying46 rfl Try.sizeOf38 rfl rfl rfl) rfl ?_
                                     replace hc := Ctx.rdCell hc (k := 3) rfl rfl reads_own hy141; obtain ⟨cs147, hc, hcell148⟩ := hc
                                     replace hc := S_api_Seg.op hc; obtain ⟨a150, q151, u149, hc⟩ := hc; subst u149
                                     refine rs (v := .slice a150 y141.Body.length q151) (ld rfl Try.isAgg38 (hcell148 3 _ rfl)) rfl ?_
                                     replace hp := bind_some hp; obtain ⟨y152, hy152, hp⟩ := hp
                                     obtain ⟨b155, o156, u157, hi153, hi154⟩ := Ctx.rdAt hc (k := 0) rfl rfl reads_ro hy152
                                     subst u157
                                     refine rs (v := .pointer (some ⟨b155, o156 + ((0 : Int)).toNat * 1, none⟩)) (ixx rfl rfl Try.underlying38 Try.sizeOf5 hi153 hi154 rfl) rfl ?_
                                     replace hc := Ctx.rdCell hc (k := 0) rfl rfl reads_ro hy152; obtain ⟨cs158, hc, hcell159⟩ := hc
                                     replace hc := Ctx.holdC hc; obtain ⟨u160, hc⟩ := hc; subst u160
                                     refine rs (v := .int .u8 y152) (ld rfl Try.isAgg5 (hcell159 0 _ rfl)) rfl ?_
                                     refine rs (v := .int .i64 (IntKind.i64.wrap y152)) (cvi rfl Try.underlying5 Try.underlying3) rfl ?_
                                     refine rs (v := .int .i64 y69.Seq) (mv (v := .int .i64 y69.Seq) rfl) rfl ?_
                                     refine rs (v := .int .i64 (IntKind.i64.wrap (y69.Seq - 1))) (sbw rfl rfl) rfl ?_
                                     refine rs (v := .bool (decide ((IntKind.i64.wrap y152) ≠ (IntKind.i64.wrap (y69.Seq - 1))))) (ned rfl rfl) rfl ?_
                                     refine rs (v := .bool (decide ((IntKind.i64.wrap y152) ≠ (IntKind.i64.wrap (y69.Seq - 1))))) (pkf (v := .bool (decide ((IntKind.i64.wrap y152) ≠ (IntKind.i64.wrap (y69.Seq - 1))))) rfl rfl) rfl ?_
                                     refine rn ?_
                                     refine qn ?_
                                     replace hc := hc.rem 3 rfl rfl
                                     replace hc := hc.rem 2 rfl rfl
                                     replace hc := hc.rem 1 rfl rfl
                                     replace hc := hc.rem 0 rfl rfl
                                     exact ⟨⟨decide ((IntKind.i64.wrap y152) ≠ (IntKind.i64.wrap (y69.Seq - 1))), rfl, hp, hc⟩, (kl rfl kb)⟩
                                   · replace hp := gpos hp (of_decide_eq_true hb140)
                                     refine r0 rfl ?_
                                     refine r0 rfl ?_
                                     refine r0 rfl ?_
                                     refine r0 rfl ?_
                                     refine r0 rfl ?_
                                     refine r0 rfl ?_
                                     refine r0 rfl ?_
                                     refine r0 rfl ?_
                                     refine r0 rfl ?_
                                     refine r0 rfl ?_
                                     refine r0 rfl ?_
                                     refine rs (v := .bool true) (pkt (v := .bool true) rfl rfl) rfl ?_
                                     refine rn ?_
                                     refine qn ?_
                                     replace hc := hc.rem 2 rfl rfl
                                     replace hc := hc.rem 1 rfl rfl
                                     replace hc := hc.rem 0 rfl rfl
                                     exact ⟨⟨true, rfl, hp, hc⟩, (kl rfl kb)⟩
                                 · replace hp := gpos hp (of_decide_eq_true hb128)
                                   refine r0 rfl ?_
                                   refine r0 rfl ?_
                                   refine r0 rfl ?_
                                   refine r0 rfl ?_
                                   refine r0 rfl ?_
                                   refine r0 rfl ?_
                                   refine r0 rfl ?_
                                   refine rs (v := .bool true) (pkt (v := .bool true) rfl rfl) rfl ?_
                                   refine rs (v := .bool true) (mv (v := .bool true) rfl) rfl ?_
                                   refine r0 rfl ?_
                                   refine r0 rfl ?_
                                   refine r0 rfl ?_
                                   refine r0 rfl ?_
                                   refine r0 rfl ?_
                                   refine r0 rfl ?_
                                   refine r0 rfl ?_
                                   refine r0 rfl ?_
                                   refine r0 rfl ?_
                                   refine r0 rfl ?_
                                   refine r0 rfl ?_
                                   refine rs (v := .bool true) (pkt (v := .bool true) rfl rfl) rfl ?_
                                   refine rn ?_
                                   refine qn ?_
                                   replace hc := hc.rem 1 rfl rfl
                                   replace hc := hc.rem 0 rfl rfl
                                   exact ⟨⟨true, rfl, hp, hc⟩, (kl rfl kb)⟩
                             · replace hp := gpos hp (of_decide_eq_true hb83)
                               refine r0 rfl ?_
                               refine r0 rfl ?_
                               refine r0 rfl ?_
                               refine r0 rfl ?_
                               refine r0 rfl ?_
                               refine r0 rfl ?_
                               refine r0 rfl ?_
                               refine r0 rfl ?_
                               refine r0 rfl ?_
                               refine r0 rfl ?_
                               refine r0 rfl ?_
                               refine r0 rfl ?_
                               refine rs (v := .bool true) (pkt (v := .bool true) rfl rfl) rfl ?_
                               refine rs (v := .bool true) (mv (v := .bool true) rfl) rfl ?_
                               refine r0 rfl ?_
                               refine r0 rfl ?_
                               refine r0 rfl ?_
                               refine r0 rfl ?_
                               refine r0 rfl ?_
                               refine r0 rfl ?_
                               refine r0 rfl ?_
                               refine rs (v := .bool true) (pkt (v := .bool true) rfl rfl) rfl ?_
                               refine rs (v := .bool true) (mv (v := .bool true) rfl) rfl ?_
                               refine r0 rfl ?_
                               refine r0 rfl ?_
                               refine r0 rfl ?_
                               refine r0 rfl ?_
                               refine r0 rfl ?_
                               refine r0 rfl ?_
                               refine r0 rfl ?_
                               refine r0 rfl ?_
                               refine r0 rfl ?_
                               refine r0 rfl ?_
                               refine r0 rfl ?_
                               refine rs (v := .bool true) (pkt (v := .bool true) rfl rfl) rfl ?_
                               refine rn ?_
                               refine qn ?_
                               replace hc := hc.rem 0 rfl rfl
                               exact ⟨⟨true, rfl, hp, hc⟩, (kl rfl kb)⟩
                           · replace hp := gpos hp (of_decide_eq_true hb82)
                             refine r0 rfl ?_
                             refine r0 rfl ?_
                             refine r0 rfl ?_
                             refine rs (v := .bool true) (pkt (v := .bool true) rfl rfl) rfl ?_
                             refine rs (v := .bool true) (mv (v := .bool true) rfl) rfl ?_
                             refine r0 rfl ?_
                             refine r0 rfl ?_
                             refine r0 rfl ?_
                             refine r0 rfl ?_
                             refine r0 rfl ?_
                             refine r0 rfl ?_
                             refine r0 rfl ?_
                             refine r0 rfl ?_
                             refine r0 rfl ?_
                             refine r0 rfl ?_
                             refine r0 rfl ?_
                             refine r0 rfl ?_
                             refine rs (v := .bool true) (pkt (v := .bool true) rfl rfl) rfl ?_
                             refine rs (v := .bool true) (mv (v := .bool true) rfl) rfl ?_
                             refine r0 rfl ?_
                             refine r0 rfl ?_
                             refine r0 rfl ?_
                             refine r0 rfl ?_
                             refine r0 rfl ?_
                             refine r0 rfl ?_
                             refine r0 rfl ?_
                             refine rs (v := .bool true) (pkt (v := .bool true) rfl rfl) rfl ?_
                             refine rs (v := .bool true) (mv (v := .bool true) rfl) rfl ?_
                             refine r0 rfl ?_
                             refine r0 rfl ?_
                             refine r0 rfl ?_
                             refine r0 rfl ?_
                             refine r0 rfl ?_
                             refine r0 rfl ?_
                             refine r0 rfl ?_
                             refine r0 rfl ?_
                             refine r0 rfl ?_
                             refine r0 rfl ?_
                             refine r0 rfl ?_
                             refine rs (v := .bool true) (pkt (v := .bool true) rfl rfl) rfl ?_
                             refine rn ?_
                             refine qn ?_
                             replace hc := hc.rem 0 rfl rfl
                             exact ⟨⟨true, rfl, hp, hc⟩, (kl rfl kb)⟩
                         · replace hp := gpos hp (of_decide_eq_true hb81)
                           refine r0 rfl ?_
                           refine r0 rfl ?_
                           refine r0 rfl ?_
                           refine r0 rfl ?_
                           refine r0 rfl ?_
                           refine rs (v := .bool true) (pkt (v := .bool true) rfl rfl) rfl ?_
                           refine rs (v := .bool true) (mv (v := .bool true) rfl) rfl ?_
                           refine r0 rfl ?_
                           refine r0 rfl ?_
                           refine r0 rfl ?_
                           refine rs (v := .bool true) (pkt (v := .bool true) rfl rfl) rfl ?_
                           refine rs (v := .bool true) (mv (v := .bool true) rfl) rfl ?_
                           refine r0 rfl ?_
                           refine r0 rfl ?_
                           refine r0 rfl ?_
                           refine r0 rfl ?_
                           refine r0 rfl ?_
                           refine r0 rfl ?_
                           refine r0 rfl ?_
                           refine r0 rfl ?_
                           refine r0 rfl ?_
                           refine r0 rfl ?_
                           refine r0 rfl ?_
                           refine r0 rfl ?_
                           refine rs (v := .bool true) (pkt (v := .bool true) rfl rfl) rfl ?_
                           refine rs (v := .bool true) (mv (v := .bool true) rfl) rfl ?_
                           refine r0 rfl ?_
                           refine r0 rfl ?_
                           refine r0 rfl ?_
                           refine r0 rfl ?_
                           refine r0 rfl ?_
                           refine r0 rfl ?_
                           refine r0 rfl ?_
                           refine rs (v := .bool true) (pkt (v := .bool true) rfl rfl) rfl ?_
                           refine rs (v := .bool true) (mv (v := .bool true) rfl) rfl ?_
                           refine r0 rfl ?_
                           refine r0 rfl ?_
                           refine r0 rfl ?_
                           refine r0 rfl ?_
                           refine r0 rfl ?_
                           refine r0 rfl ?_
                           refine r0 rfl ?_
                           refine r0 rfl ?_
                           refine r0 rfl ?_
                           refine r0 rfl ?_
                           refine r0 rfl ?_
                           refine rs (v := .bool true) (pkt (v := .bool true) rfl rfl) rfl ?_
                           refine rn ?_
                           refine qn ?_
                           replace hc := hc.rem 0 rfl rfl
                           exact ⟨⟨true, rfl, hp, hc⟩, (kl rfl kb)⟩
                       · clear hp hc; intro vs u w161 hJ
                         obtain ⟨j80, rfl, hp, hc⟩ := hJ
                         unfold law16_LinkWindow.J4 at hp
                         cases hb162 : j80
                         · replace hp := gneg hp (by rw [hb162]; exact Bool.false_ne_true)
                           subst hb162
                           refine Wcf rfl ?_
                           refine Wskip ?_
                           refine qn ?_
                           refine Wreg ?_
                           refine rs (v := .int .i64 j45) (mv (v := .int .i64 j45) rfl) rfl ?_
                           refine rs (v := .int .i64 y69.Seq) (mv (v := .int .i64 y69.Seq) rfl) rfl ?_
                           refine rs (v := .int .i64 (max j45 y69.Seq)) (bmx rfl rfl Try.underlying3) rfl ?_
                           refine rs (v := .int .i64 (max j45 y69.Seq)) (av (v := .int .i64 (max j45 y69.Seq)) rfl) rfl ?_
                           refine rn ?_
                           refine bn ?_
                           refine qn ?_
                           refine Wreg ?_
                           refine rs (v := .int .i64 j46) (mv (v := .int .i64 j46) rfl) rfl ?_
                           refine rs (v := .int .i64 (IntKind.i64.wrap (j46 + 1))) (adw rfl rfl) rfl ?_
                           refine rs (v := .int .i64 (IntKind.i64.wrap (j46 + 1))) (av (v := .int .i64 (IntKind.i64.wrap (j46 + 1))) rfl) rfl ?_
                           refine rn ?_
                           refine qn ?_
                           exact ⟨m3, Nat.lt_succ_self _, ⟨(max j45 y69.Seq), (IntKind.i64.wrap (j46 + 1)), rfl, hp, hc⟩, (kl rfl (km rfl (kl rfl k0)))⟩
                         · replace hp := gpos hp hb162
                           subst hb162
                           refine Wct rfl ?_
                           refine Wseq ?_
                           refine Wreg ?_
                           refine rs (v := .bool false) (av (v := .bool false) rfl) rfl ?_
                           refine rn ?_
                           refine qn ?_
                           refine Wret ?_
                           refine qr ?_
                           refine br ?_
                           refine qr ?_
                           refine qr ?_
                           refine br ?_
                           refine qr ?_
                           refine br ?_
                           refine qr ?_
                           refine qr ?_
                           refine br ?_
                           refine qr ?_
                           replace hc := hc.rem 1 rfl rfl
                           replace hc := hc.rem 0 rfl rfl
                           injection hp with hp; subst hp
                           refine f1 (v := .bool false) Try.results4 Try.ntmps4 rfl ?_
                           exact ⟨_, rfl, k _ hc⟩
                 · replace hp := gpos hp (of_decide_eq_true hb44)
                   refine Wct rfl ?_
                   refine Wseq ?_
                   refine Wreg ?_
                   refine rs (v := .bool false) (av (v := .bool false) rfl) rfl ?_
                   refine rn ?_
                   refine qn ?_
                   refine Wret ?_
                   refine qr ?_
                   refine br ?_
                   refine qr ?_
                   refine qr ?_
                   refine br ?_
                   refine qr ?_
                   replace hc := hc.rem 1 rfl rfl
                   replace hc := hc.rem 0 rfl rfl
                   injection hp with hp; subst hp
                   refine f1 (v := .bool false) Try.results4 Try.ntmps4 rfl ?_
                   exact ⟨_, rfl, k _ hc⟩
           · replace hp := gpos hp (of_decide_eq_true hb24)
             refine Wct rfl ?_
             refine Wskip ?_
             refine qn ?_
             refine Wseq ?_
             refine Wblk ?_
             refine Wseq ?_
             refine Wreg ?_
             refine rs (v := .pointer (some ⟨b17, 0, none⟩)) (mv (v := .pointer (some ⟨b17, 0, none⟩)) rfl) rfl ?_
             refine rs (v := .int .i64 j22) (mv (v := .int .i64 j22) rfl) rfl ?_
             refine rs (v := .int .u8 (IntKind.u8.wrap j22)) (cvi rfl Try.underlying3 Try.underlying5) rfl ?_
             replace hc : Ctx w23 (Hold (pInt .u8) [.int .u8 (IntKind.u8.wrap j22)] (IntKind.u8.wrap j22) :: S_link_Link.hp b17 j21 :: P2 :: Fr) := hc.add _ fun _ _ _ => ⟨rfl, rfl⟩
             refine rsE (Ctx.builtOp (css := [[.int .u8 (IntKind.u8.wrap j22)]]) (xs := ([(IntKind.u8.wrap j22)] : List Int)) (E := (pInt .u8)) hc Try.underlying38 Try.sizeOf5 Try.zeroValue5 rfl rfl rfl rfl rfl rfl rfl rfl) rfl ?_
             clear hc; rintro _ w164 ⟨a163, rfl, hc⟩
             replace hc := hc.freeze (k := 0) rfl rfl rfl
             replace hc := hc.dup (k := 0) rfl rfl
             refine rsE (Ctx.builtOp (css := [[.slice a163 1 1]]) (xs := ([[(IntKind.u8.wrap j22)]] : List (List Int))) (E := (pRo (pInt .u8))) hc Try.underlying51 Try.sizeOf38 Try.zeroValue38 rfl rfl rfl rfl rfl rfl rfl rfl) rfl ?_
             clear hc; rintro _ w166 ⟨a165, rfl, hc⟩
             replace hp := bind_some hp; obtain ⟨r167, hr167, hp⟩ := hp
             replace hc := hc.pull 2 rfl rfl
             refine rc (cl Try.call13 rfl rfl) rfl ?_
             refine link_Link_Send_any reads_own hc hr167 ?_
             clear hc; intro w168 hc
             refine rs (v := .bool (decide (r167.1 ≠ 0))) (ned rfl rfl) rfl ?_
             refine rn ?_
             refine qn ?_
             cases hb169 : (decide (r167.1 ≠ 0))
             · replace hp := gneg hp (of_decide_eq_false hb169)
               refine Wcf rfl ?_
               refine Wskip ?_
               refine bn ?_
               refine qn ?_
               refine Wreg ?_
               refine rs (v := .int .i64 j22) (mv (v := .int .i64 j22) rfl) rfl ?_
               refine rs (v := .int .i64 (IntKind.i64.wrap (j22 + 1))) (adw rfl rfl) rfl ?_
               refine rs (v := .int .i64 (IntKind.i64.wrap (j22 + 1))) (av (v := .int .i64 (IntKind.i64.wrap (j22 + 1))) rfl) rfl ?_
               refine rn ?_
               refine qn ?_
               replace hc := hc.rem 2 rfl rfl
               replace hc := hc.rem 1 rfl rfl
               exact ⟨m1, Nat.lt_succ_self _, ⟨r167.2, (IntKind.i64.wrap (j22 + 1)), rfl, hp, hc⟩, (kl rfl k0)⟩
             · replace hp := gpos hp (of_decide_eq_true hb169)
               refine Wct rfl ?_
               refine Wseq ?_
               refine Wreg ?_
               refine rs (v := .bool false) (av (v := .bool false) rfl) rfl ?_
               refine rn ?_
               refine qn ?_
               refine Wret ?_
               refine br ?_
               refine qr ?_
               refine qr ?_
               refine br ?_
               refine qr ?_
               replace hc := hc.rem 2 rfl rfl
               replace hc := hc.rem 1 rfl rfl
               replace hc := hc.rem 0 rfl rfl
               injection hp with hp; subst hp
               refine f1 (v := .bool false) Try.results4 Try.ntmps4 rfl ?_
               exact ⟨_, rfl, k _ hc⟩
       · replace hp := gpos hp (of_decide_eq_true hb19)
         refine Wct rfl ?_
         refine Wseq ?_
         refine Wreg ?_
         refine rs (v := .bool false) (av (v := .bool false) rfl) rfl ?_
         refine rn ?_
         refine qn ?_
         refine Wret ?_
         refine qr ?_
         replace hc := hc.rem 1 rfl rfl
         replace hc := hc.rem 0 rfl rfl
         injection hp with hp; subst hp
         refine f1 (v := .bool false) Try.results4 Try.ntmps4 rfl ?_
         exact ⟨_, rfl, k _ hc⟩
   · replace hp := gpos hp (of_decide_eq_true hb9)
     refine Wct rfl ?_
     refine Wseq ?_
     refine Wreg ?_
     replace hp := bind_some hp; obtain ⟨r170, hr170, hp⟩ := hp
     refine rc (cl Try.call7 rfl rfl) rfl ?_
     refine law16_awake_any hc hr170 ?_
     clear hc; intro w171 hc
     refine rs (v := .bool r170) (av (v := .bool r170) rfl) rfl ?_
     refine rn ?_
     refine qn ?_
     refine Wret ?_
     refine qr ?_
     replace hc := hc.rem 0 rfl rfl
     injection hp with hp; subst hp
     refine f1 (v := .bool r170) Try.results4 Try.ntmps4 rfl ?_
     exact ⟨_, rfl, k _ hc⟩

end Go.Proofs.Ytjileigclbohdaa
