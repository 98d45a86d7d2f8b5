/- Functions of the program as plain functions, and the proofs that walks compute them. Printed by a program of this session. -/
import Derived.Test.YtglllajndogcmaaSl8
import Derived.Test.YtglllajndogcmaaProg
namespace Go.Proofs.Ytglllajndogcmaa
open Go Go.RowKit Go.Hp
set_option linter.unusedVariables false
set_option linter.unusedSimpArgs false
set_option maxRecDepth 100000

structure S_api_Request where
  ID : Int
  Most : Int
  Prompt : (List Int)
  deriving DecidableEq

def S_api_Request.pr : PR S_api_Request 3 := pMap (fun x : S_api_Request => (x.ID, x.Most, x.Prompt)) (pSeq (pInt .i64) (pSeq (pInt .i64) (pRo (pInt .i64))))

theorem S_api_Request.op {w : World} {l : List HP} {cs : List Value} {x : S_api_Request} (h : Ctx w (Hold S_api_Request.pr cs x :: l)) : ∃ a2 q2, cs = [.int .i64 x.ID, .int .i64 x.Most, .slice a2 x.Prompt.length q2] ∧ Ctx w (Hold (pRo (pInt .i64)) [.slice a2 x.Prompt.length q2] x.Prompt :: l) := by
  obtain ⟨R, Ss, hc⟩ := h
  match Ss, hc with
  | S :: Ss, hc =>
    obtain ⟨⟨rfl, ⟨_, _, rfl, rfl, ⟨_, _, rfl, rfl, ⟨_, rfl, a2, q2, rfl, hc2, hr2⟩⟩⟩⟩, h3⟩ := hc.all
    exact ⟨a2, q2, rfl, R, [] :: Ss, ⟨⟨rfl, _, rfl, a2, q2, rfl, hc2, hr2⟩, h3⟩, by simpa using hc.nodup, by simpa using hc.own, hc.fz⟩
theorem S_api_Request.cl {w : World} {l : List HP} {z0 : Int} {z1 : Int} {z2 : (List Int)} {v2 : Value} (h : Ctx w (Hold (pRo (pInt .i64)) [v2] z2 :: l)) : Ctx w (Hold S_api_Request.pr [.int .i64 z0, .int .i64 z1, v2] (⟨z0, z1, z2⟩ : S_api_Request) :: l) := by
  obtain ⟨R, Ss, hc⟩ := h
  match Ss, hc with
  | S2 :: Ss, hc =>
    obtain ⟨⟨rfl, _, e2, hr2⟩, h3⟩ := hc.all
    injection e2 with e2; subst e2
    exact ⟨R, [] :: Ss, ⟨⟨rfl, ⟨_, _, rfl, rfl, ⟨_, _, rfl, rfl, ⟨_, rfl, hr2⟩⟩⟩⟩, h3⟩, by simpa using hc.nodup, by simpa using hc.own, hc.fz⟩
  | [], hc => exact hc.all.elim

structure S_api_Shape where
  Layers : Int
  Width : Int
  Heads : Int
  Inner : Int
  Vocab : Int
  Places : Int
  deriving DecidableEq

def S_api_Shape.pr : PR S_api_Shape 6 := pC (fun x => [.int .i64 x.Layers, .int .i64 x.Width, .int .i64 x.Heads, .int .i64 x.Inner, .int .i64 x.Vocab, .int .i64 x.Places]) (fun _ => rfl) (fun _ => rfl)

structure S_admit_Desk where
  s : S_api_Shape
  room : Int
  row : (List S_api_Request)
  took : (List (Int × Bool))


def S_admit_Desk.hp (b : Nat) (x : S_admit_Desk) : HP := Ex fun v7 : Value => Ex fun v8 : Nat => Sep (Sep (B b [.int .i64 x.s.Layers, .int .i64 x.s.Width, .int .i64 x.s.Heads, .int .i64 x.s.Inner, .int .i64 x.s.Vocab, .int .i64 x.s.Places, .int .i64 x.room, v7, .map (some v8)] 59) (Own S_api_Request.pr 24 v7 x.row)) (Mp (ekI .i64) (HV vf1 pBool) v8 x.took)

structure S_ref21_Desk where
  S : S_api_Shape
  Room : Int
  L : (List S_api_Request)
  Ids : (List Int)
  deriving DecidableEq

def S_ref21_Desk.hp (b : Nat) (x : S_ref21_Desk) : HP := Ex fun v7 : Value => Ex fun v8 : Value => Sep (Sep (B b [.int .i64 x.S.Layers, .int .i64 x.S.Width, .int .i64 x.S.Heads, .int .i64 x.S.Inner, .int .i64 x.S.Vocab, .int .i64 x.S.Places, .int .i64 x.Room, v7, v8] 47) (Own S_api_Request.pr 24 v7 x.L)) (Own (pInt .i64) 3 v8 x.Ids)

-- FN slices.Index[[]int,int]
def slices_Index_s_int_int.L1 (x0 : (List Int)) (x1 : Int) : Nat → Int → Option (Int)
  | 0, _ => none
  | m1 + 1, j1 =>
    if j1 < ((x0.length : Nat) : Int) then
      (idx x0 j1).bind fun y4 =>
      if x1 = y4 then
        some j1
      else
        (slices_Index_s_int_int.L1 x0 x1 m1) (IntKind.i64.wrap (j1 + 1))
    else
      some (-1)

def slices_Index_s_int_int (N : Nat) (x0 : (List Int)) (x1 : Int) : Option (Int) :=
  slices_Index_s_int_int.L1 x0 x1 N 0

set_option maxHeartbeats 2000000 in
theorem slices_Index_s_int_int_any {N : Nat} {x0 : (List Int)} {ax0 : Option Addr} {nx0 : Nat} {qx0 : Nat} {P0 : HP} {x1 : Int} {Fr : List HP} {w : World} {r : Int} {K : Value → World → Prop} (hrd0 : Reads P0 (pInt .i64) (.slice ax0 nx0 qx0) x0) (hc : Ctx w (P0 :: Fr)) (hp : slices_Index_s_int_int N x0 x1 = some r)
    (k : ∀ w', Ctx w' (P0 :: Fr) → K (.int .i64 r) w') : Calls Try.prog 37 #[.slice ax0 nx0 qx0, .int .i64 x1] w (Ret K) := by
 unfold slices_Index_s_int_int at hp
 refine Center (args := [.slice ax0 nx0 qx0, .int .i64 x1]) (l := [(0, .slice ax0 nx0 qx0), (1, .int .i64 x1)]) Try.func37 Try.ntmps37 rfl rfl rfl ?_
 obtain ⟨hn0, _⟩ := Ctx.rdLen hc (k := 0) rfl rfl hrd0; subst hn0
 refine Wseq ?_
 refine Wreg ?_
 refine rs (v := .int .i64 0) (av (v := .int .i64 0) rfl) rfl ?_
 refine rn ?_
 refine qn ?_
 refine Wseq ?_
 refine Wseq ?_
 refine Wreg ?_
 refine rs (v := .slice ax0 x0.length qx0) (mv (v := .slice ax0 x0.length qx0) rfl) rfl ?_
 refine rs (v := .int .i64 ((x0.length : Nat) : Int)) (ln rfl Try.underlying22) rfl ?_
 refine rs (v := .int .i64 0) (mv (v := .int .i64 0) rfl) rfl ?_
 refine rn ?_
 refine qn ?_
 refine Wblk ?_
 refine Wloop [4, 5, 8, 9, 10, 11, 12, 13, 14, 15, 16, 17, 18] [8] (fun m vs w' => ∃ j1 : Int, vs = [.int .i64 j1] ∧ slices_Index_s_int_int.L1 x0 x1 m j1 = some r ∧ Ctx w' (P0 :: Fr)) N ?_ ?_
 · exact ⟨0, rfl, hp, hc⟩
 · clear hp hc; intro m vs u w2 hJ
   obtain ⟨j1, rfl, hp, hc⟩ := hJ
   rcases m with _ | m1
   · cases (show none = some r from hp)
   rw [slices_Index_s_int_int.L1] at hp
   refine Wseq ?_
   refine Wreg ?_
   refine rs (v := .bool (decide (j1 < ((x0.length : Nat) : Int)))) (lt' rfl rfl) rfl ?_
   refine rn ?_
   refine qn ?_
   refine Wseq ?_
   cases hb3 : (decide (j1 < ((x0.length : Nat) : Int)))
   · replace hp := gneg hp (of_decide_eq_false hb3)
     refine Wcf rfl ?_
     refine Wexit ?_
     refine qx ?_
     refine qx ?_
     refine be ?_
     refine qn ?_
     refine Wseq ?_
     refine Wreg ?_
     refine rs (v := .int .i64 (-1)) (av (v := .int .i64 (-1)) rfl) rfl ?_
     refine rn ?_
     refine qn ?_
     refine Wret ?_
     injection hp with hp; subst hp
     refine f1 (v := .int .i64 (-1)) Try.results37 Try.ntmps37 rfl ?_
     exact ⟨_, rfl, k _ hc⟩
   · replace hp := gpos hp (of_decide_eq_true hb3)
     refine Wct rfl ?_
     refine Wskip ?_
     refine qn ?_
     refine Wseq ?_
     refine Wblk ?_
     refine Wseq ?_
     refine Wreg ?_
     refine rs (v := .int .i64 j1) (mv (v := .int .i64 j1) rfl) rfl ?_
     refine rs (v := .int .i64 j1) (av (v := .int .i64 j1) rfl) rfl ?_
     refine rn ?_
     refine qn ?_
     refine Wseq ?_
     refine Wreg ?_
     refine rs (v := .int .i64 x1) (mv (v := .int .i64 x1) rfl) rfl ?_
     refine rs (v := .slice ax0 x0.length qx0) (mv (v := .slice ax0 x0.length qx0) rfl) rfl ?_
     refine rs (v := .int .i64 j1) (mv (v := .int .i64 j1) rfl) rfl ?_
     replace hp := bind_some hp; obtain ⟨y4, hy4, hp⟩ := hp
     obtain ⟨b7, o8, u9, hi5, hi6⟩ := Ctx.rdAt hc (k := 0) rfl rfl hrd0 hy4
     subst u9
     refine rs (v := .pointer (some ⟨b7, o8 + (j1).toNat * 1, none⟩)) (ixx rfl rfl Try.underlying22 Try.sizeOf3 hi5 hi6 rfl) rfl ?_
     replace hc := Ctx.rdCell hc (k := 0) rfl rfl hrd0 hy4; obtain ⟨cs10, hc, hcell11⟩ := hc
     replace hc := Ctx.holdC hc; obtain ⟨u12, hc⟩ := hc; subst u12
     refine rs (v := .int .i64 y4) (ld rfl Try.isAgg3 (hcell11 0 _ rfl)) rfl ?_
     refine rs (v := .bool (decide (x1 = y4))) (eqd rfl rfl) rfl ?_
     refine rn ?_
     refine qn ?_
     cases hb13 : (decide (x1 = y4))
     · replace hp := gneg hp (of_decide_eq_false hb13)
       refine Wcf rfl ?_
       refine Wskip ?_
       refine bn ?_
       refine qn ?_
       refine Wreg ?_
       refine rs (v := .int .i64 (IntKind.i64.wrap (j1 + 1))) (adw rfl rfl) rfl ?_
       refine rs (v := .int .i64 (IntKind.i64.wrap (j1 + 1))) (mv (v := .int .i64 (IntKind.i64.wrap (j1 + 1))) rfl) rfl ?_
       refine rn ?_
       refine qn ?_
       exact ⟨m1, Nat.lt_succ_self _, ⟨(IntKind.i64.wrap (j1 + 1)), rfl, hp, hc⟩, (kl rfl k0)⟩
     · replace hp := gpos hp (of_decide_eq_true hb13)
       refine Wct rfl ?_
       refine Wseq ?_
       refine Wreg ?_
       refine rs (v := .int .i64 j1) (mv (v := .int .i64 j1) rfl) rfl ?_
       refine rs (v := .int .i64 j1) (av (v := .int .i64 j1) rfl) rfl ?_
       refine rn ?_
       refine qn ?_
       refine Wret ?_
       refine br ?_
       refine qr ?_
       refine qr ?_
       refine br ?_
       refine qr ?_
       injection hp with hp; subst hp
       refine f1 (v := .int .i64 j1) Try.results37 Try.ntmps37 rfl ?_
       exact ⟨_, rfl, k _ hc⟩

-- FN slices.Contains[[]int,int]
def slices_Contains_s_int_int (N : Nat) (x0 : (List Int)) (x1 : Int) : Option (Bool) :=
  (slices_Index_s_int_int N x0 x1).bind fun r1 =>
  some (decide (r1 ≥ 0))

set_option maxHeartbeats 2000000 in
theorem slices_Contains_s_int_int_any {N : Nat} {x0 : (List Int)} {ax0 : Option Addr} {nx0 : Nat} {qx0 : Nat} {P0 : HP} {x1 : Int} {Fr : List HP} {w : World} {r : Bool} {K : Value → World → Prop} (hrd0 : Reads P0 (pInt .i64) (.slice ax0 nx0 qx0) x0) (hc : Ctx w (P0 :: Fr)) (hp : slices_Contains_s_int_int N x0 x1 = some r)
    (k : ∀ w', Ctx w' (P0 :: Fr) → K (.bool r) w') : Calls Try.prog 31 #[.slice ax0 nx0 qx0, .int .i64 x1] w (Ret K) := by
 unfold slices_Contains_s_int_int at hp
 refine Center (args := [.slice ax0 nx0 qx0, .int .i64 x1]) (l := [(0, .slice ax0 nx0 qx0), (1, .int .i64 x1)]) Try.func31 Try.ntmps31 rfl rfl rfl ?_
 obtain ⟨hn0, _⟩ := Ctx.rdLen hc (k := 0) rfl rfl hrd0; subst hn0
 refine Wseq ?_
 refine Wreg ?_
 refine rs (v := .bool false) (av (v := .bool false) rfl) rfl ?_
 refine rn ?_
 refine qn ?_
 refine Wseq ?_
 refine Wreg ?_
 refine rs (v := .slice ax0 x0.length qx0) (mv (v := .slice ax0 x0.length qx0) rfl) rfl ?_
 refine rs (v := .int .i64 x1) (mv (v := .int .i64 x1) rfl) rfl ?_
 replace hp := bind_some hp; obtain ⟨r1, hr1, hp⟩ := hp
 refine rc (cl Try.call37 rfl rfl) rfl ?_
 refine slices_Index_s_int_int_any hrd0 hc hr1 ?_
 clear hc; intro w2 hc
 refine rs (v := .bool (decide (r1 ≥ 0))) (ge' rfl rfl) rfl ?_
 refine rs (v := .bool (decide (r1 ≥ 0))) (av (v := .bool (decide (r1 ≥ 0))) rfl) rfl ?_
 refine rn ?_
 refine qn ?_
 refine Wret ?_
 injection hp with hp; subst hp
 refine f1 (v := .bool (decide (r1 ≥ 0))) Try.results31 Try.ntmps31 rfl ?_
 exact ⟨_, rfl, k _ hc⟩

-- FN slices.Clone[[]int,int]
def slices_Clone_s_int_int (x0 : (List Int)) : Option ((List Int)) :=
  (app ([]) x0).bind fun z3 =>
  some z3

set_option maxHeartbeats 2000000 in
theorem slices_Clone_s_int_int_any {x0 : (List Int)} {ax0 : Option Addr} {nx0 : Nat} {qx0 : Nat} {P0 : HP} {Fr : List HP} {w : World} {r : (List Int)} {K : Value → World → Prop} (hrd0 : Reads P0 (pInt .i64) (.slice ax0 nx0 qx0) x0) (hc : Ctx w (P0 :: Fr)) (hp : slices_Clone_s_int_int x0 = some r)
    (k : ∀ (a9 : Option Addr) (n10 : Nat) (q11 : Nat) w', Ctx w' (Own (pInt .i64) 3 (.slice a9 n10 q11) r :: P0 :: Fr) → K (.slice a9 n10 q11) w') : Calls Try.prog 24 #[.slice ax0 nx0 qx0] w (Ret K) := by
 unfold slices_Clone_s_int_int at hp
 refine Center (args := [.slice ax0 nx0 qx0]) (l := [(0, .slice ax0 nx0 qx0)]) Try.func24 Try.ntmps24 rfl rfl rfl ?_
 obtain ⟨hn0, _⟩ := Ctx.rdLen hc (k := 0) rfl rfl hrd0; subst hn0
 rcases ax0 with _ | ax0
 · have hx := Ctx.nilRows hc (k := 0) rfl rfl hrd0; subst hx
   replace hp := bind_some hp; obtain ⟨z, hz, hp⟩ := hp
   injection hp with hp; subst hp; obtain ⟨_, hz⟩ := app_some hz; subst hz
   refine Wseq ?_
   refine Wreg ?_
   refine rs (v := .slice none 0 0) (av (v := .slice none 0 0) rfl) rfl ?_
   refine rn ?_
   refine qn ?_
   refine Wseq ?_
   refine Wseq ?_
   refine Wreg ?_
   refine rs (v := .slice none (([] : List Int).length) qx0) (mv (v := .slice none (([] : List Int).length) qx0) rfl) rfl ?_
   refine rs (v := .bool true) (esnT Try.underlying22 rfl rfl) rfl ?_
   refine rn ?_
   refine qn ?_
   refine Wct rfl ?_
   refine Wseq ?_
   refine Wreg ?_
   refine rs (v := .slice none 0 0) (av (v := .slice none 0 0) rfl) rfl ?_
   refine rn ?_
   refine qn ?_
   refine Wret ?_
   refine qr ?_
   replace hc := hc.nilOwn (pInt .i64) 3
   refine f1 (v := .slice none 0 0) Try.results24 Try.ntmps24 rfl ?_
   exact ⟨_, rfl, k _ _ _ _ hc⟩
 · refine Wseq ?_
   refine Wreg ?_
   refine rs (v := .slice none 0 0) (av (v := .slice none 0 0) rfl) rfl ?_
   refine rn ?_
   refine qn ?_
   refine Wseq ?_
   refine Wseq ?_
   refine Wreg ?_
   refine rs (v := .slice (some ax0) x0.length qx0) (mv (v := .slice (some ax0) x0.length qx0) rfl) rfl ?_
   refine rs (v := .bool false) (esnF Try.underlying22 rfl rfl) rfl ?_
   refine rn ?_
   refine qn ?_
   refine Wcf rfl ?_
   refine Wskip ?_
   refine qn ?_
   refine Wseq ?_
   refine Wreg ?_
   refine rsE (Ctx.builtOp (css := []) (xs := ([] : List Int)) (E := (pInt .i64)) hc Try.underlying22 Try.sizeOf3 Try.zeroValue3 rfl rfl rfl rfl rfl rfl rfl rfl) rfl ?_
   clear hc; rintro _ w2 ⟨a1, rfl, hc⟩
   refine rs (v := .slice (some ax0) x0.length qx0) (mv (v := .slice (some ax0) x0.length qx0) rfl) rfl ?_
   replace hp := bind_some hp; obtain ⟨z3, hz3, hp⟩ := hp
   obtain ⟨hg4, e5⟩ := app_some hz3
   refine rsE (Ctx.append hc (k := 0) rfl rfl (k2 := 1) rfl rfl hrd0 Try.underlying22 (i := Try.t3) rfl rfl rfl rfl rfl rfl rfl rfl hg4) rfl ?_
   clear hc; rintro _ w8 ⟨a6, q7, rfl, hc⟩
   rw [← e5] at hc ⊢
   refine rs (v := .slice a6 z3.length q7) (av (v := .slice a6 z3.length q7) rfl) rfl ?_
   refine rn ?_
   refine qn ?_
   refine Wret ?_
   injection hp with hp; subst hp
   refine f1 (v := .slice a6 z3.length q7) Try.results24 Try.ntmps24 rfl ?_
   exact ⟨_, rfl, k _ _ _ _ hc⟩

-- FN slices.IndexFunc[[]int,int]
def slices_IndexFunc_s_int_int.L1 (x0 : (List Int)) (x1 : (Int → Option Bool)) : Nat → Int → Option (Int)
  | 0, _ => none
  | m1 + 1, j1 =>
    if j1 < ((x0.length : Nat) : Int) then
      (idx x0 j1).bind fun y4 =>
      (x1 y4).bind fun r13 =>
      if r13 = true then
        some j1
      else
        (slices_IndexFunc_s_int_int.L1 x0 x1 m1) (IntKind.i64.wrap (j1 + 1))
    else
      some (-1)

def slices_IndexFunc_s_int_int (N : Nat) (x0 : (List Int)) (x1 : (Int → Option Bool)) : Option (Int) :=
  slices_IndexFunc_s_int_int.L1 x0 x1 N 0

set_option maxHeartbeats 2000000 in
theorem slices_IndexFunc_s_int_int_any {N : Nat} {x0 : (List Int)} {ax0 : Option Addr} {nx0 : Nat} {qx0 : Nat} {P0 : HP} {x1 : (Int → Option Bool)} {fid1 : FuncId} {cap1 : List Value} {Fr : List HP} {w : World} {r : Int} {K : Value → World → Prop} (hrd0 : Reads P0 (pInt .i64) (.slice ax0 nx0 qx0) x0) (hcl1 : ∀ a w, (callFunc fid1 a).run Try.prog w = .ok (.enter fid1 a) w) (hf1 : ∀ (y0 : Int) (Qs : List HP) (w : World) (r : Bool) (K : Value → World → Prop), Ctx w ((Qs ++ Fr)) → x1 y0 = some r → (∀ w', Ctx w' (Qs ++ Fr) → K (.bool r) w') → Calls Try.prog fid1 (([.int .i64 y0] : List Value) ++ cap1).toArray w (Ret K)) (hc : Ctx w (P0 :: Fr)) (hp : slices_IndexFunc_s_int_int N x0 x1 = some r)
    (k : ∀ w', Ctx w' (P0 :: Fr) → K (.int .i64 r) w') : Calls Try.prog 38 #[.slice ax0 nx0 qx0, .func (.func fid1) #[] cap1.toArray] w (Ret K) := by
 unfold slices_IndexFunc_s_int_int at hp
 refine Center (args := [.slice ax0 nx0 qx0, .func (.func fid1) #[] cap1.toArray]) (l := [(0, .slice ax0 nx0 qx0), (1, .func (.func fid1) #[] cap1.toArray)]) Try.func38 Try.ntmps38 rfl rfl rfl ?_
 obtain ⟨hn0, _⟩ := Ctx.rdLen hc (k := 0) rfl rfl hrd0; subst hn0
 refine Wseq ?_
 refine Wreg ?_
 refine rs (v := .int .i64 0) (av (v := .int .i64 0) rfl) rfl ?_
 refine rn ?_
 refine qn ?_
 refine Wseq ?_
 refine Wseq ?_
 refine Wreg ?_
 refine rs (v := .slice ax0 x0.length qx0) (mv (v := .slice ax0 x0.length qx0) rfl) rfl ?_
 refine rs (v := .int .i64 ((x0.length : Nat) : Int)) (ln rfl Try.underlying22) rfl ?_
 refine rs (v := .int .i64 0) (mv (v := .int .i64 0) rfl) rfl ?_
 refine rn ?_
 refine qn ?_
 refine Wblk ?_
 refine Wloop [4, 5, 8, 9, 10, 11, 12, 13, 14, 15, 16, 17, 18] [8] (fun m vs w' => ∃ j1 : Int, vs = [.int .i64 j1] ∧ slices_IndexFunc_s_int_int.L1 x0 x1 m j1 = some r ∧ Ctx w' (P0 :: Fr)) N ?_ ?_
 · exact ⟨0, rfl, hp, hc⟩
 · clear hp hc; intro m vs u w2 hJ
   obtain ⟨j1, rfl, hp, hc⟩ := hJ
   rcases m with _ | m1
   · cases (show none = some r from hp)
   rw [slices_IndexFunc_s_int_int.L1] at hp
   refine Wseq ?_
   refine Wreg ?_
   refine rs (v := .bool (decide (j1 < ((x0.length : Nat) : Int)))) (lt' rfl rfl) rfl ?_
   refine rn ?_
   refine qn ?_
   refine Wseq ?_
   cases hb3 : (decide (j1 < ((x0.length : Nat) : Int)))
   · replace hp := gneg hp (of_decide_eq_false hb3)
     refine Wcf rfl ?_
     refine Wexit ?_
     refine qx ?_
     refine qx ?_
     refine be ?_
     refine qn ?_
     refine Wseq ?_
     refine Wreg ?_
     refine rs (v := .int .i64 (-1)) (av (v := .int .i64 (-1)) rfl) rfl ?_
     refine rn ?_
     refine qn ?_
     refine Wret ?_
     injection hp with hp; subst hp
     refine f1 (v := .int .i64 (-1)) Try.results38 Try.ntmps38 rfl ?_
     exact ⟨_, rfl, k _ hc⟩
   · replace hp := gpos hp (of_decide_eq_true hb3)
     refine Wct rfl ?_
     refine Wskip ?_
     refine qn ?_
     refine Wseq ?_
     refine Wblk ?_
     refine Wseq ?_
     refine Wreg ?_
     refine rs (v := .int .i64 j1) (mv (v := .int .i64 j1) rfl) rfl ?_
     refine rs (v := .int .i64 j1) (av (v := .int .i64 j1) rfl) rfl ?_
     refine rn ?_
     refine qn ?_
     refine Wseq ?_
     refine Wreg ?_
     refine rs (v := .func (.func fid1) #[] cap1.toArray) (mv (v := .func (.func fid1) #[] cap1.toArray) rfl) rfl ?_
     refine rs (v := .slice ax0 x0.length qx0) (mv (v := .slice ax0 x0.length qx0) rfl) rfl ?_
     refine rs (v := .int .i64 j1) (mv (v := .int .i64 j1) rfl) rfl ?_
     replace hp := bind_some hp; obtain ⟨y4, hy4, hp⟩ := hp
     obtain ⟨b7, o8, u9, hi5, hi6⟩ := Ctx.rdAt hc (k := 0) rfl rfl hrd0 hy4
     subst u9
     refine rs (v := .pointer (some ⟨b7, o8 + (j1).toNat * 1, none⟩)) (ixx rfl rfl Try.underlying22 Try.sizeOf3 hi5 hi6 rfl) rfl ?_
     replace hc := Ctx.rdCell hc (k := 0) rfl rfl hrd0 hy4; obtain ⟨cs10, hc, hcell11⟩ := hc
     replace hc := Ctx.holdC hc; obtain ⟨u12, hc⟩ := hc; subst u12
     refine rs (v := .int .i64 y4) (ld rfl Try.isAgg3 (hcell11 0 _ rfl)) rfl ?_
     replace hp := bind_some hp; obtain ⟨r13, hr13, hp⟩ := hp
     refine rc (cv (fi := []) (ca := cap1) (vs := ([.int .i64 y4] : List Value) ++ cap1) hcl1 rfl rfl) rfl ?_
     refine hf1 _ [P0] _ _ _ hc hr13 ?_
     clear hc; intro w14 hc
     replace hc : Ctx w14 (P0 :: Fr) := hc
     refine rn ?_
     refine qn ?_
     cases hb15 : r13
     · replace hp := gneg hp (by rw [hb15]; exact Bool.false_ne_true)
       subst hb15
       refine Wcf rfl ?_
       refine Wskip ?_
       refine bn ?_
       refine qn ?_
       refine Wreg ?_
       refine rs (v := .int .i64 (IntKind.i64.wrap (j1 + 1))) (adw rfl rfl) rfl ?_
       refine rs (v := .int .i64 (IntKind.i64.wrap (j1 + 1))) (mv (v := .int .i64 (IntKind.i64.wrap (j1 + 1))) rfl) rfl ?_
       refine rn ?_
       refine qn ?_
       exact ⟨m1, Nat.lt_succ_self _, ⟨(IntKind.i64.wrap (j1 + 1)), rfl, hp, hc⟩, (kl rfl k0)⟩
     · replace hp := gpos hp hb15
       subst hb15
       refine Wct rfl ?_
       refine Wseq ?_
       refine Wreg ?_
       refine rs (v := .int .i64 j1) (mv (v := .int .i64 j1) rfl) rfl ?_
       refine rs (v := .int .i64 j1) (av (v := .int .i64 j1) rfl) rfl ?_
       refine rn ?_
       refine qn ?_
       refine Wret ?_
       refine br ?_
       refine qr ?_
       refine qr ?_
       refine br ?_
       refine qr ?_
       injection hp with hp; subst hp
       refine f1 (v := .int .i64 j1) Try.results38 Try.ntmps38 rfl ?_
       exact ⟨_, rfl, k _ hc⟩

-- FN slices.ContainsFunc[[]int,int]
def slices_ContainsFunc_s_int_int (N : Nat) (x0 : (List Int)) (x1 : (Int → Option Bool)) : Option (Bool) :=
  (slices_IndexFunc_s_int_int N x0 x1).bind fun r2 =>
  some (decide (r2 ≥ 0))

set_option maxHeartbeats 2000000 in
theorem slices_ContainsFunc_s_int_int_any {N : Nat} {x0 : (List Int)} {ax0 : Option Addr} {nx0 : Nat} {qx0 : Nat} {P0 : HP} {x1 : (Int → Option Bool)} {fid1 : FuncId} {cap1 : List Value} {Fr : List HP} {w : World} {r : Bool} {K : Value → World → Prop} (hrd0 : Reads P0 (pInt .i64) (.slice ax0 nx0 qx0) x0) (hcl1 : ∀ a w, (callFunc fid1 a).run Try.prog w = .ok (.enter fid1 a) w) (hf1 : ∀ (y0 : Int) (Qs : List HP) (w : World) (r : Bool) (K : Value → World → Prop), Ctx w ((Qs ++ Fr)) → x1 y0 = some r → (∀ w', Ctx w' (Qs ++ Fr) → K (.bool r) w') → Calls Try.prog fid1 (([.int .i64 y0] : List Value) ++ cap1).toArray w (Ret K)) (hc : Ctx w (P0 :: Fr)) (hp : slices_ContainsFunc_s_int_int N x0 x1 = some r)
    (k : ∀ w', Ctx w' (P0 :: Fr) → K (.bool r) w') : Calls Try.prog 35 #[.slice ax0 nx0 qx0, .func (.func fid1) #[] cap1.toArray] w (Ret K) := by
 unfold slices_ContainsFunc_s_int_int at hp
 refine Center (args := [.slice ax0 nx0 qx0, .func (.func fid1) #[] cap1.toArray]) (l := [(0, .slice ax0 nx0 qx0), (1, .func (.func fid1) #[] cap1.toArray)]) Try.func35 Try.ntmps35 rfl rfl rfl ?_
 obtain ⟨hn0, _⟩ := Ctx.rdLen hc (k := 0) rfl rfl hrd0; subst hn0
 refine Wseq ?_
 refine Wreg ?_
 refine rs (v := .bool false) (av (v := .bool false) rfl) rfl ?_
 refine rn ?_
 refine qn ?_
 refine Wseq ?_
 refine Wreg ?_
 refine rs (v := .slice ax0 x0.length qx0) (mv (v := .slice ax0 x0.length qx0) rfl) rfl ?_
 refine rs (v := .func (.func fid1) #[] cap1.toArray) (mv (v := .func (.func fid1) #[] cap1.toArray) rfl) rfl ?_
 have hf1 : ∀ (y0 : Int) (Qs : List HP) (w : World) (r : Bool) (K : Value → World → Prop), Ctx w ((Qs ++ (Fr))) → x1 y0 = some r → (∀ w', Ctx w' (Qs ++ (Fr)) → K (.bool r) w') → Calls Try.prog fid1 (([.int .i64 y0] : List Value) ++ cap1).toArray w (Ret K) := by
   intro z0 Qs w r K hc hp k
   refine hf1 z0 (Qs ++ []) w r K (by rw [List.append_assoc]; exact hc) hp (fun w' hc' => k w' (by rw [List.append_assoc] at hc'; exact hc'))
 replace hp := bind_some hp; obtain ⟨r2, hr2, hp⟩ := hp
 refine rc (cl Try.call38 rfl rfl) rfl ?_
 refine slices_IndexFunc_s_int_int_any hrd0 hcl1 hf1 hc hr2 ?_
 clear hc; intro w3 hc
 refine rs (v := .bool (decide (r2 ≥ 0))) (ge' rfl rfl) rfl ?_
 refine rs (v := .bool (decide (r2 ≥ 0))) (av (v := .bool (decide (r2 ≥ 0))) rfl) rfl ?_
 refine rn ?_
 refine qn ?_
 refine Wret ?_
 injection hp with hp; subst hp
 refine f1 (v := .bool (decide (r2 ≥ 0))) Try.results35 Try.ntmps35 rfl ?_
 exact ⟨_, rfl, k _ hc⟩

-- FN slices.IndexFunc[[]peloton/api.Request,peloton/api.Request]
def slices_IndexFunc_s_api_Request_api_Request.L1 (x0 : (List S_api_Request)) (x1 : (S_api_Request → Option Bool)) : Nat → Int → Option (Int)
  | 0, _ => none
  | m1 + 1, j1 =>
    if j1 < ((x0.length : Nat) : Int) then
      (idx x0 j1).bind fun y4 =>
      (x1 y4).bind fun r15 =>
      if r15 = true then
        some j1
      else
        (slices_IndexFunc_s_api_Request_api_Request.L1 x0 x1 m1) (IntKind.i64.wrap (j1 + 1))
    else
      some (-1)

def slices_IndexFunc_s_api_Request_api_Request (N : Nat) (x0 : (List S_api_Request)) (x1 : (S_api_Request → Option Bool)) : Option (Int) :=
  slices_IndexFunc_s_api_Request_api_Request.L1 x0 x1 N 0

set_option maxHeartbeats 2000000 in
theorem slices_IndexFunc_s_api_Request_api_Request_any {N : Nat} {x0 : (List S_api_Request)} {ax0 : Option Addr} {nx0 : Nat} {qx0 : Nat} {P0 : HP} {x1 : (S_api_Request → Option Bool)} {fid1 : FuncId} {cap1 : List Value} {Fr : List HP} {w : World} {r : Int} {K : Value → World → Prop} (hrd0 : Reads P0 S_api_Request.pr (.slice ax0 nx0 qx0) x0) (hcl1 : ∀ a w, (callFunc fid1 a).run Try.prog w = .ok (.enter fid1 a) w) (hf1 : ∀ (y0 : S_api_Request) (a1 : Option Addr) (n2 : Nat) (q3 : Nat) (Qs : List HP) (w : World) (r : Bool) (K : Value → World → Prop), Ctx w (Hold (pRo (pInt .i64)) [.slice a1 n2 q3] y0.Prompt :: (Qs ++ Fr)) → x1 y0 = some r → (∀ w', Ctx w' (Qs ++ Fr) → K (.bool r) w') → Calls Try.prog fid1 (([.agg #[.int .i64 y0.ID, .int .i64 y0.Most, .slice a1 n2 q3]] : List Value) ++ cap1).toArray w (Ret K)) (hc : Ctx w (P0 :: Fr)) (hp : slices_IndexFunc_s_api_Request_api_Request N x0 x1 = some r)
    (k : ∀ w', Ctx w' (P0 :: Fr) → K (.int .i64 r) w') : Calls Try.prog 36 #[.slice ax0 nx0 qx0, .func (.func fid1) #[] cap1.toArray] w (Ret K) := by
 unfold slices_IndexFunc_s_api_Request_api_Request at hp
 refine Center (args := [.slice ax0 nx0 qx0, .func (.func fid1) #[] cap1.toArray]) (l := [(0, .slice ax0 nx0 qx0), (1, .func (.func fid1) #[] cap1.toArray)]) Try.func36 Try.ntmps36 rfl rfl rfl ?_
 obtain ⟨hn0, _⟩ := Ctx.rdLen hc (k := 0) rfl rfl hrd0; subst hn0
 refine Wseq ?_
 refine Wreg ?_
 refine rs (v := .int .i64 0) (av (v := .int .i64 0) rfl) rfl ?_
 refine rn ?_
 refine qn ?_
 refine Wseq ?_
 refine Wseq ?_
 refine Wreg ?_
 refine rs (v := .slice ax0 x0.length qx0) (mv (v := .slice ax0 x0.length qx0) rfl) rfl ?_
 refine rs (v := .int .i64 ((x0.length : Nat) : Int)) (ln rfl Try.underlying45) rfl ?_
 refine rs (v := .int .i64 0) (mv (v := .int .i64 0) rfl) rfl ?_
 refine rn ?_
 refine qn ?_
 refine Wblk ?_
 refine Wloop [4, 5, 8, 9, 10, 11, 12, 13, 14, 15, 16, 17, 18] [8] (fun m vs w' => ∃ j1 : Int, vs = [.int .i64 j1] ∧ slices_IndexFunc_s_api_Request_api_Request.L1 x0 x1 m j1 = some r ∧ Ctx w' (P0 :: Fr)) N ?_ ?_
 · exact ⟨0, rfl, hp, hc⟩
 · clear hp hc; intro m vs u w2 hJ
   obtain ⟨j1, rfl, hp, hc⟩ := hJ
   rcases m with _ | m1
   · cases (show none = some r from hp)
   rw [slices_IndexFunc_s_api_Request_api_Request.L1] at hp
   refine Wseq ?_
   refine Wreg ?_
   refine rs (v := .bool (decide (j1 < ((x0.length : Nat) : Int)))) (lt' rfl rfl) rfl ?_
   refine rn ?_
   refine qn ?_
   refine Wseq ?_
   cases hb3 : (decide (j1 < ((x0.length : Nat) : Int)))
   · replace hp := gneg hp (of_decide_eq_false hb3)
     refine Wcf rfl ?_
     refine Wexit ?_
     refine qx ?_
     refine qx ?_
     refine be ?_
     refine qn ?_
     refine Wseq ?_
     refine Wreg ?_
     refine rs (v := .int .i64 (-1)) (av (v := .int .i64 (-1)) rfl) rfl ?_
     refine rn ?_
     refine qn ?_
     refine Wret ?_
     injection hp with hp; subst hp
     refine f1 (v := .int .i64 (-1)) Try.results36 Try.ntmps36 rfl ?_
     exact ⟨_, rfl, k _ hc⟩
   · replace hp := gpos hp (of_decide_eq_true hb3)
     refine Wct rfl ?_
     refine Wskip ?_
     refine qn ?_
     refine Wseq ?_
     refine Wblk ?_
     refine Wseq ?_
     refine Wreg ?_
     refine rs (v := .int .i64 j1) (mv (v := .int .i64 j1) rfl) rfl ?_
     refine rs (v := .int .i64 j1) (av (v := .int .i64 j1) rfl) rfl ?_
     refine rn ?_
     refine qn ?_
     refine Wseq ?_
     refine Wreg ?_
     refine rs (v := .func (.func fid1) #[] cap1.toArray) (mv (v := .func (.func fid1) #[] cap1.toArray) rfl) rfl ?_
     refine rs (v := .slice ax0 x0.length qx0) (mv (v := .slice ax0 x0.length qx0) rfl) rfl ?_
     refine rs (v := .int .i64 j1) (mv (v := .int .i64 j1) rfl) rfl ?_
     replace hp := bind_some hp; obtain ⟨y4, hy4, hp⟩ := hp
     obtain ⟨b7, o8, u9, hi5, hi6⟩ := Ctx.rdAt hc (k := 0) rfl rfl hrd0 hy4
     subst u9
     refine rs (v := .pointer (some ⟨b7, o8 + (j1).toNat * 3, none⟩)) (ixx rfl rfl Try.underlying45 Try.sizeOf24 hi5 hi6 rfl) rfl ?_
     replace hc := Ctx.rdCell hc (k := 0) rfl rfl hrd0 hy4; obtain ⟨cs10, hc, hcell11⟩ := hc
     replace hc := S_api_Request.op hc; obtain ⟨a13, q14, u12, hc⟩ := hc; subst u12
     refine rs (v := .agg #[.int .i64 y4.ID, .int .i64 y4.Most, .slice a13 y4.Prompt.length q14]) (ldg rfl Try.isAgg24 Try.sizeOf24 rfl (elCells hcell11 0 (vs := [.int .i64 y4.ID, .int .i64 y4.Most, .slice a13 y4.Prompt.length q14]) rfl)) rfl ?_
     replace hc := hc.dup (k := 0) rfl rfl
     replace hp := bind_some hp; obtain ⟨r15, hr15, hp⟩ := hp
     refine rc (cv (fi := []) (ca := cap1) (vs := ([.agg #[.int .i64 y4.ID, .int .i64 y4.Most, .slice a13 y4.Prompt.length q14]] : List Value) ++ cap1) hcl1 rfl rfl) rfl ?_
     refine hf1 _ _ _ _ [Hold (pRo (pInt .i64)) [.slice a13 y4.Prompt.length q14] y4.Prompt, P0] _ _ _ hc hr15 ?_
     clear hc; intro w16 hc
     replace hc : Ctx w16 (Hold (pRo (pInt .i64)) [.slice a13 y4.Prompt.length q14] y4.Prompt :: P0 :: Fr) := hc
     refine rn ?_
     refine qn ?_
     cases hb17 : r15
     · replace hp := gneg hp (by rw [hb17]; exact Bool.false_ne_true)
       subst hb17
       refine Wcf rfl ?_
       refine Wskip ?_
       refine bn ?_
       refine qn ?_
       refine Wreg ?_
       refine rs (v := .int .i64 (IntKind.i64.wrap (j1 + 1))) (adw rfl rfl) rfl ?_
       refine rs (v := .int .i64 (IntKind.i64.wrap (j1 + 1))) (mv (v := .int .i64 (IntKind.i64.wrap (j1 + 1))) rfl) rfl ?_
       refine rn ?_
       refine qn ?_
       replace hc := hc.rem 0 rfl rfl
       exact ⟨m1, Nat.lt_succ_self _, ⟨(IntKind.i64.wrap (j1 + 1)), rfl, hp, hc⟩, (kl rfl k0)⟩
     · replace hp := gpos hp hb17
       subst hb17
       refine Wct rfl ?_
       refine Wseq ?_
       refine Wreg ?_
       refine rs (v := .int .i64 j1) (mv (v := .int .i64 j1) rfl) rfl ?_
       refine rs (v := .int .i64 j1) (av (v := .int .i64 j1) rfl) rfl ?_
       refine rn ?_
       refine qn ?_
       refine Wret ?_
       refine br ?_
       refine qr ?_
       refine qr ?_
       refine br ?_
       refine qr ?_
       replace hc := hc.rem 0 rfl rfl
       injection hp with hp; subst hp
       refine f1 (v := .int .i64 j1) Try.results36 Try.ntmps36 rfl ?_
       exact ⟨_, rfl, k _ hc⟩

-- FN slices.DeleteFunc[[]peloton/api.Request,peloton/api.Request]
def slices_DeleteFunc_s_api_Request_api_Request.J2 (j10 : Int) (k1 : (List S_api_Request) → Int → Int → Option ((List S_api_Request))) (j22 : (List S_api_Request)) (j26 : Int) : Option ((List S_api_Request)) :=
  k1 j22 j26 (IntKind.i64.wrap (j10 + 1))

def slices_DeleteFunc_s_api_Request_api_Request.J3 (j5 : (List S_api_Request)) (j9 : Int) (j10 : Int) (y27 : S_api_Request) (k1 : (List S_api_Request) → Int → Int → Option ((List S_api_Request))) (j42 : Bool) : Option ((List S_api_Request)) :=
  if j42 = true then
    (idx j5 j9).bind fun y48 =>
    slices_DeleteFunc_s_api_Request_api_Request.J2 j10 k1 (j5.set (j9).toNat (⟨y27.ID, y27.Most, y27.Prompt⟩ : S_api_Request)) (IntKind.i64.wrap (j9 + 1))
  else
    slices_DeleteFunc_s_api_Request_api_Request.J2 j10 k1 j5 j9

def slices_DeleteFunc_s_api_Request_api_Request.L1 (x0 : (List S_api_Request)) (x1 : (S_api_Request → Option Bool)) : Nat → (List S_api_Request) → Int → Int → Option ((List S_api_Request))
  | 0, _, _, _ => none
  | m1 + 1, j5, j9, j10 =>
    if j10 < ((x0.length : Nat) : Int) then
      (idx j5 j10).bind fun y27 =>
      (x1 (⟨y27.ID, y27.Most, y27.Prompt⟩ : S_api_Request)).bind fun r43 =>
      if r43 = true then
        slices_DeleteFunc_s_api_Request_api_Request.J3 j5 j9 j10 y27 (slices_DeleteFunc_s_api_Request_api_Request.L1 x0 x1 m1) false
      else
        slices_DeleteFunc_s_api_Request_api_Request.J3 j5 j9 j10 y27 (slices_DeleteFunc_s_api_Request_api_Request.L1 x0 x1 m1) true
    else
      chk (0 ≤ j9 ∧ j9 ≤ ((x0.length : Nat) : Int) ∧ ((x0.length : Nat) : Int) ≤ ((x0.length : Nat) : Int)) <|
      chk (0 ≤ j9 ∧ j9 ≤ ((x0.length : Nat) : Int)) <|
      some ((j5.take (j9).toNat ++ List.replicate (x0.length - (j9).toNat) (⟨0, 0, []⟩ : S_api_Request)).take (j9).toNat)

def slices_DeleteFunc_s_api_Request_api_Request (N : Nat) (x0 : (List S_api_Request)) (x1 : (S_api_Request → Option Bool)) : Option ((List S_api_Request)) :=
  (slices_IndexFunc_s_api_Request_api_Request N x0 x1).bind fun r2 =>
  if r2 = (-1) then
    some x0
  else
    slices_DeleteFunc_s_api_Request_api_Request.L1 x0 x1 N x0 r2 (IntKind.i64.wrap (r2 + 1))

set_option maxHeartbeats 2000000 in
theorem slices_DeleteFunc_s_api_Request_api_Request_any {N : Nat} {x0 : (List S_api_Request)} {ax0 : Option Addr} {nx0 : Nat} {qx0 : Nat} {x1 : (S_api_Request → Option Bool)} {fid1 : FuncId} {cap1 : List Value} {Fr : List HP} {w : World} {r : (List S_api_Request)} {K : Value → World → Prop} (hcl1 : ∀ a w, (callFunc fid1 a).run Try.prog w = .ok (.enter fid1 a) w) (hf1 : ∀ (y0 : S_api_Request) (a1 : Option Addr) (n2 : Nat) (q3 : Nat) (Qs : List HP) (w : World) (r : Bool) (K : Value → World → Prop), Ctx w (Hold (pRo (pInt .i64)) [.slice a1 n2 q3] y0.Prompt :: (Qs ++ Fr)) → x1 y0 = some r → (∀ w', Ctx w' (Qs ++ Fr) → K (.bool r) w') → Calls Try.prog fid1 (([.agg #[.int .i64 y0.ID, .int .i64 y0.Most, .slice a1 n2 q3]] : List Value) ++ cap1).toArray w (Ret K)) (hc : Ctx w (Own S_api_Request.pr 24 (.slice ax0 nx0 qx0) x0 :: Fr)) (hp : slices_DeleteFunc_s_api_Request_api_Request N x0 x1 = some r)
    (k : ∀ (a56 : Option Addr) (n57 : Nat) (q58 : Nat) w', Ctx w' (Own S_api_Request.pr 24 (.slice a56 n57 q58) r :: Fr) → K (.slice a56 n57 q58) w') : Calls Try.prog 29 #[.slice ax0 nx0 qx0, .func (.func fid1) #[] cap1.toArray] w (Ret K) := by
 unfold slices_DeleteFunc_s_api_Request_api_Request at hp
 refine Center (args := [.slice ax0 nx0 qx0, .func (.func fid1) #[] cap1.toArray]) (l := [(0, .slice ax0 nx0 qx0), (1, .func (.func fid1) #[] cap1.toArray)]) Try.func29 Try.ntmps29 rfl rfl rfl ?_
 obtain ⟨hn0, _⟩ := Ctx.rdLen hc (k := 0) rfl rfl reads_own; subst hn0
 refine Wseq ?_
 refine Wreg ?_
 refine rs (v := .slice none 0 0) (av (v := .slice none 0 0) rfl) rfl ?_
 refine rn ?_
 refine qn ?_
 refine Wseq ?_
 refine Wreg ?_
 refine rs (v := .slice ax0 x0.length qx0) (mv (v := .slice ax0 x0.length qx0) rfl) rfl ?_
 refine rs (v := .func (.func fid1) #[] cap1.toArray) (mv (v := .func (.func fid1) #[] cap1.toArray) rfl) rfl ?_
 have hf1 : ∀ (y0 : S_api_Request) (a2 : Option Addr) (n3 : Nat) (q4 : Nat) (Qs : List HP) (w : World) (r : Bool) (K : Value → World → Prop), Ctx w (Hold (pRo (pInt .i64)) [.slice a2 n3 q4] y0.Prompt :: (Qs ++ (Fr))) → x1 y0 = some r → (∀ w', Ctx w' (Qs ++ (Fr)) → K (.bool r) w') → Calls Try.prog fid1 (([.agg #[.int .i64 y0.ID, .int .i64 y0.Most, .slice a2 n3 q4]] : List Value) ++ cap1).toArray w (Ret K) := by
   intro z0 z1 z2 z3 Qs w r K hc hp k
   refine hf1 z0 z1 z2 z3 (Qs ++ []) w r K (by rw [List.append_assoc]; exact hc) hp (fun w' hc' => k w' (by rw [List.append_assoc] at hc'; exact hc'))
 replace hp := bind_some hp; obtain ⟨r2, hr2, hp⟩ := hp
 refine rc (cl Try.call36 rfl rfl) rfl ?_
 refine slices_IndexFunc_s_api_Request_api_Request_any reads_own hcl1 hf1 hc hr2 ?_
 clear hc; intro w3 hc
 refine rs (v := .int .i64 r2) (av (v := .int .i64 r2) rfl) rfl ?_
 refine rn ?_
 refine qn ?_
 refine Wseq ?_
 refine Wseq ?_
 refine Wreg ?_
 refine rs (v := .int .i64 r2) (mv (v := .int .i64 r2) rfl) rfl ?_
 refine rs (v := .bool (decide (r2 = (-1)))) (eqd rfl rfl) rfl ?_
 refine rn ?_
 refine qn ?_
 cases hb4 : (decide (r2 = (-1)))
 · replace hp := gneg hp (of_decide_eq_false hb4)
   refine Wcf rfl ?_
   refine Wskip ?_
   refine qn ?_
   refine Wseq ?_
   refine Wseq ?_
   refine Wreg ?_
   refine rs (v := .int .i64 r2) (mv (v := .int .i64 r2) rfl) rfl ?_
   refine rs (v := .int .i64 (IntKind.i64.wrap (r2 + 1))) (adw rfl rfl) rfl ?_
   refine rs (v := .int .i64 (IntKind.i64.wrap (r2 + 1))) (av (v := .int .i64 (IntKind.i64.wrap (r2 + 1))) rfl) rfl ?_
   refine rn ?_
   refine qn ?_
   refine Wblk ?_
   refine Wloop [5, 6, 7, 16, 17, 18, 19, 20, 21, 22, 23, 24, 25, 26, 27, 28, 29, 30, 31, 32, 33, 34, 35] [5, 6] (fun m vs w' => ∃ j5 : (List S_api_Request), ∃ j9 : Int, ∃ j10 : Int, vs = [.int .i64 j9, .int .i64 j10] ∧ slices_DeleteFunc_s_api_Request_api_Request.L1 x0 x1 m j5 j9 j10 = some r ∧ Ctx w' (Own S_api_Request.pr 24 (.slice ax0 x0.length qx0) j5 :: Fr)) N ?_ ?_
   · exact ⟨x0, r2, (IntKind.i64.wrap (r2 + 1)), rfl, hp, hc⟩
   · clear hp hc; intro m vs u w11 hJ
     obtain ⟨j5, j9, j10, rfl, hp, hc⟩ := hJ
     rcases m with _ | m1
     · cases (show none = some r from hp)
     rw [slices_DeleteFunc_s_api_Request_api_Request.L1] at hp
     refine Wseq ?_
     refine Wseq ?_
     refine Wreg ?_
     refine rs (v := .int .i64 j10) (mv (v := .int .i64 j10) rfl) rfl ?_
     refine rs (v := .slice ax0 x0.length qx0) (mv (v := .slice ax0 x0.length qx0) rfl) rfl ?_
     refine rs (v := .int .i64 ((x0.length : Nat) : Int)) (ln rfl Try.underlying45) rfl ?_
     refine rs (v := .bool (decide (j10 < ((x0.length : Nat) : Int)))) (lt' rfl rfl) rfl ?_
     refine rn ?_
     refine qn ?_
     cases hb12 : (decide (j10 < ((x0.length : Nat) : Int)))
     · replace hp := gneg hp (of_decide_eq_false hb12)
       refine Wcf rfl ?_
       refine Wexit ?_
       refine qx ?_
       refine qx ?_
       refine be ?_
       refine qn ?_
       refine Wseq ?_
       refine Wreg ?_
       refine rs (v := .slice ax0 x0.length qx0) (mv (v := .slice ax0 x0.length qx0) rfl) rfl ?_
       refine rs (v := .int .i64 j9) (mv (v := .int .i64 j9) rfl) rfl ?_
       replace hp := chk_some hp; obtain ⟨hg13, hp⟩ := hp
       refine rsE (Ctx.subOp (li := some j9) (hi' := none) hc (k := 0) rfl rfl reads_own rfl ⟨_, rfl⟩ trivial Try.underlying45 Try.sizeOf24 hg13) rfl ?_
       rintro _ _ ⟨rfl, a14, q15, rfl, rd16, ea17, eq18⟩
       replace rd16 : Reads (Own S_api_Request.pr 24 (.slice ax0 x0.length qx0) j5) S_api_Request.pr (.slice a14 ((((x0.length : Nat) : Int)).toNat - (j9).toNat) q15) ((j5.take (((x0.length : Nat) : Int)).toNat).drop (j9).toNat) := rd16
       subst ea17 eq18
       refine rvE (Ctx.clearFrom (x0 := (⟨0, 0, []⟩ : S_api_Request)) hc (k := 0) rfl rfl Try.underlying45 Try.zeroValue24 rfl rfl (fun _ _ => ⟨([.int .i64 0] : List Value), ([.int .i64 0, .slice none 0 0] : List Value), rfl, rfl, ⟨([.int .i64 0] : List Value), ([.slice none 0 0] : List Value), rfl, rfl, ⟨_, rfl, none, 0, rfl, Nat.le_refl _, fun i x hx => by simp at hx⟩⟩⟩) (j9).toNat (by omega) rfl) rfl ?_
       clear hc; intro w19 hc
       refine rn ?_
       refine qn ?_
       refine Wseq ?_
       refine Wreg ?_
       refine rs (v := .slice ax0 x0.length qx0) (mv (v := .slice ax0 x0.length qx0) rfl) rfl ?_
       refine rs (v := .int .i64 j9) (mv (v := .int .i64 j9) rfl) rfl ?_
       replace hp := chk_some hp; obtain ⟨hg20, hp⟩ := hp
       refine rsE (Ctx.subOp0 (hv := j9) hc (k := 0) rfl rfl reads_own rfl ⟨_, rfl⟩ Try.underlying45 Try.sizeOf24 hg20) rfl ?_
       rintro _ _ ⟨rfl, rfl, rd21⟩
       refine rs (v := .slice ax0 ((j9).toNat) qx0) (av (v := .slice ax0 ((j9).toNat) qx0) rfl) rfl ?_
       refine rn ?_
       refine qn ?_
       refine Wret ?_
       replace hc := hc.ownTake (k := 0) rfl rfl (j9).toNat (by omega) rfl
       injection hp with hp; subst hp
       refine f1 (v := .slice ax0 ((j9).toNat) qx0) Try.results29 Try.ntmps29 rfl ?_
       exact ⟨_, rfl, k _ _ _ _ hc⟩
     · replace hp := gpos hp (of_decide_eq_true hb12)
       refine Wct rfl ?_
       refine Wskip ?_
       refine qn ?_
       refine Wseqm [5, 7, 22, 23, 24, 25, 26, 27, 28, 29, 30, 31, 32, 33, 34, 35] [5] (fun vs w' => ∃ j22 : (List S_api_Request), ∃ j26 : Int, vs = [.int .i64 j26] ∧ slices_DeleteFunc_s_api_Request_api_Request.J2 j10 (slices_DeleteFunc_s_api_Request_api_Request.L1 x0 x1 m1) j22 j26 = some r ∧ Ctx w' (Own S_api_Request.pr 24 (.slice ax0 x0.length qx0) j22 :: Fr)) ?_ ?_
       · refine Wblk ?_
         refine Wseq ?_
         refine Wreg ?_
         refine rs (v := .slice ax0 x0.length qx0) (mv (v := .slice ax0 x0.length qx0) rfl) rfl ?_
         refine rs (v := .int .i64 j10) (mv (v := .int .i64 j10) rfl) rfl ?_
         replace hp := bind_some hp; obtain ⟨y27, hy27, hp⟩ := hp
         obtain ⟨b30, o31, u32, hi28, hi29⟩ := Ctx.rdAt hc (k := 0) rfl rfl reads_own hy27
         subst u32
         refine rs (v := .pointer (some ⟨b30, o31 + (j10).toNat * 3, none⟩)) (ixx rfl rfl Try.underlying45 Try.sizeOf24 hi28 hi29 rfl) rfl ?_
         replace hc := Ctx.rdCell hc (k := 0) rfl rfl reads_own hy27; obtain ⟨cs33, hc, hcell34⟩ := hc
         replace hc := S_api_Request.op hc; obtain ⟨a36, q37, u35, hc⟩ := hc; subst u35
         refine rs (v := .agg #[.int .i64 y27.ID, .int .i64 y27.Most, .slice a36 y27.Prompt.length q37]) (ldg rfl Try.isAgg24 Try.sizeOf24 rfl (elCells hcell34 0 (vs := [.int .i64 y27.ID, .int .i64 y27.Most, .slice a36 y27.Prompt.length q37]) rfl)) rfl ?_
         refine rsE (Ctx.allocOp (cs := [.int .i64 0, .int .i64 0, .slice none 0 0]) hc Try.zeroValue24 rfl) rfl ?_
         clear hc; rintro _ w40 ⟨b38, rfl, hc⟩
         refine ruE (A := fun w' => Ctx w' (B b38 [.int .i64 y27.ID, .int .i64 y27.Most, .slice a36 y27.Prompt.length q37] 24 :: Hold (pRo (pInt .i64)) [.slice a36 y27.Prompt.length q37] y27.Prompt :: Own S_api_Request.pr 24 (.slice (some ⟨b30, o31, none⟩) x0.length qx0) j5 :: Fr)) (Ctx.putAgg hc (k := 0) rfl rfl (vs := [.int .i64 y27.ID, .int .i64 y27.Most, .slice a36 y27.Prompt.length q37]) rfl rfl rfl Try.sizeOf24 rfl rfl rfl) rfl ?_
         clear hc; rintro w41 hc
         refine rn ?_
         refine qn ?_
         refine Wseqm [26, 27, 28, 29] [29] (fun vs w' => ∃ j42 : Bool, vs = [.bool j42] ∧ slices_DeleteFunc_s_api_Request_api_Request.J3 j5 j9 j10 y27 (slices_DeleteFunc_s_api_Request_api_Request.L1 x0 x1 m1) j42 = some r ∧ Ctx w' (B b38 [.int .i64 y27.ID, .int .i64 y27.Most, .slice a36 y27.Prompt.length q37] 24 :: Hold (pRo (pInt .i64)) [.slice a36 y27.Prompt.length q37] y27.Prompt :: Own S_api_Request.pr 24 (.slice (some ⟨b30, o31, none⟩) x0.length qx0) j5 :: Fr)) ?_ ?_
         · refine Wreg ?_
           refine rs (v := .func (.func fid1) #[] cap1.toArray) (mv (v := .func (.func fid1) #[] cap1.toArray) rfl) rfl ?_
           refine rs (v := .agg #[.int .i64 y27.ID, .int .i64 y27.Most, .slice a36 y27.Prompt.length q37]) (ldg rfl Try.isAgg24 Try.sizeOf24 rfl (Ctx.cells hc (k := 0) rfl rfl 0 (vs := [.int .i64 y27.ID, .int .i64 y27.Most, .slice a36 y27.Prompt.length q37]) rfl)) rfl ?_
           replace hc := hc.dup (k := 1) rfl rfl
           replace hp := bind_some hp; obtain ⟨r43, hr43, hp⟩ := hp
           refine rc (cv (fi := []) (ca := cap1) (vs := ([.agg #[.int .i64 y27.ID, .int .i64 y27.Most, .slice a36 y27.Prompt.length q37]] : List Value) ++ cap1) hcl1 rfl rfl) rfl ?_
           refine hf1 _ _ _ _ [B b38 [.int .i64 y27.ID, .int .i64 y27.Most, .slice a36 y27.Prompt.length q37] 24, Hold (pRo (pInt .i64)) [.slice a36 y27.Prompt.length q37] y27.Prompt, Own S_api_Request.pr 24 (.slice (some ⟨b30, o31, none⟩) x0.length qx0) j5] _ _ _ hc hr43 ?_
           clear hc; intro w44 hc
           replace hc : Ctx w44 (B b38 [.int .i64 y27.ID, .int .i64 y27.Most, .slice a36 y27.Prompt.length q37] 24 :: Hold (pRo (pInt .i64)) [.slice a36 y27.Prompt.length q37] y27.Prompt :: Own S_api_Request.pr 24 (.slice (some ⟨b30, o31, none⟩) x0.length qx0) j5 :: Fr) := hc
           cases hb45 : r43
           · replace hp := gneg hp (by rw [hb45]; exact Bool.false_ne_true)
             subst hb45
             refine rs (v := .bool true) (ntf rfl) rfl ?_
             refine rn ?_
             refine qn ?_
             exact ⟨⟨true, rfl, hp, hc⟩, (kl rfl kb)⟩
           · replace hp := gpos hp hb45
             subst hb45
             refine rs (v := .bool false) (ntt rfl) rfl ?_
             refine rn ?_
             refine qn ?_
             exact ⟨⟨false, rfl, hp, hc⟩, (kl rfl kb)⟩
         · clear hp hc; intro vs u w46 hJ
           obtain ⟨j42, rfl, hp, hc⟩ := hJ
           unfold slices_DeleteFunc_s_api_Request_api_Request.J3 at hp
           cases hb47 : j42
           · replace hp := gneg hp (by rw [hb47]; exact Bool.false_ne_true)
             subst hb47
             refine Wcf rfl ?_
             refine Wskip ?_
             refine bn ?_
             refine qn ?_
             replace hc := hc.rem 1 rfl rfl
             replace hc := hc.rem 0 rfl rfl
             exact ⟨⟨j5, j9, rfl, hp, hc⟩, (kl rfl (km rfl (kl rfl kb)))⟩
           · replace hp := gpos hp hb47
             subst hb47
             refine Wct rfl ?_
             refine Wseq ?_
             refine Wreg ?_
             refine rs (v := .slice (some ⟨b30, o31, none⟩) x0.length qx0) (mv (v := .slice (some ⟨b30, o31, none⟩) x0.length qx0) rfl) rfl ?_
             refine rs (v := .int .i64 j9) (mv (v := .int .i64 j9) rfl) rfl ?_
             refine rs (v := .agg #[.int .i64 y27.ID, .int .i64 y27.Most, .slice a36 y27.Prompt.length q37]) (ldg rfl Try.isAgg24 Try.sizeOf24 rfl (Ctx.cells hc (k := 0) rfl rfl 0 (vs := [.int .i64 y27.ID, .int .i64 y27.Most, .slice a36 y27.Prompt.length q37]) rfl)) rfl ?_
             replace hp := bind_some hp; obtain ⟨y48, hy48, hp⟩ := hp
             obtain ⟨b51, o52, u53, hi49, hi50⟩ := Ctx.rdAt hc (k := 2) rfl rfl reads_own hy48
             clear u53
             refine rs (v := .pointer (some ⟨b30, o31 + (j9).toNat * 3, none⟩)) (ixx rfl rfl Try.underlying45 Try.sizeOf24 hi49 hi50 rfl) rfl ?_
             replace hc := hc.dup (k := 1) rfl rfl
             replace hc : Ctx w46 (Hold S_api_Request.pr [.int .i64 y27.ID, .int .i64 y27.Most, .slice a36 y27.Prompt.length q37] (⟨y27.ID, y27.Most, y27.Prompt⟩ : S_api_Request) :: B b38 [.int .i64 y27.ID, .int .i64 y27.Most, .slice a36 y27.Prompt.length q37] 24 :: Hold (pRo (pInt .i64)) [.slice a36 y27.Prompt.length q37] y27.Prompt :: Own S_api_Request.pr 24 (.slice (some ⟨b30, o31, none⟩) x0.length qx0) j5 :: Fr) := S_api_Request.cl hc
             refine ruE (A := fun w' => Ctx w' (B b38 [.int .i64 y27.ID, .int .i64 y27.Most, .slice a36 y27.Prompt.length q37] 24 :: Hold (pRo (pInt .i64)) [.slice a36 y27.Prompt.length q37] y27.Prompt :: Own S_api_Request.pr 24 (.slice (some ⟨b30, o31, none⟩) x0.length qx0) (j5.set (j9).toNat (⟨y27.ID, y27.Most, y27.Prompt⟩ : S_api_Request)) :: Fr)) (Ctx.ownStore hc (k := 2) rfl rfl (x0 := y48) hy48 (vs := [.int .i64 y27.ID, .int .i64 y27.Most, .slice a36 y27.Prompt.length q37]) rfl rfl Try.sizeOf24) rfl ?_
             clear hc; rintro w54 hc
             refine rn ?_
             refine qn ?_
             refine Wreg ?_
             refine rs (v := .int .i64 j9) (mv (v := .int .i64 j9) rfl) rfl ?_
             refine rs (v := .int .i64 (IntKind.i64.wrap (j9 + 1))) (adw rfl rfl) rfl ?_
             refine rs (v := .int .i64 (IntKind.i64.wrap (j9 + 1))) (av (v := .int .i64 (IntKind.i64.wrap (j9 + 1))) rfl) rfl ?_
             refine rn ?_
             refine bn ?_
             refine qn ?_
             replace hc := hc.rem 1 rfl rfl
             replace hc := hc.rem 0 rfl rfl
             exact ⟨⟨(j5.set (j9).toNat (⟨y27.ID, y27.Most, y27.Prompt⟩ : S_api_Request)), (IntKind.i64.wrap (j9 + 1)), rfl, hp, hc⟩, (kl rfl (km rfl (kl rfl kb)))⟩
       · clear hp hc; intro vs u w55 hJ
         obtain ⟨j22, j26, rfl, hp, hc⟩ := hJ
         unfold slices_DeleteFunc_s_api_Request_api_Request.J2 at hp
         refine Wreg ?_
         refine rs (v := .int .i64 j10) (mv (v := .int .i64 j10) rfl) rfl ?_
         refine rs (v := .int .i64 (IntKind.i64.wrap (j10 + 1))) (adw rfl rfl) rfl ?_
         refine rs (v := .int .i64 (IntKind.i64.wrap (j10 + 1))) (av (v := .int .i64 (IntKind.i64.wrap (j10 + 1))) rfl) rfl ?_
         refine rn ?_
         refine qn ?_
         exact ⟨m1, Nat.lt_succ_self _, ⟨j22, j26, (IntKind.i64.wrap (j10 + 1)), rfl, hp, hc⟩, (kl rfl (km rfl (kl rfl k0)))⟩
 · replace hp := gpos hp (of_decide_eq_true hb4)
   refine Wct rfl ?_
   refine Wseq ?_
   refine Wreg ?_
   refine rs (v := .slice ax0 x0.length qx0) (mv (v := .slice ax0 x0.length qx0) rfl) rfl ?_
   refine rs (v := .slice ax0 x0.length qx0) (av (v := .slice ax0 x0.length qx0) rfl) rfl ?_
   refine rn ?_
   refine qn ?_
   refine Wret ?_
   refine qr ?_
   injection hp with hp; subst hp
   refine f1 (v := .slice ax0 x0.length qx0) Try.results29 Try.ntmps29 rfl ?_
   exact ⟨_, rfl, k _ _ _ _ hc⟩

-- FN slices.Delete[[]peloton/api.Request,peloton/api.Request]
def slices_Delete_s_api_Request_api_Request (x0 : (List S_api_Request)) (x1 : Int) (x2 : Int) : Option ((List S_api_Request)) :=
  chk (0 ≤ x1 ∧ x1 ≤ x2 ∧ x2 ≤ ((x0.length : Nat) : Int)) <|
  if x1 = x2 then
    some x0
  else
    chk (0 ≤ x1 ∧ x1 ≤ ((x0.length : Nat) : Int)) <|
    chk (0 ≤ x2 ∧ x2 ≤ ((x0.length : Nat) : Int) ∧ ((x0.length : Nat) : Int) ≤ ((x0.length : Nat) : Int)) <|
    chk ((x1).toNat < (x2).toNat) <|
    chk (0 ≤ ((((x1).toNat + (x0.length - (x2).toNat)) : Nat) : Int) ∧ ((((x1).toNat + (x0.length - (x2).toNat)) : Nat) : Int) ≤ ((x0.length : Nat) : Int)) <|
    some (((x0.take (x1).toNat ++ x0.drop (x2).toNat ++ x0.drop ((x1).toNat + (x0.length - (x2).toNat))).take (((((x1).toNat + (x0.length - (x2).toNat)) : Nat) : Int)).toNat ++ List.replicate (x0.length - (((((x1).toNat + (x0.length - (x2).toNat)) : Nat) : Int)).toNat) (⟨0, 0, []⟩ : S_api_Request)).take ((x1).toNat + (x0.length - (x2).toNat)))

set_option maxHeartbeats 2000000 in
theorem slices_Delete_s_api_Request_api_Request_any {x0 : (List S_api_Request)} {ax0 : Option Addr} {nx0 : Nat} {qx0 : Nat} {x1 : Int} {x2 : Int} {Fr : List HP} {w : World} {r : (List S_api_Request)} {K : Value → World → Prop}  (hc : Ctx w (Own S_api_Request.pr 24 (.slice ax0 nx0 qx0) x0 :: Fr)) (hp : slices_Delete_s_api_Request_api_Request x0 x1 x2 = some r)
    (k : ∀ (a24 : Option Addr) (n25 : Nat) (q26 : Nat) w', Ctx w' (Own S_api_Request.pr 24 (.slice a24 n25 q26) r :: Fr) → K (.slice a24 n25 q26) w') : Calls Try.prog 27 #[.slice ax0 nx0 qx0, .int .i64 x1, .int .i64 x2] w (Ret K) := by
 unfold slices_Delete_s_api_Request_api_Request at hp
 refine Center (args := [.slice ax0 nx0 qx0, .int .i64 x1, .int .i64 x2]) (l := [(0, .slice ax0 nx0 qx0), (1, .int .i64 x1), (2, .int .i64 x2)]) Try.func27 Try.ntmps27 rfl rfl rfl ?_
 obtain ⟨hn0, _⟩ := Ctx.rdLen hc (k := 0) rfl rfl reads_own; subst hn0
 refine Wseq ?_
 refine Wreg ?_
 refine rs (v := .slice none 0 0) (av (v := .slice none 0 0) rfl) rfl ?_
 refine rn ?_
 refine qn ?_
 refine Wseq ?_
 refine Wreg ?_
 refine rs (v := .slice ax0 x0.length qx0) (mv (v := .slice ax0 x0.length qx0) rfl) rfl ?_
 refine rs (v := .int .i64 x1) (mv (v := .int .i64 x1) rfl) rfl ?_
 refine rs (v := .int .i64 x2) (mv (v := .int .i64 x2) rfl) rfl ?_
 refine rs (v := .slice ax0 x0.length qx0) (mv (v := .slice ax0 x0.length qx0) rfl) rfl ?_
 refine rs (v := .int .i64 ((x0.length : Nat) : Int)) (ln rfl Try.underlying45) rfl ?_
 replace hp := chk_some hp; obtain ⟨hg1, hp⟩ := hp
 obtain ⟨hl2, hq3⟩ := Ctx.rdLen hc (k := 0) rfl rfl reads_own
 refine rsE (run_sub3 rfl ⟨_, rfl⟩ ⟨_, rfl⟩ ⟨_, rfl⟩ Try.underlying45 Try.sizeOf24 hg1 (by omega)) rfl ?_
 rintro v4 w5 hw; rw [hw]; clear hw w5
 refine rn ?_
 refine qn ?_
 refine Wseq ?_
 refine Wseq ?_
 refine Wreg ?_
 refine rs (v := .int .i64 x1) (mv (v := .int .i64 x1) rfl) rfl ?_
 refine rs (v := .int .i64 x2) (mv (v := .int .i64 x2) rfl) rfl ?_
 refine rs (v := .bool (decide (x1 = x2))) (eqd rfl rfl) rfl ?_
 refine rn ?_
 refine qn ?_
 cases hb6 : (decide (x1 = x2))
 · replace hp := gneg hp (of_decide_eq_false hb6)
   refine Wcf rfl ?_
   refine Wskip ?_
   refine qn ?_
   refine Wseq ?_
   refine Wreg ?_
   refine rs (v := .slice ax0 x0.length qx0) (mv (v := .slice ax0 x0.length qx0) rfl) rfl ?_
   refine rs (v := .int .i64 ((x0.length : Nat) : Int)) (ln rfl Try.underlying45) rfl ?_
   refine rs (v := .int .i64 ((x0.length : Nat) : Int)) (av (v := .int .i64 ((x0.length : Nat) : Int)) rfl) rfl ?_
   refine rn ?_
   refine qn ?_
   refine Wseq ?_
   replace hc := hc.drew
   refine Wdrw (fun j w' => True) [0, 0, 3, 0, 0, 24, 63, 127] 0 0 rfl (by kernel_rfl) (fun _ _ => trivial) ?_
   generalize hw : World.drew w = w7 at *
   clear hw
   refine ds (v := .slice ax0 x0.length qx0) rfl (fun w' hF => mv (v := .slice ax0 x0.length qx0) rfl) rfl ?_
   refine ds (v := .int .i64 x1) rfl (fun w' hF => mv (v := .int .i64 x1) rfl) rfl ?_
   replace hp := chk_some hp; obtain ⟨hg8, hp⟩ := hp
   obtain ⟨hl9, hq10⟩ := Ctx.rdLen hc (k := 0) rfl rfl reads_own
   have rd11 := reads_pre (hv := x1) (reads_own : Reads (Own S_api_Request.pr 24 (.slice ax0 x0.length qx0) x0) S_api_Request.pr (.slice ax0 x0.length qx0) x0) (by omega) hq10 hl9
   refine ds (v := .slice ax0 ((x1).toNat) qx0) rfl (fun w' hF => run_sub0 (hv := x1) rfl ⟨_, rfl⟩ Try.underlying45 Try.sizeOf24 hg8 hq10) rfl ?_
   refine ds (v := .slice ax0 x0.length qx0) rfl (fun w' hF => mv (v := .slice ax0 x0.length qx0) rfl) rfl ?_
   refine ds (v := .int .i64 x2) rfl (fun w' hF => mv (v := .int .i64 x2) rfl) rfl ?_
   replace hp := chk_some hp; obtain ⟨hg12, hp⟩ := hp
   obtain ⟨hl16, hq17⟩ := Ctx.rdLen hc (k := 0) rfl rfl reads_own
   have rd15 := reads_sub (lo := (x2).toNat) (hi := (((x0.length : Nat) : Int)).toNat) ((reads_own : Reads (Own S_api_Request.pr 24 (.slice ax0 x0.length qx0) x0) S_api_Request.pr (.slice ax0 x0.length qx0) x0)) (by omega) (by omega)
   refine ds (v := .slice (if qx0 = (x2).toNat then ax0 else Option.map (fun x => x.add ((x2).toNat * 3)) ax0) ((((x0.length : Nat) : Int)).toNat - (x2).toNat) (qx0 - (x2).toNat)) rfl (fun w' hF => run_sub (li := some x2) (hi' := none) rfl ⟨_, rfl⟩ trivial Try.underlying45 Try.sizeOf24 hg12 hq17) rfl ?_
   replace hp := chk_some hp; obtain ⟨hg19, hp⟩ := hp
   refine deE (Ctx.appendIn hc (k := 0) rfl rfl Try.underlying45 (inf := Try.t24) rfl rfl ((x1).toNat) ((x2).toNat) hg19 (by omega) rfl rfl) rfl rfl ?_
   clear hc; rintro _ w18 ⟨rfl, hc⟩
   refine ⟨fun j hj hb => trivial, ?_⟩
   refine ds (v := .slice ax0 ((x1).toNat + (x0.length - (x2).toNat)) qx0) rfl (fun w' hF => av (v := .slice ax0 ((x1).toNat + (x0.length - (x2).toNat)) qx0) rfl) rfl ?_
   refine dn ?_
   refine qn ?_
   refine Wseq ?_
   refine Wreg ?_
   refine rs (v := .slice ax0 ((x1).toNat + (x0.length - (x2).toNat)) qx0) (mv (v := .slice ax0 ((x1).toNat + (x0.length - (x2).toNat)) qx0) rfl) rfl ?_
   refine rs (v := .slice ax0 ((x1).toNat + (x0.length - (x2).toNat)) qx0) (mv (v := .slice ax0 ((x1).toNat + (x0.length - (x2).toNat)) qx0) rfl) rfl ?_
   refine rs (v := .int .i64 ((((x1).toNat + (x0.length - (x2).toNat)) : Nat) : Int)) (ln rfl Try.underlying45) rfl ?_
   refine rs (v := .int .i64 ((x0.length : Nat) : Int)) (mv (v := .int .i64 ((x0.length : Nat) : Int)) rfl) rfl ?_
   replace hp := chk_some hp; obtain ⟨hg20, hp⟩ := hp
   obtain ⟨hl21, hq22⟩ := Ctx.rdLen hc (k := 0) rfl rfl reads_own
   refine rs (v := .slice (if qx0 = (((((x1).toNat + (x0.length - (x2).toNat)) : Nat) : Int)).toNat then ax0 else Option.map (fun x => x.add ((((((x1).toNat + (x0.length - (x2).toNat)) : Nat) : Int)).toNat * 3)) ax0) (x0.length - (((((x1).toNat + (x0.length - (x2).toNat)) : Nat) : Int)).toNat) (qx0 - (((((x1).toNat + (x0.length - (x2).toNat)) : Nat) : Int)).toNat)) (run_subc (l := ((((x1).toNat + (x0.length - (x2).toNat)) : Nat) : Int)) (h := ((x0.length : Nat) : Int)) rfl ⟨_, rfl⟩ ⟨_, rfl⟩ Try.underlying45 Try.sizeOf24 hg20 (by omega)) rfl ?_
   refine rvE (Ctx.clearFrom (x0 := (⟨0, 0, []⟩ : S_api_Request)) hc (k := 0) rfl rfl Try.underlying45 Try.zeroValue24 rfl rfl (fun _ _ => ⟨([.int .i64 0] : List Value), ([.int .i64 0, .slice none 0 0] : List Value), rfl, rfl, ⟨([.int .i64 0] : List Value), ([.slice none 0 0] : List Value), rfl, rfl, ⟨_, rfl, none, 0, rfl, Nat.le_refl _, fun i x hx => by simp at hx⟩⟩⟩) (((((x1).toNat + (x0.length - (x2).toNat)) : Nat) : Int)).toNat (by omega) rfl) rfl ?_
   clear hc; intro w23 hc
   refine rn ?_
   refine qn ?_
   refine Wseq ?_
   refine Wreg ?_
   refine rs (v := .slice ax0 ((x1).toNat + (x0.length - (x2).toNat)) qx0) (mv (v := .slice ax0 ((x1).toNat + (x0.length - (x2).toNat)) qx0) rfl) rfl ?_
   refine rs (v := .slice ax0 ((x1).toNat + (x0.length - (x2).toNat)) qx0) (av (v := .slice ax0 ((x1).toNat + (x0.length - (x2).toNat)) qx0) rfl) rfl ?_
   refine rn ?_
   refine qn ?_
   refine Wret ?_
   replace hc := hc.ownTake (k := 0) rfl rfl ((x1).toNat + (x0.length - (x2).toNat)) (by omega) rfl
   injection hp with hp; subst hp
   refine f1 (v := .slice ax0 ((x1).toNat + (x0.length - (x2).toNat)) qx0) Try.results27 Try.ntmps27 rfl ?_
   exact ⟨_, rfl, k _ _ _ _ hc⟩
 · replace hp := gpos hp (of_decide_eq_true hb6)
   refine Wct rfl ?_
   refine Wseq ?_
   refine Wreg ?_
   refine rs (v := .slice ax0 x0.length qx0) (mv (v := .slice ax0 x0.length qx0) rfl) rfl ?_
   refine rs (v := .slice ax0 x0.length qx0) (av (v := .slice ax0 x0.length qx0) rfl) rfl ?_
   refine rn ?_
   refine qn ?_
   refine Wret ?_
   refine qr ?_
   injection hp with hp; subst hp
   refine f1 (v := .slice ax0 x0.length qx0) Try.results27 Try.ntmps27 rfl ?_
   exact ⟨_, rfl, k _ _ _ _ hc⟩

-- FN peloton/weight.in
def weight_in (x0 : Int) (x1 : Int) (x2 : Int) : Option (Bool) :=
  if x0 ≥ x1 then
    some (decide (x0 ≤ x2))
  else
    some false

set_option maxHeartbeats 2000000 in
theorem weight_in_any {x0 : Int} {x1 : Int} {x2 : Int} {Fr : List HP} {w : World} {r : Bool} {K : Value → World → Prop}  (hc : Ctx w (Fr)) (hp : weight_in x0 x1 x2 = some r)
    (k : ∀ w', Ctx w' (Fr) → K (.bool r) w') : Calls Try.prog 33 #[.int .i64 x0, .int .i64 x1, .int .i64 x2] w (Ret K) := by
 unfold weight_in at hp
 refine Center (args := [.int .i64 x0, .int .i64 x1, .int .i64 x2]) (l := [(0, .int .i64 x0), (1, .int .i64 x1), (2, .int .i64 x2)]) Try.func33 Try.ntmps33 rfl rfl rfl ?_
 refine Wseq ?_
 refine Wreg ?_
 refine rs (v := .bool false) (av (v := .bool false) rfl) rfl ?_
 refine rn ?_
 refine qn ?_
 refine Wseq ?_
 refine Wreg ?_
 refine rs (v := .int .i64 x0) (mv (v := .int .i64 x0) rfl) rfl ?_
 refine rs (v := .int .i64 x1) (mv (v := .int .i64 x1) rfl) rfl ?_
 refine rs (v := .bool (decide (x0 ≥ x1))) (ge' rfl rfl) rfl ?_
 refine rs (v := .bool (decide (x0 ≥ x1))) (mv (v := .bool (decide (x0 ≥ x1))) rfl) rfl ?_
 cases hb1 : (decide (x0 ≥ x1))
 · replace hp := gneg hp (of_decide_eq_false hb1)
   refine r0 rfl ?_
   refine r0 rfl ?_
   refine r0 rfl ?_
   refine rs (v := .bool false) (pkf (v := .bool false) rfl rfl) rfl ?_
   refine rs (v := .bool false) (av (v := .bool false) rfl) rfl ?_
   refine rn ?_
   refine qn ?_
   refine Wret ?_
   injection hp with hp; subst hp
   refine f1 (v := .bool false) Try.results33 Try.ntmps33 rfl ?_
   exact ⟨_, rfl, k _ hc⟩
 · replace hp := gpos hp (of_decide_eq_true hb1)
   refine rs (v := .int .i64 x0) (mv (v := .int .i64 x0) rfl) rfl ?_
   refine rs (v := .int .i64 x2) (mv (v := .int .i64 x2) rfl) rfl ?_
   refine rs (v := .bool (decide (x0 ≤ x2))) (le' rfl rfl) rfl ?_
   refine rs (v := .bool (decide (x0 ≤ x2))) (pkt (v := .bool (decide (x0 ≤ x2))) rfl rfl) rfl ?_
   refine rs (v := .bool (decide (x0 ≤ x2))) (av (v := .bool (decide (x0 ≤ x2))) rfl) rfl ?_
   refine rn ?_
   refine qn ?_
   refine Wret ?_
   injection hp with hp; subst hp
   refine f1 (v := .bool (decide (x0 ≤ x2))) Try.results33 Try.ntmps33 rfl ?_
   exact ⟨_, rfl, k _ hc⟩

-- FN peloton/weight.Right
def weight_Right (x0 : S_api_Shape) : Option (Bool) :=
  (weight_in x0.Layers 1 16).bind fun r4 =>
  if r4 = true then
    (weight_in x0.Heads 1 16).bind fun r7 =>
    if r7 = true then
      (weight_in x0.Width 2 128).bind fun r10 =>
      if r10 = true then
        chk ((IntKind.i64.wrap (2 * x0.Heads)) ≠ 0) <|
        if (Int.tmod x0.Width (IntKind.i64.wrap (2 * x0.Heads))) = 0 then
          (weight_in x0.Inner 1 256).bind fun r15 =>
          if r15 = true then
            (weight_in x0.Vocab 1 512).bind fun r18 =>
            if r18 = true then
              (weight_in x0.Places 1 256).bind fun r21 =>
              some r21
            else
              some false
          else
            some false
        else
          some false
      else
        some false
    else
      some false
  else
    some false

set_option maxHeartbeats 2000000 in
theorem weight_Right_any {x0 : S_api_Shape} {Fr : List HP} {w : World} {r : Bool} {K : Value → World → Prop}  (hc : Ctx w (Fr)) (hp : weight_Right x0 = some r)
    (k : ∀ w', Ctx w' (Fr) → K (.bool r) w') : Calls Try.prog 23 #[.agg #[.int .i64 x0.Layers, .int .i64 x0.Width, .int .i64 x0.Heads, .int .i64 x0.Inner, .int .i64 x0.Vocab, .int .i64 x0.Places]] w (Ret K) := by
 unfold weight_Right at hp
 refine Center (args := [.agg #[.int .i64 x0.Layers, .int .i64 x0.Width, .int .i64 x0.Heads, .int .i64 x0.Inner, .int .i64 x0.Vocab, .int .i64 x0.Places]]) (l := [(0, .agg #[.int .i64 x0.Layers, .int .i64 x0.Width, .int .i64 x0.Heads, .int .i64 x0.Inner, .int .i64 x0.Vocab, .int .i64 x0.Places])]) Try.func23 Try.ntmps23 rfl rfl rfl ?_
 refine Wseq ?_
 refine Wreg ?_
 refine rsE (Ctx.boxOp (cs := [.int .i64 x0.Layers, .int .i64 x0.Width, .int .i64 x0.Heads, .int .i64 x0.Inner, .int .i64 x0.Vocab, .int .i64 x0.Places]) (v := .agg #[.int .i64 x0.Layers, .int .i64 x0.Width, .int .i64 x0.Heads, .int .i64 x0.Inner, .int .i64 x0.Vocab, .int .i64 x0.Places]) hc rfl rfl) rfl ?_
 clear hc; rintro _ w3 ⟨b1, rfl, hc⟩
 refine rs (v := .bool false) (av (v := .bool false) rfl) rfl ?_
 refine rn ?_
 refine qn ?_
 refine Wseq ?_
 refine Wreg ?_
 refine rs (v := .pointer (some ⟨b1, 0, none⟩)) (fax 0 rfl Try.underlying31 rfl Try.sizeOf3 rfl rfl rfl) rfl ?_
 refine rs (v := .int .i64 x0.Layers) (ld rfl Try.isAgg3 (Ctx.cell hc (k := 0) rfl rfl rfl)) rfl ?_
 replace hp := bind_some hp; obtain ⟨r4, hr4, hp⟩ := hp
 refine rc (cl Try.call33 rfl rfl) rfl ?_
 refine weight_in_any hc hr4 ?_
 clear hc; intro w5 hc
 refine rs (v := .bool r4) (mv (v := .bool r4) rfl) rfl ?_
 cases hb6 : r4
 · replace hp := gneg hp (by rw [hb6]; exact Bool.false_ne_true)
   subst hb6
   refine r0 rfl ?_
   refine r0 rfl ?_
   refine r0 rfl ?_
   refine rs (v := .bool false) (pkf (v := .bool false) rfl rfl) rfl ?_
   refine rs (v := .bool false) (mv (v := .bool false) rfl) rfl ?_
   refine r0 rfl ?_
   refine r0 rfl ?_
   refine r0 rfl ?_
   refine rs (v := .bool false) (pkf (v := .bool false) rfl rfl) rfl ?_
   refine rs (v := .bool false) (mv (v := .bool false) rfl) rfl ?_
   refine r0 rfl ?_
   refine r0 rfl ?_
   refine r0 rfl ?_
   refine r0 rfl ?_
   refine r0 rfl ?_
   refine r0 rfl ?_
   refine r0 rfl ?_
   refine rs (v := .bool false) (pkf (v := .bool false) rfl rfl) rfl ?_
   refine rs (v := .bool false) (mv (v := .bool false) rfl) rfl ?_
   refine r0 rfl ?_
   refine r0 rfl ?_
   refine r0 rfl ?_
   refine rs (v := .bool false) (pkf (v := .bool false) rfl rfl) rfl ?_
   refine rs (v := .bool false) (mv (v := .bool false) rfl) rfl ?_
   refine r0 rfl ?_
   refine r0 rfl ?_
   refine r0 rfl ?_
   refine rs (v := .bool false) (pkf (v := .bool false) rfl rfl) rfl ?_
   refine rs (v := .bool false) (mv (v := .bool false) rfl) rfl ?_
   refine r0 rfl ?_
   refine r0 rfl ?_
   refine r0 rfl ?_
   refine rs (v := .bool false) (pkf (v := .bool false) rfl rfl) rfl ?_
   refine rs (v := .bool false) (av (v := .bool false) rfl) rfl ?_
   refine rn ?_
   refine qn ?_
   refine Wret ?_
   replace hc := hc.rem 0 rfl rfl
   injection hp with hp; subst hp
   refine f1 (v := .bool false) Try.results23 Try.ntmps23 rfl ?_
   exact ⟨_, rfl, k _ hc⟩
 · replace hp := gpos hp hb6
   subst hb6
   refine rs (v := .pointer (some ⟨b1, 2, none⟩)) (fax 2 rfl Try.underlying31 rfl Try.sizeOf3 rfl rfl rfl) rfl ?_
   refine rs (v := .int .i64 x0.Heads) (ld rfl Try.isAgg3 (Ctx.cell hc (k := 0) rfl rfl rfl)) rfl ?_
   replace hp := bind_some hp; obtain ⟨r7, hr7, hp⟩ := hp
   refine rc (cl Try.call33 rfl rfl) rfl ?_
   refine weight_in_any hc hr7 ?_
   clear hc; intro w8 hc
   refine rs (v := .bool r7) (pkt (v := .bool r7) rfl rfl) rfl ?_
   refine rs (v := .bool r7) (mv (v := .bool r7) rfl) rfl ?_
   cases hb9 : r7
   · replace hp := gneg hp (by rw [hb9]; exact Bool.false_ne_true)
     subst hb9
     refine r0 rfl ?_
     refine r0 rfl ?_
     refine r0 rfl ?_
     refine rs (v := .bool false) (pkf (v := .bool false) rfl rfl) rfl ?_
     refine rs (v := .bool false) (mv (v := .bool false) rfl) rfl ?_
     refine r0 rfl ?_
     refine r0 rfl ?_
     refine r0 rfl ?_
     refine r0 rfl ?_
     refine r0 rfl ?_
     refine r0 rfl ?_
     refine r0 rfl ?_
     refine rs (v := .bool false) (pkf (v := .bool false) rfl rfl) rfl ?_
     refine rs (v := .bool false) (mv (v := .bool false) rfl) rfl ?_
     refine r0 rfl ?_
     refine r0 rfl ?_
     refine r0 rfl ?_
     refine rs (v := .bool false) (pkf (v := .bool false) rfl rfl) rfl ?_
     refine rs (v := .bool false) (mv (v := .bool false) rfl) rfl ?_
     refine r0 rfl ?_
     refine r0 rfl ?_
     refine r0 rfl ?_
     refine rs (v := .bool false) (pkf (v := .bool false) rfl rfl) rfl ?_
     refine rs (v := .bool false) (mv (v := .bool false) rfl) rfl ?_
     refine r0 rfl ?_
     refine r0 rfl ?_
     refine r0 rfl ?_
     refine rs (v := .bool false) (pkf (v := .bool false) rfl rfl) rfl ?_
     refine rs (v := .bool false) (av (v := .bool false) rfl) rfl ?_
     refine rn ?_
     refine qn ?_
     refine Wret ?_
     replace hc := hc.rem 0 rfl rfl
     injection hp with hp; subst hp
     refine f1 (v := .bool false) Try.results23 Try.ntmps23 rfl ?_
     exact ⟨_, rfl, k _ hc⟩
   · replace hp := gpos hp hb9
     subst hb9
     refine rs (v := .pointer (some ⟨b1, 1, none⟩)) (fax 1 rfl Try.underlying31 rfl Try.sizeOf3 rfl rfl rfl) rfl ?_
     refine rs (v := .int .i64 x0.Width) (ld rfl Try.isAgg3 (Ctx.cell hc (k := 0) rfl rfl rfl)) rfl ?_
     replace hp := bind_some hp; obtain ⟨r10, hr10, hp⟩ := hp
     refine rc (cl Try.call33 rfl rfl) rfl ?_
     refine weight_in_any hc hr10 ?_
     clear hc; intro w11 hc
     refine rs (v := .bool r10) (pkt (v := .bool r10) rfl rfl) rfl ?_
     refine rs (v := .bool r10) (mv (v := .bool r10) rfl) rfl ?_
     cases hb12 : r10
     · replace hp := gneg hp (by rw [hb12]; exact Bool.false_ne_true)
       subst hb12
       refine r0 rfl ?_
       refine r0 rfl ?_
       refine r0 rfl ?_
       refine r0 rfl ?_
       refine r0 rfl ?_
       refine r0 rfl ?_
       refine r0 rfl ?_
       refine rs (v := .bool false) (pkf (v := .bool false) rfl rfl) rfl ?_
       refine rs (v := .bool false) (mv (v := .bool false) rfl) rfl ?_
       refine r0 rfl ?_
       refine r0 rfl ?_
       refine r0 rfl ?_
       refine rs (v := .bool false) (pkf (v := .bool false) rfl rfl) rfl ?_
       refine rs (v := .bool false) (mv (v := .bool false) rfl) rfl ?_
       refine r0 rfl ?_
       refine r0 rfl ?_
       refine r0 rfl ?_
       refine rs (v := .bool false) (pkf (v := .bool false) rfl rfl) rfl ?_
       refine rs (v := .bool false) (mv (v := .bool false) rfl) rfl ?_
       refine r0 rfl ?_
       refine r0 rfl ?_
       refine r0 rfl ?_
       refine rs (v := .bool false) (pkf (v := .bool false) rfl rfl) rfl ?_
       refine rs (v := .bool false) (av (v := .bool false) rfl) rfl ?_
       refine rn ?_
       refine qn ?_
       refine Wret ?_
       replace hc := hc.rem 0 rfl rfl
       injection hp with hp; subst hp
       refine f1 (v := .bool false) Try.results23 Try.ntmps23 rfl ?_
       exact ⟨_, rfl, k _ hc⟩
     · replace hp := gpos hp hb12
       subst hb12
       refine rs (v := .pointer (some ⟨b1, 1, none⟩)) (fax 1 rfl Try.underlying31 rfl Try.sizeOf3 rfl rfl rfl) rfl ?_
       refine rs (v := .int .i64 x0.Width) (ld rfl Try.isAgg3 (Ctx.cell hc (k := 0) rfl rfl rfl)) rfl ?_
       refine rs (v := .pointer (some ⟨b1, 2, none⟩)) (fax 2 rfl Try.underlying31 rfl Try.sizeOf3 rfl rfl rfl) rfl ?_
       refine rs (v := .int .i64 x0.Heads) (ld rfl Try.isAgg3 (Ctx.cell hc (k := 0) rfl rfl rfl)) rfl ?_
       refine rs (v := .int .i64 (IntKind.i64.wrap (2 * x0.Heads))) (mlw rfl rfl) rfl ?_
       replace hp := chk_some hp; obtain ⟨hg13, hp⟩ := hp
       refine rs (v := .int .i64 (Int.tmod x0.Width (IntKind.i64.wrap (2 * x0.Heads)))) (rm rfl rfl hg13) rfl ?_
       refine rs (v := .bool (decide ((Int.tmod x0.Width (IntKind.i64.wrap (2 * x0.Heads))) = 0))) (eqd rfl rfl) rfl ?_
       refine rs (v := .bool (decide ((Int.tmod x0.Width (IntKind.i64.wrap (2 * x0.Heads))) = 0))) (pkt (v := .bool (decide ((Int.tmod x0.Width (IntKind.i64.wrap (2 * x0.Heads))) = 0))) rfl rfl) rfl ?_
       refine rs (v := .bool (decide ((Int.tmod x0.Width (IntKind.i64.wrap (2 * x0.Heads))) = 0))) (mv (v := .bool (decide ((Int.tmod x0.Width (IntKind.i64.wrap (2 * x0.Heads))) = 0))) rfl) rfl ?_
       cases hb14 : (decide ((Int.tmod x0.Width (IntKind.i64.wrap (2 * x0.Heads))) = 0))
       · replace hp := gneg hp (of_decide_eq_false hb14)
         refine r0 rfl ?_
         refine r0 rfl ?_
         refine r0 rfl ?_
         refine rs (v := .bool false) (pkf (v := .bool false) rfl rfl) rfl ?_
         refine rs (v := .bool false) (mv (v := .bool false) rfl) rfl ?_
         refine r0 rfl ?_
         refine r0 rfl ?_
         refine r0 rfl ?_
         refine rs (v := .bool false) (pkf (v := .bool false) rfl rfl) rfl ?_
         refine rs (v := .bool false) (mv (v := .bool false) rfl) rfl ?_
         refine r0 rfl ?_
         refine r0 rfl ?_
         refine r0 rfl ?_
         refine rs (v := .bool false) (pkf (v := .bool false) rfl rfl) rfl ?_
         refine rs (v := .bool false) (av (v := .bool false) rfl) rfl ?_
         refine rn ?_
         refine qn ?_
         refine Wret ?_
         replace hc := hc.rem 0 rfl rfl
         injection hp with hp; subst hp
         refine f1 (v := .bool false) Try.results23 Try.ntmps23 rfl ?_
         exact ⟨_, rfl, k _ hc⟩
       · replace hp := gpos hp (of_decide_eq_true hb14)
         refine rs (v := .pointer (some ⟨b1, 3, none⟩)) (fax 3 rfl Try.underlying31 rfl Try.sizeOf3 rfl rfl rfl) rfl ?_
         refine rs (v := .int .i64 x0.Inner) (ld rfl Try.isAgg3 (Ctx.cell hc (k := 0) rfl rfl rfl)) rfl ?_
         replace hp := bind_some hp; obtain ⟨r15, hr15, hp⟩ := hp
         refine rc (cl Try.call33 rfl rfl) rfl ?_
         refine weight_in_any hc hr15 ?_
         clear hc; intro w16 hc
         refine rs (v := .bool r15) (pkt (v := .bool r15) rfl rfl) rfl ?_
         refine rs (v := .bool r15) (mv (v := .bool r15) rfl) rfl ?_
         cases hb17 : r15
         · replace hp := gneg hp (by rw [hb17]; exact Bool.false_ne_true)
           subst hb17
           refine r0 rfl ?_
           refine r0 rfl ?_
           refine r0 rfl ?_
           refine rs (v := .bool false) (pkf (v := .bool false) rfl rfl) rfl ?_
           refine rs (v := .bool false) (mv (v := .bool false) rfl) rfl ?_
           refine r0 rfl ?_
           refine r0 rfl ?_
           refine r0 rfl ?_
           refine rs (v := .bool false) (pkf (v := .bool false) rfl rfl) rfl ?_
           refine rs (v := .bool false) (av (v := .bool false) rfl) rfl ?_
           refine rn ?_
           refine qn ?_
           refine Wret ?_
           replace hc := hc.rem 0 rfl rfl
           injection hp with hp; subst hp
           refine f1 (v := .bool false) Try.results23 Try.ntmps23 rfl ?_
           exact ⟨_, rfl, k _ hc⟩
         · replace hp := gpos hp hb17
           subst hb17
           refine rs (v := .pointer (some ⟨b1, 4, none⟩)) (fax 4 rfl Try.underlying31 rfl Try.sizeOf3 rfl rfl rfl) rfl ?_
           refine rs (v := .int .i64 x0.Vocab) (ld rfl Try.isAgg3 (Ctx.cell hc (k := 0) rfl rfl rfl)) rfl ?_
           replace hp := bind_some hp; obtain ⟨r18, hr18, hp⟩ := hp
           refine rc (cl Try.call33 rfl rfl) rfl ?_
           refine weight_in_any hc hr18 ?_
           clear hc; intro w19 hc
           refine rs (v := .bool r18) (pkt (v := .bool r18) rfl rfl) rfl ?_
           refine rs (v := .bool r18) (mv (v := .bool r18) rfl) rfl ?_
           cases hb20 : r18
           · replace hp := gneg hp (by rw [hb20]; exact Bool.false_ne_true)
             subst hb20
             refine r0 rfl ?_
             refine r0 rfl ?_
             refine r0 rfl ?_
             refine rs (v := .bool false) (pkf (v := .bool false) rfl rfl) rfl ?_
             refine rs (v := .bool false) (av (v := .bool false) rfl) rfl ?_
             refine rn ?_
             refine qn ?_
             refine Wret ?_
             replace hc := hc.rem 0 rfl rfl
             injection hp with hp; subst hp
             refine f1 (v := .bool false) Try.results23 Try.ntmps23 rfl ?_
             exact ⟨_, rfl, k _ hc⟩
           · replace hp := gpos hp hb20
             subst hb20
             refine rs (v := .pointer (some ⟨b1, 5, none⟩)) (fax 5 rfl Try.underlying31 rfl Try.sizeOf3 rfl rfl rfl) rfl ?_
             refine rs (v := .int .i64 x0.Places) (ld rfl Try.isAgg3 (Ctx.cell hc (k := 0) rfl rfl rfl)) rfl ?_
             replace hp := bind_some hp; obtain ⟨r21, hr21, hp⟩ := hp
             refine rc (cl Try.call33 rfl rfl) rfl ?_
             refine weight_in_any hc hr21 ?_
             clear hc; intro w22 hc
             refine rs (v := .bool r21) (pkt (v := .bool r21) rfl rfl) rfl ?_
             refine rs (v := .bool r21) (av (v := .bool r21) rfl) rfl ?_
             refine rn ?_
             refine qn ?_
             refine Wret ?_
             replace hc := hc.rem 0 rfl rfl
             injection hp with hp; subst hp
             refine f1 (v := .bool r21) Try.results23 Try.ntmps23 rfl ?_
             exact ⟨_, rfl, k _ hc⟩

-- FN (peloton/admit.set[int]).put
def admit_set_int_put (x0 : (List (Int × Bool))) (x1 : Int) : Option ((List (Int × Bool))) :=
  some (mset x0 x1 true)

set_option maxHeartbeats 2000000 in
theorem admit_set_int_put_any {b0 : Nat} {x0 : (List (Int × Bool))} {x1 : Int} {Fr : List HP} {w : World} {r : (List (Int × Bool))} {K : Value → World → Prop}  (hc : Ctx w (Mp (ekI .i64) (HV vf1 pBool) b0 x0 :: Fr)) (hp : admit_set_int_put x0 x1 = some r)
    (k : ∀ w', Ctx w' (Mp (ekI .i64) (HV vf1 pBool) b0 r :: Fr) → K (.tuple #[]) w') : Calls Try.prog 25 #[.map (some b0), .int .i64 x1] w (Ret K) := by
 unfold admit_set_int_put at hp
 refine Center (args := [.map (some b0), .int .i64 x1]) (l := [(0, .map (some b0)), (1, .int .i64 x1)]) Try.func25 Try.ntmps25 rfl rfl rfl ?_
 refine Wreg ?_
 refine rs (v := .map (some b0)) (mv (v := .map (some b0)) rfl) rfl ?_
 refine rs (v := .int .i64 x1) (mv (v := .int .i64 x1) rfl) rfl ?_
 replace hc : Ctx w (Hold pBool [.bool true] true :: Mp (ekI .i64) (HV vf1 pBool) b0 x0 :: Fr) := hc.add _ fun _ _ _ => ⟨rfl, rfl⟩
 refine ruE (A := fun w' => Ctx w' (Mp (ekI .i64) (HV vf1 pBool) b0 (mset x0 x1 true) :: Fr)) (Ctx.mpSet (keyL_int Try.underlying3) hc (i := 0) rfl rfl Try.underlying57 rfl rfl rfl) rfl ?_
 clear hc; rintro w1 hc
 refine rn ?_
 refine f0n Try.results25 ?_
 injection hp with hp; subst hp
 exact ⟨_, rfl, k _ hc⟩

-- FN peloton/gen.Check
def gen_Check (N : Nat) (x0 : S_api_Shape) (x1 : (List Int)) (x2 : Int) : Option (Int) :=
  if ((x1.length : Nat) : Int) = 0 then
    some 90
  else
    (slices_ContainsFunc_s_int_int N x1 (fun (y6 : Int) =>
      if y6 < 0 then
        some true
      else
        some (decide (y6 ≥ x0.Vocab)))).bind fun r8 =>
    if r8 = true then
      some 2
    else
      if x2 < 1 then
        some 2
      else
        if ((x1.length : Nat) : Int) > x0.Places then
          some 80
        else
          if (IntKind.i64.wrap (x2 - 1)) > (IntKind.i64.wrap (x0.Places - ((x1.length : Nat) : Int))) then
            some 80
          else
            some 0

set_option maxHeartbeats 2000000 in
theorem gen_Check_any {N : Nat} {x0 : S_api_Shape} {x1 : (List Int)} {ax1 : Option Addr} {nx1 : Nat} {qx1 : Nat} {P1 : HP} {x2 : Int} {Fr : List HP} {w : World} {r : Int} {K : Value → World → Prop} (hrd1 : Reads P1 (pInt .i64) (.slice ax1 nx1 qx1) x1) (hc : Ctx w (P1 :: Fr)) (hp : gen_Check N x0 x1 x2 = some r)
    (k : ∀ w', Ctx w' (P1 :: Fr) → K (.int .i64 r) w') : Calls Try.prog 26 #[.agg #[.int .i64 x0.Layers, .int .i64 x0.Width, .int .i64 x0.Heads, .int .i64 x0.Inner, .int .i64 x0.Vocab, .int .i64 x0.Places], .slice ax1 nx1 qx1, .int .i64 x2] w (Ret K) := by
 unfold gen_Check at hp
 refine Center (args := [.agg #[.int .i64 x0.Layers, .int .i64 x0.Width, .int .i64 x0.Heads, .int .i64 x0.Inner, .int .i64 x0.Vocab, .int .i64 x0.Places], .slice ax1 nx1 qx1, .int .i64 x2]) (l := [(0, .agg #[.int .i64 x0.Layers, .int .i64 x0.Width, .int .i64 x0.Heads, .int .i64 x0.Inner, .int .i64 x0.Vocab, .int .i64 x0.Places]), (1, .slice ax1 nx1 qx1), (2, .int .i64 x2)]) Try.func26 Try.ntmps26 rfl rfl rfl ?_
 obtain ⟨hn1, _⟩ := Ctx.rdLen hc (k := 0) rfl rfl hrd1; subst hn1
 refine Wseq ?_
 refine Wreg ?_
 refine rsE (Ctx.boxOp (cs := [.int .i64 x0.Layers, .int .i64 x0.Width, .int .i64 x0.Heads, .int .i64 x0.Inner, .int .i64 x0.Vocab, .int .i64 x0.Places]) (v := .agg #[.int .i64 x0.Layers, .int .i64 x0.Width, .int .i64 x0.Heads, .int .i64 x0.Inner, .int .i64 x0.Vocab, .int .i64 x0.Places]) hc rfl rfl) rfl ?_
 clear hc; rintro _ w3 ⟨b1, rfl, hc⟩
 refine rs (v := .int .i64 0) (av (v := .int .i64 0) rfl) rfl ?_
 refine rn ?_
 refine qn ?_
 refine Wseq ?_
 refine Wreg ?_
 refine rs (v := .func (.func 34) #[] #[.pointer (some ⟨b1, 0, none⟩)]) (mkf rfl rfl) rfl ?_
 refine rs (v := .func (.func 34) #[] #[.pointer (some ⟨b1, 0, none⟩)]) (av (v := .func (.func 34) #[] #[.pointer (some ⟨b1, 0, none⟩)]) rfl) rfl ?_
 refine rn ?_
 refine qn ?_
 refine Wseq ?_
 refine Wblk ?_
 refine Wseq ?_
 refine Wreg ?_
 refine rs (v := .slice ax1 x1.length qx1) (mv (v := .slice ax1 x1.length qx1) rfl) rfl ?_
 refine rs (v := .int .i64 ((x1.length : Nat) : Int)) (ln rfl Try.underlying22) rfl ?_
 refine rs (v := .bool (decide (((x1.length : Nat) : Int) = 0))) (eqd rfl rfl) rfl ?_
 refine rs (v := .bool (decide (((x1.length : Nat) : Int) = 0))) (av (v := .bool (decide (((x1.length : Nat) : Int) = 0))) rfl) rfl ?_
 refine rn ?_
 refine qn ?_
 cases hb4 : (decide (((x1.length : Nat) : Int) = 0))
 · replace hp := gneg hp (of_decide_eq_false hb4)
   refine Wcf rfl ?_
   refine Wseq ?_
   refine Wreg ?_
   refine rs (v := .slice ax1 x1.length qx1) (mv (v := .slice ax1 x1.length qx1) rfl) rfl ?_
   refine rs (v := .func (.func 34) #[] #[.pointer (some ⟨b1, 0, none⟩)]) (mv (v := .func (.func 34) #[] #[.pointer (some ⟨b1, 0, none⟩)]) rfl) rfl ?_
   replace hc := hc.pull 1 rfl rfl
   have hf5 : ∀ (y0 : Int) (Qs : List HP) (w : World) (r : Bool) (K : Value → World → Prop), Ctx w ((Qs ++ (B b1 [.int .i64 x0.Layers, .int .i64 x0.Width, .int .i64 x0.Heads, .int .i64 x0.Inner, .int .i64 x0.Vocab, .int .i64 x0.Places] 31 :: Fr))) → (fun (y6 : Int) =>
        if y6 < 0 then
          some true
        else
          some (decide (y6 ≥ x0.Vocab))) y0 = some r → (∀ w', Ctx w' (Qs ++ (B b1 [.int .i64 x0.Layers, .int .i64 x0.Width, .int .i64 x0.Heads, .int .i64 x0.Inner, .int .i64 x0.Vocab, .int .i64 x0.Places] 31 :: Fr)) → K (.bool r) w') → Calls Try.prog 34 (([.int .i64 y0] : List Value) ++ ([.pointer (some ⟨b1, 0, none⟩)] : List Value)).toArray w (Ret K) := by
    intro y6 Qs w r K hc hp k
    replace hc : Ctx w (B b1 [.int .i64 x0.Layers, .int .i64 x0.Width, .int .i64 x0.Heads, .int .i64 x0.Inner, .int .i64 x0.Vocab, .int .i64 x0.Places] 31 :: (Qs ++ Fr)) := Ctx.front (As := [B b1 [.int .i64 x0.Layers, .int .i64 x0.Width, .int .i64 x0.Heads, .int .i64 x0.Inner, .int .i64 x0.Vocab, .int .i64 x0.Places] 31]) (Qs := Qs) hc
    refine Center (args := [.int .i64 y6, .pointer (some ⟨b1, 0, none⟩)]) (l := [(0, .int .i64 y6), (1, .pointer (some ⟨b1, 0, none⟩))]) Try.func34 Try.ntmps34 rfl rfl rfl ?_
    refine Wseq ?_
    refine Wreg ?_
    refine rs (v := .bool false) (av (v := .bool false) rfl) rfl ?_
    refine rn ?_
    refine qn ?_
    refine Wseq ?_
    refine Wreg ?_
    refine rs (v := .int .i64 y6) (mv (v := .int .i64 y6) rfl) rfl ?_
    refine rs (v := .bool (decide (y6 < 0))) (lt' rfl rfl) rfl ?_
    refine rs (v := .bool (decide (y6 < 0))) (mv (v := .bool (decide (y6 < 0))) rfl) rfl ?_
    cases hb7 : (decide (y6 < 0))
    · replace hp := gneg hp (of_decide_eq_false hb7)
      refine rs (v := .int .i64 y6) (mv (v := .int .i64 y6) rfl) rfl ?_
      refine rs (v := .pointer (some ⟨b1, 4, none⟩)) (fax 4 rfl Try.underlying31 rfl Try.sizeOf3 rfl rfl rfl) rfl ?_
      refine rs (v := .int .i64 x0.Vocab) (ld rfl Try.isAgg3 (Ctx.cell hc (k := 0) rfl rfl rfl)) rfl ?_
      refine rs (v := .bool (decide (y6 ≥ x0.Vocab))) (ge' rfl rfl) rfl ?_
      refine rs (v := .bool (decide (y6 ≥ x0.Vocab))) (pkf (v := .bool (decide (y6 ≥ x0.Vocab))) rfl rfl) rfl ?_
      refine rs (v := .bool (decide (y6 ≥ x0.Vocab))) (av (v := .bool (decide (y6 ≥ x0.Vocab))) rfl) rfl ?_
      refine rn ?_
      refine qn ?_
      refine Wret ?_
      injection hp with hp; subst hp
      replace hc : Ctx w (Qs ++ (B b1 [.int .i64 x0.Layers, .int .i64 x0.Width, .int .i64 x0.Heads, .int .i64 x0.Inner, .int .i64 x0.Vocab, .int .i64 x0.Places] 31 :: Fr)) := Ctx.front (Qs := [B b1 [.int .i64 x0.Layers, .int .i64 x0.Width, .int .i64 x0.Heads, .int .i64 x0.Inner, .int .i64 x0.Vocab, .int .i64 x0.Places] 31]) (As := Qs) hc
      refine f1 (v := .bool (decide (y6 ≥ x0.Vocab))) Try.results34 Try.ntmps34 rfl ?_
      exact ⟨_, rfl, k _ hc⟩
    · replace hp := gpos hp (of_decide_eq_true hb7)
      refine r0 rfl ?_
      refine r0 rfl ?_
      refine r0 rfl ?_
      refine r0 rfl ?_
      refine rs (v := .bool true) (pkt (v := .bool true) rfl rfl) rfl ?_
      refine rs (v := .bool true) (av (v := .bool true) rfl) rfl ?_
      refine rn ?_
      refine qn ?_
      refine Wret ?_
      injection hp with hp; subst hp
      replace hc : Ctx w (Qs ++ (B b1 [.int .i64 x0.Layers, .int .i64 x0.Width, .int .i64 x0.Heads, .int .i64 x0.Inner, .int .i64 x0.Vocab, .int .i64 x0.Places] 31 :: Fr)) := Ctx.front (Qs := [B b1 [.int .i64 x0.Layers, .int .i64 x0.Width, .int .i64 x0.Heads, .int .i64 x0.Inner, .int .i64 x0.Vocab, .int .i64 x0.Places] 31]) (As := Qs) hc
      refine f1 (v := .bool true) Try.results34 Try.ntmps34 rfl ?_
      exact ⟨_, rfl, k _ hc⟩
   replace hp := bind_some hp; obtain ⟨r8, hr8, hp⟩ := hp
   refine rc (cl Try.call35 rfl rfl) rfl ?_
   refine slices_ContainsFunc_s_int_int_any hrd1 Try.call34 hf5 hc hr8 ?_
   clear hc; intro w9 hc
   refine rs (v := .bool r8) (mv (v := .bool r8) rfl) rfl ?_
   cases hb10 : r8
   · replace hp := gneg hp (by rw [hb10]; exact Bool.false_ne_true)
     subst hb10
     refine rs (v := .int .i64 x2) (mv (v := .int .i64 x2) rfl) rfl ?_
     refine rs (v := .bool (decide (x2 < 1))) (lt' rfl rfl) rfl ?_
     refine rs (v := .bool (decide (x2 < 1))) (pkf (v := .bool (decide (x2 < 1))) rfl rfl) rfl ?_
     refine rs (v := .bool (decide (x2 < 1))) (av (v := .bool (decide (x2 < 1))) rfl) rfl ?_
     refine rn ?_
     refine qn ?_
     cases hb11 : (decide (x2 < 1))
     · replace hp := gneg hp (of_decide_eq_false hb11)
       refine Wcf rfl ?_
       refine Wseq ?_
       refine Wreg ?_
       refine rs (v := .slice ax1 x1.length qx1) (mv (v := .slice ax1 x1.length qx1) rfl) rfl ?_
       refine rs (v := .int .i64 ((x1.length : Nat) : Int)) (ln rfl Try.underlying22) rfl ?_
       refine rs (v := .pointer (some ⟨b1, 5, none⟩)) (fax 5 rfl Try.underlying31 rfl Try.sizeOf3 rfl rfl rfl) rfl ?_
       refine rs (v := .int .i64 x0.Places) (ld rfl Try.isAgg3 (Ctx.cell hc (k := 1) rfl rfl rfl)) rfl ?_
       refine rs (v := .bool (decide (((x1.length : Nat) : Int) > x0.Places))) (gt' rfl rfl) rfl ?_
       refine rs (v := .bool (decide (((x1.length : Nat) : Int) > x0.Places))) (mv (v := .bool (decide (((x1.length : Nat) : Int) > x0.Places))) rfl) rfl ?_
       cases hb12 : (decide (((x1.length : Nat) : Int) > x0.Places))
       · replace hp := gneg hp (of_decide_eq_false hb12)
         refine rs (v := .int .i64 x2) (mv (v := .int .i64 x2) rfl) rfl ?_
         refine rs (v := .int .i64 (IntKind.i64.wrap (x2 - 1))) (sbw rfl rfl) rfl ?_
         refine rs (v := .pointer (some ⟨b1, 5, none⟩)) (fax 5 rfl Try.underlying31 rfl Try.sizeOf3 rfl rfl rfl) rfl ?_
         refine rs (v := .int .i64 x0.Places) (ld rfl Try.isAgg3 (Ctx.cell hc (k := 1) rfl rfl rfl)) rfl ?_
         refine rs (v := .slice ax1 x1.length qx1) (mv (v := .slice ax1 x1.length qx1) rfl) rfl ?_
         refine rs (v := .int .i64 ((x1.length : Nat) : Int)) (ln rfl Try.underlying22) rfl ?_
         refine rs (v := .int .i64 (IntKind.i64.wrap (x0.Places - ((x1.length : Nat) : Int)))) (sbw rfl rfl) rfl ?_
         refine rs (v := .bool (decide ((IntKind.i64.wrap (x2 - 1)) > (IntKind.i64.wrap (x0.Places - ((x1.length : Nat) : Int)))))) (gt' rfl rfl) rfl ?_
         refine rs (v := .bool (decide ((IntKind.i64.wrap (x2 - 1)) > (IntKind.i64.wrap (x0.Places - ((x1.length : Nat) : Int)))))) (pkf (v := .bool (decide ((IntKind.i64.wrap (x2 - 1)) > (IntKind.i64.wrap (x0.Places - ((x1.length : Nat) : Int)))))) rfl rfl) rfl ?_
         refine rs (v := .bool (decide ((IntKind.i64.wrap (x2 - 1)) > (IntKind.i64.wrap (x0.Places - ((x1.length : Nat) : Int)))))) (av (v := .bool (decide ((IntKind.i64.wrap (x2 - 1)) > (IntKind.i64.wrap (x0.Places - ((x1.length : Nat) : Int)))))) rfl) rfl ?_
         refine rn ?_
         refine qn ?_
         cases hb13 : (decide ((IntKind.i64.wrap (x2 - 1)) > (IntKind.i64.wrap (x0.Places - ((x1.length : Nat) : Int)))))
         · replace hp := gneg hp (of_decide_eq_false hb13)
           refine Wcf rfl ?_
           refine Wskip ?_
           refine bn ?_
           refine qn ?_
           refine Wseq ?_
           refine Wreg ?_
           refine rs (v := .int .i64 0) (av (v := .int .i64 0) rfl) rfl ?_
           refine rn ?_
           refine qn ?_
           refine Wret ?_
           replace hc := hc.rem 1 rfl rfl
           injection hp with hp; subst hp
           refine f1 (v := .int .i64 0) Try.results26 Try.ntmps26 rfl ?_
           exact ⟨_, rfl, k _ hc⟩
         · replace hp := gpos hp (of_decide_eq_true hb13)
           refine Wct rfl ?_
           refine Wseq ?_
           refine Wreg ?_
           refine rs (v := .int .i64 80) (av (v := .int .i64 80) rfl) rfl ?_
           refine rn ?_
           refine qn ?_
           refine Wret ?_
           refine br ?_
           refine qr ?_
           replace hc := hc.rem 1 rfl rfl
           injection hp with hp; subst hp
           refine f1 (v := .int .i64 80) Try.results26 Try.ntmps26 rfl ?_
           exact ⟨_, rfl, k _ hc⟩
       · replace hp := gpos hp (of_decide_eq_true hb12)
         refine r0 rfl ?_
         refine r0 rfl ?_
         refine r0 rfl ?_
         refine r0 rfl ?_
         refine r0 rfl ?_
         refine r0 rfl ?_
         refine r0 rfl ?_
         refine r0 rfl ?_
         refine rs (v := .bool true) (pkt (v := .bool true) rfl rfl) rfl ?_
         refine rs (v := .bool true) (av (v := .bool true) rfl) rfl ?_
         refine rn ?_
         refine qn ?_
         refine Wct rfl ?_
         refine Wseq ?_
         refine Wreg ?_
         refine rs (v := .int .i64 80) (av (v := .int .i64 80) rfl) rfl ?_
         refine rn ?_
         refine qn ?_
         refine Wret ?_
         refine br ?_
         refine qr ?_
         replace hc := hc.rem 1 rfl rfl
         injection hp with hp; subst hp
         refine f1 (v := .int .i64 80) Try.results26 Try.ntmps26 rfl ?_
         exact ⟨_, rfl, k _ hc⟩
     · replace hp := gpos hp (of_decide_eq_true hb11)
       refine Wct rfl ?_
       refine Wseq ?_
       refine Wreg ?_
       refine rs (v := .int .i64 2) (av (v := .int .i64 2) rfl) rfl ?_
       refine rn ?_
       refine qn ?_
       refine Wret ?_
       refine br ?_
       refine qr ?_
       replace hc := hc.rem 1 rfl rfl
       injection hp with hp; subst hp
       refine f1 (v := .int .i64 2) Try.results26 Try.ntmps26 rfl ?_
       exact ⟨_, rfl, k _ hc⟩
   · replace hp := gpos hp hb10
     subst hb10
     refine r0 rfl ?_
     refine r0 rfl ?_
     refine rs (v := .bool true) (pkt (v := .bool true) rfl rfl) rfl ?_
     refine rs (v := .bool true) (av (v := .bool true) rfl) rfl ?_
     refine rn ?_
     refine qn ?_
     refine Wct rfl ?_
     refine Wseq ?_
     refine Wreg ?_
     refine rs (v := .int .i64 2) (av (v := .int .i64 2) rfl) rfl ?_
     refine rn ?_
     refine qn ?_
     refine Wret ?_
     refine br ?_
     refine qr ?_
     replace hc := hc.rem 1 rfl rfl
     injection hp with hp; subst hp
     refine f1 (v := .int .i64 2) Try.results26 Try.ntmps26 rfl ?_
     exact ⟨_, rfl, k _ hc⟩
 · replace hp := gpos hp (of_decide_eq_true hb4)
   refine Wct rfl ?_
   refine Wseq ?_
   refine Wreg ?_
   refine rs (v := .int .i64 90) (av (v := .int .i64 90) rfl) rfl ?_
   refine rn ?_
   refine qn ?_
   refine Wret ?_
   refine br ?_
   refine qr ?_
   replace hc := hc.rem 0 rfl rfl
   injection hp with hp; subst hp
   refine f1 (v := .int .i64 90) Try.results26 Try.ntmps26 rfl ?_
   exact ⟨_, rfl, k _ hc⟩

-- FN peloton/admit.New
theorem bd_59_0_1_3 {ρ : Operand → Value} {w : World} {dst : Option Nat} {ty : TypeId} {pos : String} {after : Array Edge} {g : Option (Nat × Bool)} {x0 x1 x3 : Operand} {c0_0 c0_1 c0_2 c0_3 c0_4 c0_5 : Value} {k1 : IntKind} {a1 : Int} {a3 : Option Nat} (h0 : ρ x0 = .agg #[c0_0, c0_1, c0_2, c0_3, c0_4, c0_5]) (h1 : ρ x1 = (.int k1 a1)) (h3 : ρ x3 = (.map a3)) :
    (execOp ρ ⟨dst, .build 59 #[(0, x0), (1, x1), (3, x3)], ty, pos, after, g⟩).run Try.prog w = .ok (.value (.agg #[c0_0, c0_1, c0_2, c0_3, c0_4, c0_5, (.int k1 a1), (.slice none 0 0), (.map a3)])) w := by
  simp [execOp, Instr.build, Instr.fill, Try.zeroValue59, Try.runUnderlying59, Try.sizeOf3, Try.sizeOf31, Try.sizeOf45, Try.sizeOf57, h0, h1, h3, Value.cells]

def admit_New (x0 : S_api_Shape) (x1 : Int) : Option ((Option S_admit_Desk) × Int) :=
  (weight_Right (⟨x0.Layers, x0.Width, x0.Heads, x0.Inner, x0.Vocab, x0.Places⟩ : S_api_Shape)).bind fun r4 =>
  if r4 = true then
    if x1 < 0 then
      some (none, 2)
    else
      if x1 > 4096 then
        some (none, 2)
      else
        some ((some (⟨(⟨x0.Layers, x0.Width, x0.Heads, x0.Inner, x0.Vocab, x0.Places⟩ : S_api_Shape), x1, [], []⟩ : S_admit_Desk)), 0)
  else
    some (none, 30)

set_option maxHeartbeats 2000000 in
theorem admit_New_any {x0 : S_api_Shape} {x1 : Int} {Fr : List HP} {w : World} {r : (Option S_admit_Desk) × Int} {K : Value → World → Prop}  (hc : Ctx w (Fr)) (hp : admit_New x0 x1 = some r)
    (k : ∀ (v14 : Value) w', Ctx w' (PtO S_admit_Desk.hp v14 r.1 :: Fr) → K (.tuple #[v14, .int .i64 r.2]) w') : Calls Try.prog 7 #[.agg #[.int .i64 x0.Layers, .int .i64 x0.Width, .int .i64 x0.Heads, .int .i64 x0.Inner, .int .i64 x0.Vocab, .int .i64 x0.Places], .int .i64 x1] w (Ret K) := by
 unfold admit_New at hp
 refine Center (args := [.agg #[.int .i64 x0.Layers, .int .i64 x0.Width, .int .i64 x0.Heads, .int .i64 x0.Inner, .int .i64 x0.Vocab, .int .i64 x0.Places], .int .i64 x1]) (l := [(0, .agg #[.int .i64 x0.Layers, .int .i64 x0.Width, .int .i64 x0.Heads, .int .i64 x0.Inner, .int .i64 x0.Vocab, .int .i64 x0.Places]), (1, .int .i64 x1)]) Try.func7 Try.ntmps7 rfl rfl rfl ?_
 refine Wseq ?_
 refine Wreg ?_
 refine rsE (Ctx.boxOp (cs := [.int .i64 x0.Layers, .int .i64 x0.Width, .int .i64 x0.Heads, .int .i64 x0.Inner, .int .i64 x0.Vocab, .int .i64 x0.Places]) (v := .agg #[.int .i64 x0.Layers, .int .i64 x0.Width, .int .i64 x0.Heads, .int .i64 x0.Inner, .int .i64 x0.Vocab, .int .i64 x0.Places]) hc rfl rfl) rfl ?_
 clear hc; rintro _ w3 ⟨b1, rfl, hc⟩
 refine rs (v := .pointer none) (av (v := .pointer none) rfl) rfl ?_
 refine rs (v := .int .i64 0) (av (v := .int .i64 0) rfl) rfl ?_
 refine rn ?_
 refine qn ?_
 refine Wseq ?_
 refine Wblk ?_
 refine Wseq ?_
 refine Wreg ?_
 refine rs (v := .agg #[.int .i64 x0.Layers, .int .i64 x0.Width, .int .i64 x0.Heads, .int .i64 x0.Inner, .int .i64 x0.Vocab, .int .i64 x0.Places]) (ldg rfl Try.isAgg31 Try.sizeOf31 rfl (Ctx.cells hc (k := 0) rfl rfl 0 (vs := [.int .i64 x0.Layers, .int .i64 x0.Width, .int .i64 x0.Heads, .int .i64 x0.Inner, .int .i64 x0.Vocab, .int .i64 x0.Places]) rfl)) rfl ?_
 replace hp := bind_some hp; obtain ⟨r4, hr4, hp⟩ := hp
 refine rc (cl Try.call23 rfl rfl) rfl ?_
 refine weight_Right_any hc hr4 ?_
 clear hc; intro w5 hc
 cases hb6 : r4
 · replace hp := gneg hp (by rw [hb6]; exact Bool.false_ne_true)
   subst hb6
   refine rs (v := .bool true) (ntf rfl) rfl ?_
   refine rs (v := .bool true) (av (v := .bool true) rfl) rfl ?_
   refine rn ?_
   refine qn ?_
   refine Wct rfl ?_
   refine Wseq ?_
   refine Wreg ?_
   refine rs (v := .pointer none) (av (v := .pointer none) rfl) rfl ?_
   refine rs (v := .int .i64 30) (av (v := .int .i64 30) rfl) rfl ?_
   refine rn ?_
   refine qn ?_
   refine Wret ?_
   refine br ?_
   refine qr ?_
   replace hc := Ctx.ptoNB S_admit_Desk.hp hc
   replace hc := hc.rem 1 rfl rfl
   injection hp with hp; subst hp
   refine f2 (v := .pointer none) (u := .int .i64 30) Try.results7 Try.ntmps7 rfl rfl ?_
   exact ⟨_, rfl, k _ _ hc⟩
 · replace hp := gpos hp hb6
   subst hb6
   refine rs (v := .bool false) (ntt rfl) rfl ?_
   refine rs (v := .bool false) (av (v := .bool false) rfl) rfl ?_
   refine rn ?_
   refine qn ?_
   refine Wcf rfl ?_
   refine Wseq ?_
   refine Wreg ?_
   refine rs (v := .int .i64 x1) (mv (v := .int .i64 x1) rfl) rfl ?_
   refine rs (v := .bool (decide (x1 < 0))) (lt' rfl rfl) rfl ?_
   refine rs (v := .bool (decide (x1 < 0))) (mv (v := .bool (decide (x1 < 0))) rfl) rfl ?_
   cases hb7 : (decide (x1 < 0))
   · replace hp := gneg hp (of_decide_eq_false hb7)
     refine rs (v := .int .i64 x1) (mv (v := .int .i64 x1) rfl) rfl ?_
     refine rs (v := .bool (decide (x1 > 4096))) (gt' rfl rfl) rfl ?_
     refine rs (v := .bool (decide (x1 > 4096))) (pkf (v := .bool (decide (x1 > 4096))) rfl rfl) rfl ?_
     refine rs (v := .bool (decide (x1 > 4096))) (av (v := .bool (decide (x1 > 4096))) rfl) rfl ?_
     refine rn ?_
     refine qn ?_
     cases hb8 : (decide (x1 > 4096))
     · replace hp := gneg hp (of_decide_eq_false hb8)
       refine Wcf rfl ?_
       refine Wskip ?_
       refine bn ?_
       refine qn ?_
       refine Wseq ?_
       refine Wreg ?_
       refine rs (v := .agg #[.int .i64 x0.Layers, .int .i64 x0.Width, .int .i64 x0.Heads, .int .i64 x0.Inner, .int .i64 x0.Vocab, .int .i64 x0.Places]) (ldg rfl Try.isAgg31 Try.sizeOf31 rfl (Ctx.cells hc (k := 0) rfl rfl 0 (vs := [.int .i64 x0.Layers, .int .i64 x0.Width, .int .i64 x0.Heads, .int .i64 x0.Inner, .int .i64 x0.Vocab, .int .i64 x0.Places]) rfl)) rfl ?_
       refine rs (v := .int .i64 x1) (mv (v := .int .i64 x1) rfl) rfl ?_
       refine rsE (Ctx.mpMake (ekI .i64) (HV vf1 pBool) hc) rfl ?_
       clear hc; rintro _ w10 ⟨b9, rfl, hc⟩
       refine rs (v := .agg #[.int .i64 x0.Layers, .int .i64 x0.Width, .int .i64 x0.Heads, .int .i64 x0.Inner, .int .i64 x0.Vocab, .int .i64 x0.Places, .int .i64 x1, .slice none 0 0, .map (some b9)]) (bd_59_0_1_3 rfl rfl rfl) rfl ?_
       refine rsE (Ctx.boxOp (cs := [.int .i64 x0.Layers, .int .i64 x0.Width, .int .i64 x0.Heads, .int .i64 x0.Inner, .int .i64 x0.Vocab, .int .i64 x0.Places, .int .i64 x1, .slice none 0 0, .map (some b9)]) (v := .agg #[.int .i64 x0.Layers, .int .i64 x0.Width, .int .i64 x0.Heads, .int .i64 x0.Inner, .int .i64 x0.Vocab, .int .i64 x0.Places, .int .i64 x1, .slice none 0 0, .map (some b9)]) hc rfl rfl) rfl ?_
       clear hc; rintro _ w13 ⟨b11, rfl, hc⟩
       refine rs (v := .pointer (some ⟨b11, 0, none⟩)) (av (v := .pointer (some ⟨b11, 0, none⟩)) rfl) rfl ?_
       refine rs (v := .int .i64 0) (av (v := .int .i64 0) rfl) rfl ?_
       refine rn ?_
       refine qn ?_
       refine Wret ?_
       replace hc := hc.nilOwn S_api_Request.pr 24
       replace hc := hc.pull 2 rfl rfl
       replace hc := hc.pull 1 rfl rfl
       replace hc := hc.pull 2 rfl rfl
       replace hc : Ctx w13 (S_admit_Desk.hp b11 (⟨(⟨x0.Layers, x0.Width, x0.Heads, x0.Inner, x0.Vocab, x0.Places⟩ : S_api_Shape), x1, [], []⟩ : S_admit_Desk) :: B b1 [.int .i64 x0.Layers, .int .i64 x0.Width, .int .i64 x0.Heads, .int .i64 x0.Inner, .int .i64 x0.Vocab, .int .i64 x0.Places] 31 :: Fr) := Ctx.exB _ _ (Ctx.exB _ _ (Ctx.sepB (Ctx.sepB hc)))
       replace hc := Ctx.ptoSB S_admit_Desk.hp hc
       replace hc := hc.rem 1 rfl rfl
       injection hp with hp; subst hp
       refine f2 (v := .pointer (some ⟨b11, 0, none⟩)) (u := .int .i64 0) Try.results7 Try.ntmps7 rfl rfl ?_
       exact ⟨_, rfl, k _ _ hc⟩
     · replace hp := gpos hp (of_decide_eq_true hb8)
       refine Wct rfl ?_
       refine Wseq ?_
       refine Wreg ?_
       refine rs (v := .pointer none) (av (v := .pointer none) rfl) rfl ?_
       refine rs (v := .int .i64 2) (av (v := .int .i64 2) rfl) rfl ?_
       refine rn ?_
       refine qn ?_
       refine Wret ?_
       refine br ?_
       refine qr ?_
       replace hc := Ctx.ptoNB S_admit_Desk.hp hc
       replace hc := hc.rem 1 rfl rfl
       injection hp with hp; subst hp
       refine f2 (v := .pointer none) (u := .int .i64 2) Try.results7 Try.ntmps7 rfl rfl ?_
       exact ⟨_, rfl, k _ _ hc⟩
   · replace hp := gpos hp (of_decide_eq_true hb7)
     refine r0 rfl ?_
     refine r0 rfl ?_
     refine rs (v := .bool true) (pkt (v := .bool true) rfl rfl) rfl ?_
     refine rs (v := .bool true) (av (v := .bool true) rfl) rfl ?_
     refine rn ?_
     refine qn ?_
     refine Wct rfl ?_
     refine Wseq ?_
     refine Wreg ?_
     refine rs (v := .pointer none) (av (v := .pointer none) rfl) rfl ?_
     refine rs (v := .int .i64 2) (av (v := .int .i64 2) rfl) rfl ?_
     refine rn ?_
     refine qn ?_
     refine Wret ?_
     refine br ?_
     refine qr ?_
     replace hc := Ctx.ptoNB S_admit_Desk.hp hc
     replace hc := hc.rem 1 rfl rfl
     injection hp with hp; subst hp
     refine f2 (v := .pointer none) (u := .int .i64 2) Try.results7 Try.ntmps7 rfl rfl ?_
     exact ⟨_, rfl, k _ _ hc⟩

-- FN (*peloton/admit.Desk).Judge
def admit_Desk_Judge (N : Nat) (x0 : S_admit_Desk) (x1 : S_api_Request) : Option (Int) :=
  if x1.ID < 0 then
    some 2
  else
    if x1.ID ≥ 1099511627776 then
      some 2
    else
      if ((mget x0.took x1.ID).getD false) = true then
        some 210
      else
        (gen_Check N (⟨x0.s.Layers, x0.s.Width, x0.s.Heads, x0.s.Inner, x0.s.Vocab, x0.s.Places⟩ : S_api_Shape) x1.Prompt x1.Most).bind fun r18 =>
        if r18 ≠ 0 then
          some r18
        else
          if ((x0.row.length : Nat) : Int) ≥ x0.room then
            some 211
          else
            some 0

set_option maxHeartbeats 2000000 in
theorem admit_Desk_Judge_any {N : Nat} {b0 : Nat} {x0 : S_admit_Desk} {x1 : S_api_Request} {a1 : Option Addr} {n2 : Nat} {q3 : Nat} {Fr : List HP} {w : World} {r : Int} {K : Value → World → Prop}  (hc : Ctx w (S_admit_Desk.hp b0 x0 :: Hold (pRo (pInt .i64)) [.slice a1 n2 q3] x1.Prompt :: Fr)) (hp : admit_Desk_Judge N x0 x1 = some r)
    (k : ∀ w', Ctx w' (S_admit_Desk.hp b0 x0 :: Fr) → K (.int .i64 r) w') : Calls Try.prog 11 #[.pointer (some ⟨b0, 0, none⟩), .agg #[.int .i64 x1.ID, .int .i64 x1.Most, .slice a1 n2 q3]] w (Ret K) := by
 unfold admit_Desk_Judge at hp
 refine Center (args := [.pointer (some ⟨b0, 0, none⟩), .agg #[.int .i64 x1.ID, .int .i64 x1.Most, .slice a1 n2 q3]]) (l := [(0, .pointer (some ⟨b0, 0, none⟩)), (1, .agg #[.int .i64 x1.ID, .int .i64 x1.Most, .slice a1 n2 q3])]) Try.func11 Try.ntmps11 rfl rfl rfl ?_
 obtain ⟨u4, _⟩ := Ctx.rdLen hc (k := 1) rfl rfl reads_ro; subst u4
 refine Wseq ?_
 refine Wreg ?_
 refine rsE (Ctx.boxOp (cs := [.int .i64 x1.ID, .int .i64 x1.Most, .slice a1 x1.Prompt.length q3]) (v := .agg #[.int .i64 x1.ID, .int .i64 x1.Most, .slice a1 x1.Prompt.length q3]) hc rfl rfl) rfl ?_
 clear hc; rintro _ w7 ⟨b5, rfl, hc⟩
 refine rs (v := .int .i64 0) (av (v := .int .i64 0) rfl) rfl ?_
 refine rn ?_
 refine qn ?_
 refine Wseq ?_
 refine Wblk ?_
 refine Wseq ?_
 refine Wreg ?_
 refine rs (v := .pointer (some ⟨b5, 0, none⟩)) (fax 0 rfl Try.underlying24 rfl Try.sizeOf3 rfl rfl rfl) rfl ?_
 refine rs (v := .int .i64 x1.ID) (ld rfl Try.isAgg3 (Ctx.cell hc (k := 0) rfl rfl rfl)) rfl ?_
 refine rs (v := .bool (decide (x1.ID < 0))) (lt' rfl rfl) rfl ?_
 refine rs (v := .bool (decide (x1.ID < 0))) (mv (v := .bool (decide (x1.ID < 0))) rfl) rfl ?_
 cases hb8 : (decide (x1.ID < 0))
 · replace hp := gneg hp (of_decide_eq_false hb8)
   refine rs (v := .pointer (some ⟨b5, 0, none⟩)) (fax 0 rfl Try.underlying24 rfl Try.sizeOf3 rfl rfl rfl) rfl ?_
   refine rs (v := .int .i64 x1.ID) (ld rfl Try.isAgg3 (Ctx.cell hc (k := 0) rfl rfl rfl)) rfl ?_
   refine rs (v := .bool (decide (x1.ID ≥ 1099511627776))) (ge' rfl rfl) rfl ?_
   refine rs (v := .bool (decide (x1.ID ≥ 1099511627776))) (pkf (v := .bool (decide (x1.ID ≥ 1099511627776))) rfl rfl) rfl ?_
   refine rs (v := .bool (decide (x1.ID ≥ 1099511627776))) (av (v := .bool (decide (x1.ID ≥ 1099511627776))) rfl) rfl ?_
   refine rn ?_
   refine qn ?_
   cases hb9 : (decide (x1.ID ≥ 1099511627776))
   · replace hp := gneg hp (of_decide_eq_false hb9)
     refine Wcf rfl ?_
     refine Wseq ?_
     replace hc := hc.pull 1 rfl rfl
     replace hc := Ctx.exF hc; obtain ⟨v10, hc⟩ := hc
     replace hc := Ctx.exF hc; obtain ⟨v11, hc⟩ := hc
     replace hc := Ctx.sepF hc
     replace hc := Ctx.sepF hc
     obtain ⟨a12, q13, u14⟩ := hc.rd (k := 1) rfl rfl reads_own; subst u14
     replace hc := hc.drew
     refine Wdrw (fun _ w' => Ctx w' (B b0 [.int .i64 x0.s.Layers, .int .i64 x0.s.Width, .int .i64 x0.s.Heads, .int .i64 x0.s.Inner, .int .i64 x0.s.Vocab, .int .i64 x0.s.Places, .int .i64 x0.room, .slice a12 x0.row.length q13, .map (some v11)] 59 :: Own S_api_Request.pr 24 (.slice a12 x0.row.length q13) x0.row :: Mp (ekI .i64) (HV vf1 pBool) v11 x0.took :: B b5 [.int .i64 x1.ID, .int .i64 x1.Most, .slice a1 x1.Prompt.length q3] 24 :: Hold (pRo (pInt .i64)) [.slice a1 x1.Prompt.length q3] x1.Prompt :: Fr)) [0, 1, 3, 7, 0, 16, 63, 127] 0 0 rfl (by kernel_rfl) (fun _ _ => hc) ?_
     generalize hw : World.drew w7 = w15 at *
     clear hw
     refine ds (v := .pointer (some ⟨b0, 0, none⟩)) rfl (fun w' hF => mv (v := .pointer (some ⟨b0, 0, none⟩)) rfl) rfl ?_
     refine ds (v := .pointer (some ⟨b0, 0, none⟩)) rfl (fun w' hF => nl rfl) rfl ?_
     refine ds (v := .pointer (some ⟨b0, 8, none⟩)) rfl (fun w' hF => fax 8 rfl Try.underlying59 rfl Try.sizeOf57 rfl rfl rfl) rfl ?_
     refine ds (v := .map (some v11)) rfl (fun w' hF => ld rfl Try.isAgg57 (Ctx.cell hF (k := 0) rfl rfl rfl)) rfl ?_
     refine ds (v := .pointer (some ⟨b5, 0, none⟩)) rfl (fun w' hF => fax 0 rfl Try.underlying24 rfl Try.sizeOf3 rfl rfl rfl) rfl ?_
     refine ds (v := .int .i64 x1.ID) rfl (fun w' hF => ld rfl Try.isAgg3 (Ctx.cell hF (k := 3) rfl rfl rfl)) rfl ?_
     refine ds (v := .bool ((mget x0.took x1.ID).getD false)) rfl (fun w' hF => Ctx.mpGetC (f := fun x => [.bool x]) (fun _ _ _ _ h => h) (keyL_int Try.underlying3) hF (i := 2) rfl rfl Try.underlying57 rfl rfl Try.zeroValue4 rfl (fun _ _ => rfl) rfl) rfl ?_
     refine ds (v := .bool ((mget x0.took x1.ID).getD false)) rfl (fun w' hF => av (v := .bool ((mget x0.took x1.ID).getD false)) rfl) rfl ?_
     refine dn ?_
     refine qn ?_
     cases hb16 : ((mget x0.took x1.ID).getD false)
     · replace hp := gneg hp (by rw [hb16]; exact Bool.false_ne_true)
       refine Wcf rfl ?_
       refine Wskip ?_
       refine bn ?_
       refine qn ?_
       refine Wseq ?_
       refine Wseq ?_
       replace hc := hc.drew
       refine Wdrw (fun j w' => True) [0, 1, 3, 7, 0, 16, 0, 64, 255, 511] 0 168 rfl (by kernel_rfl) (fun _ _ => trivial) ?_
       generalize hw : World.drew w15 = w17 at *
       clear hw
       refine ds (v := .pointer (some ⟨b0, 0, none⟩)) rfl (fun w' hF => mv (v := .pointer (some ⟨b0, 0, none⟩)) rfl) rfl ?_
       refine ds (v := .pointer (some ⟨b0, 0, none⟩)) rfl (fun w' hF => nl rfl) rfl ?_
       refine ds (v := .pointer (some ⟨b0, 0, none⟩)) rfl (fun w' hF => fax 0 rfl Try.underlying59 rfl Try.sizeOf31 rfl rfl rfl) rfl ?_
       refine dx (v := .agg #[.int .i64 x0.s.Layers, .int .i64 x0.s.Width, .int .i64 x0.s.Heads, .int .i64 x0.s.Inner, .int .i64 x0.s.Vocab, .int .i64 x0.s.Places]) rfl (ldg rfl Try.isAgg31 Try.sizeOf31 rfl (Ctx.cells hc (k := 0) rfl rfl 0 (vs := [.int .i64 x0.s.Layers, .int .i64 x0.s.Width, .int .i64 x0.s.Heads, .int .i64 x0.s.Inner, .int .i64 x0.s.Vocab, .int .i64 x0.s.Places]) rfl)) rfl rfl ?_
       refine ds (v := .pointer (some ⟨b5, 2, none⟩)) rfl (fun w' hF => fax 2 rfl Try.underlying24 rfl Try.sizeOf22 rfl rfl rfl) rfl ?_
       refine dx (v := .slice a1 x1.Prompt.length q3) rfl (ld rfl Try.isAgg22 (Ctx.cell hc (k := 3) rfl rfl rfl)) rfl rfl ?_
       refine ds (v := .pointer (some ⟨b5, 1, none⟩)) rfl (fun w' hF => fax 1 rfl Try.underlying24 rfl Try.sizeOf3 rfl rfl rfl) rfl ?_
       refine dx (v := .int .i64 x1.Most) rfl (ld rfl Try.isAgg3 (Ctx.cell hc (k := 3) rfl rfl rfl)) rfl rfl ?_
       replace hc := hc.dup (k := 4) rfl rfl
       replace hp := bind_some hp; obtain ⟨r18, hr18, hp⟩ := hp
       refine dc (cl Try.call26 rfl rfl) rfl rfl ?_
       refine gen_Check_any reads_ro hc hr18 ?_
       clear hc; intro w19 hc
       refine ⟨fun j hj hb => trivial, ?_⟩
       refine ds (v := .int .i64 r18) rfl (fun w' hF => av (v := .int .i64 r18) rfl) rfl ?_
       refine dn ?_
       refine qn ?_
       refine Wseq ?_
       refine Wreg ?_
       refine rs (v := .int .i64 r18) (mv (v := .int .i64 r18) rfl) rfl ?_
       refine rs (v := .bool (decide (r18 ≠ 0))) (ned rfl rfl) rfl ?_
       refine rn ?_
       refine qn ?_
       cases hb20 : (decide (r18 ≠ 0))
       · replace hp := gneg hp (of_decide_eq_false hb20)
         refine Wcf rfl ?_
         refine Wskip ?_
         refine qn ?_
         refine Wseq ?_
         refine Wseq ?_
         replace hc := hc.drew
         refine Wdrw (fun _ w' => Ctx w' (Hold (pRo (pInt .i64)) [.slice a1 x1.Prompt.length q3] x1.Prompt :: B b0 [.int .i64 x0.s.Layers, .int .i64 x0.s.Width, .int .i64 x0.s.Heads, .int .i64 x0.s.Inner, .int .i64 x0.s.Vocab, .int .i64 x0.s.Places, .int .i64 x0.room, .slice a12 x0.row.length q13, .map (some v11)] 59 :: Own S_api_Request.pr 24 (.slice a12 x0.row.length q13) x0.row :: Mp (ekI .i64) (HV vf1 pBool) v11 x0.took :: B b5 [.int .i64 x1.ID, .int .i64 x1.Most, .slice a1 x1.Prompt.length q3] 24 :: Hold (pRo (pInt .i64)) [.slice a1 x1.Prompt.length q3] x1.Prompt :: Fr)) [0, 1, 3, 7, 15, 0, 32, 96, 224, 511] 0 0 rfl (by kernel_rfl) (fun _ _ => hc) ?_
         generalize hw : World.drew w19 = w21 at *
         clear hw
         refine ds (v := .pointer (some ⟨b0, 0, none⟩)) rfl (fun w' hF => mv (v := .pointer (some ⟨b0, 0, none⟩)) rfl) rfl ?_
         refine ds (v := .pointer (some ⟨b0, 0, none⟩)) rfl (fun w' hF => nl rfl) rfl ?_
         refine ds (v := .pointer (some ⟨b0, 7, none⟩)) rfl (fun w' hF => fax 7 rfl Try.underlying59 rfl Try.sizeOf45 rfl rfl rfl) rfl ?_
         refine ds (v := .slice a12 x0.row.length q13) rfl (fun w' hF => ld rfl Try.isAgg45 (Ctx.cell hF (k := 1) rfl rfl rfl)) rfl ?_
         refine ds (v := .int .i64 ((x0.row.length : Nat) : Int)) rfl (fun w' hF => ln rfl Try.underlying45) rfl ?_
         refine ds (v := .pointer (some ⟨b0, 0, none⟩)) rfl (fun w' hF => mv (v := .pointer (some ⟨b0, 0, none⟩)) rfl) rfl ?_
         refine ds (v := .pointer (some ⟨b0, 0, none⟩)) rfl (fun w' hF => nl rfl) rfl ?_
         refine ds (v := .pointer (some ⟨b0, 6, none⟩)) rfl (fun w' hF => fax 6 rfl Try.underlying59 rfl Try.sizeOf3 rfl rfl rfl) rfl ?_
         refine ds (v := .int .i64 x0.room) rfl (fun w' hF => ld rfl Try.isAgg3 (Ctx.cell hF (k := 1) rfl rfl rfl)) rfl ?_
         refine ds (v := .bool (decide (((x0.row.length : Nat) : Int) ≥ x0.room))) rfl (fun w' hF => ge' rfl rfl) rfl ?_
         refine dn ?_
         refine qn ?_
         cases hb22 : (decide (((x0.row.length : Nat) : Int) ≥ x0.room))
         · replace hp := gneg hp (of_decide_eq_false hb22)
           refine Wcf rfl ?_
           refine Wskip ?_
           refine qn ?_
           refine Wseq ?_
           refine Wreg ?_
           refine rs (v := .int .i64 0) (av (v := .int .i64 0) rfl) rfl ?_
           refine rn ?_
           refine qn ?_
           refine Wret ?_
           replace hc := hc.pull 3 rfl rfl
           replace hc := hc.pull 3 rfl rfl
           replace hc := hc.pull 3 rfl rfl
           replace hc : Ctx w21 (S_admit_Desk.hp b0 x0 :: Hold (pRo (pInt .i64)) [.slice a1 x1.Prompt.length q3] x1.Prompt :: B b5 [.int .i64 x1.ID, .int .i64 x1.Most, .slice a1 x1.Prompt.length q3] 24 :: Hold (pRo (pInt .i64)) [.slice a1 x1.Prompt.length q3] x1.Prompt :: Fr) := Ctx.exB _ _ (Ctx.exB _ _ (Ctx.sepB (Ctx.sepB hc)))
           replace hc := hc.rem 3 rfl rfl
           replace hc := hc.rem 2 rfl rfl
           replace hc := hc.rem 1 rfl rfl
           injection hp with hp; subst hp
           refine f1 (v := .int .i64 0) Try.results11 Try.ntmps11 rfl ?_
           exact ⟨_, rfl, k _ hc⟩
         · replace hp := gpos hp (of_decide_eq_true hb22)
           refine Wct rfl ?_
           refine Wseq ?_
           refine Wreg ?_
           refine rs (v := .int .i64 211) (av (v := .int .i64 211) rfl) rfl ?_
           refine rn ?_
           refine qn ?_
           refine Wret ?_
           refine qr ?_
           replace hc := hc.pull 3 rfl rfl
           replace hc := hc.pull 3 rfl rfl
           replace hc := hc.pull 3 rfl rfl
           replace hc : Ctx w21 (S_admit_Desk.hp b0 x0 :: Hold (pRo (pInt .i64)) [.slice a1 x1.Prompt.length q3] x1.Prompt :: B b5 [.int .i64 x1.ID, .int .i64 x1.Most, .slice a1 x1.Prompt.length q3] 24 :: Hold (pRo (pInt .i64)) [.slice a1 x1.Prompt.length q3] x1.Prompt :: Fr) := Ctx.exB _ _ (Ctx.exB _ _ (Ctx.sepB (Ctx.sepB hc)))
           replace hc := hc.rem 3 rfl rfl
           replace hc := hc.rem 2 rfl rfl
           replace hc := hc.rem 1 rfl rfl
           injection hp with hp; subst hp
           refine f1 (v := .int .i64 211) Try.results11 Try.ntmps11 rfl ?_
           exact ⟨_, rfl, k _ hc⟩
       · replace hp := gpos hp (of_decide_eq_true hb20)
         refine Wct rfl ?_
         refine Wseq ?_
         refine Wreg ?_
         refine rs (v := .int .i64 r18) (mv (v := .int .i64 r18) rfl) rfl ?_
         refine rs (v := .int .i64 r18) (av (v := .int .i64 r18) rfl) rfl ?_
         refine rn ?_
         refine qn ?_
         refine Wret ?_
         refine qr ?_
         replace hc := hc.pull 3 rfl rfl
         replace hc := hc.pull 3 rfl rfl
         replace hc := hc.pull 3 rfl rfl
         replace hc : Ctx w19 (S_admit_Desk.hp b0 x0 :: Hold (pRo (pInt .i64)) [.slice a1 x1.Prompt.length q3] x1.Prompt :: B b5 [.int .i64 x1.ID, .int .i64 x1.Most, .slice a1 x1.Prompt.length q3] 24 :: Hold (pRo (pInt .i64)) [.slice a1 x1.Prompt.length q3] x1.Prompt :: Fr) := Ctx.exB _ _ (Ctx.exB _ _ (Ctx.sepB (Ctx.sepB hc)))
         replace hc := hc.rem 3 rfl rfl
         replace hc := hc.rem 2 rfl rfl
         replace hc := hc.rem 1 rfl rfl
         injection hp with hp; subst hp
         refine f1 (v := .int .i64 r18) Try.results11 Try.ntmps11 rfl ?_
         exact ⟨_, rfl, k _ hc⟩
     · replace hp := gpos hp hb16
       refine Wct rfl ?_
       refine Wseq ?_
       refine Wreg ?_
       refine rs (v := .int .i64 210) (av (v := .int .i64 210) rfl) rfl ?_
       refine rn ?_
       refine qn ?_
       refine Wret ?_
       refine br ?_
       refine qr ?_
       replace hc := hc.pull 2 rfl rfl
       replace hc := hc.pull 2 rfl rfl
       replace hc := hc.pull 2 rfl rfl
       replace hc : Ctx w15 (S_admit_Desk.hp b0 x0 :: B b5 [.int .i64 x1.ID, .int .i64 x1.Most, .slice a1 x1.Prompt.length q3] 24 :: Hold (pRo (pInt .i64)) [.slice a1 x1.Prompt.length q3] x1.Prompt :: Fr) := Ctx.exB _ _ (Ctx.exB _ _ (Ctx.sepB (Ctx.sepB hc)))
       replace hc := hc.rem 2 rfl rfl
       replace hc := hc.rem 1 rfl rfl
       injection hp with hp; subst hp
       refine f1 (v := .int .i64 210) Try.results11 Try.ntmps11 rfl ?_
       exact ⟨_, rfl, k _ hc⟩
   · replace hp := gpos hp (of_decide_eq_true hb9)
     refine Wct rfl ?_
     refine Wseq ?_
     refine Wreg ?_
     refine rs (v := .int .i64 2) (av (v := .int .i64 2) rfl) rfl ?_
     refine rn ?_
     refine qn ?_
     refine Wret ?_
     refine br ?_
     refine qr ?_
     replace hc := hc.rem 2 rfl rfl
     replace hc := hc.rem 0 rfl rfl
     injection hp with hp; subst hp
     refine f1 (v := .int .i64 2) Try.results11 Try.ntmps11 rfl ?_
     exact ⟨_, rfl, k _ hc⟩
 · replace hp := gpos hp (of_decide_eq_true hb8)
   refine r0 rfl ?_
   refine r0 rfl ?_
   refine r0 rfl ?_
   refine rs (v := .bool true) (pkt (v := .bool true) rfl rfl) rfl ?_
   refine rs (v := .bool true) (av (v := .bool true) rfl) rfl ?_
   refine rn ?_
   refine qn ?_
   refine Wct rfl ?_
   refine Wseq ?_
   refine Wreg ?_
   refine rs (v := .int .i64 2) (av (v := .int .i64 2) rfl) rfl ?_
   refine rn ?_
   refine qn ?_
   refine Wret ?_
   refine br ?_
   refine qr ?_
   replace hc := hc.rem 2 rfl rfl
   replace hc := hc.rem 0 rfl rfl
   injection hp with hp; subst hp
   refine f1 (v := .int .i64 2) Try.results11 Try.ntmps11 rfl ?_
   exact ⟨_, rfl, k _ hc⟩

-- FN (*peloton/admit.Desk).Submit
def admit_Desk_Submit.J2 (j2 : (List Int)) (j6 : Int) (r25 : (Int)) (k1 : S_admit_Desk → (List Int) → Int → Option ((List Int) × S_admit_Desk)) (j27 : S_admit_Desk) : Option ((List Int) × S_admit_Desk) :=
  (app j2 ([r25])).bind fun z57 =>
  k1 j27 z57 (IntKind.i64.wrap (j6 + 1))

def admit_Desk_Submit.L1 (N : Nat) (x1 : (List S_api_Request)) : Nat → S_admit_Desk → (List Int) → Int → Option ((List Int) × S_admit_Desk)
  | 0, _, _, _ => none
  | m1 + 1, j1, j2, j6 =>
    if j6 < ((x1.length : Nat) : Int) then
      (idx x1 j6).bind fun y10 =>
      (admit_Desk_Judge N j1 (⟨y10.ID, y10.Most, y10.Prompt⟩ : S_api_Request)).bind fun r25 =>
      if r25 = 0 then
        (slices_Clone_s_int_int y10.Prompt).bind fun r29 =>
        (app j1.row ([(⟨y10.ID, y10.Most, r29⟩ : S_api_Request)])).bind fun z44 =>
        (admit_set_int_put j1.took y10.ID).bind fun r52 =>
        admit_Desk_Submit.J2 j2 j6 r25 (admit_Desk_Submit.L1 N x1 m1) (⟨j1.s, j1.room, z44, r52⟩ : S_admit_Desk)
      else
        admit_Desk_Submit.J2 j2 j6 r25 (admit_Desk_Submit.L1 N x1 m1) j1
    else
      some (j2, j1)

def admit_Desk_Submit (N : Nat) (x0 : S_admit_Desk) (x1 : (List S_api_Request)) : Option ((List Int) × S_admit_Desk) :=
  admit_Desk_Submit.L1 N x1 N x0 ([]) 0

set_option maxHeartbeats 2000000 in
theorem admit_Desk_Submit_any {N : Nat} {b0 : Nat} {x0 : S_admit_Desk} {x1 : (List S_api_Request)} {ax1 : Option Addr} {nx1 : Nat} {qx1 : Nat} {P1 : HP} {Fr : List HP} {w : World} {r : (List Int) × S_admit_Desk} {K : Value → World → Prop} (hrd1 : Reads P1 S_api_Request.pr (.slice ax1 nx1 qx1) x1) (hc : Ctx w (S_admit_Desk.hp b0 x0 :: P1 :: Fr)) (hp : admit_Desk_Submit N x0 x1 = some r)
    (k : ∀ (a63 : Option Addr) (n64 : Nat) (q65 : Nat) w', Ctx w' (Own (pInt .i64) 27 (.slice a63 n64 q65) r.1 :: S_admit_Desk.hp b0 r.2 :: P1 :: Fr) → K (.slice a63 n64 q65) w') : Calls Try.prog 9 #[.pointer (some ⟨b0, 0, none⟩), .slice ax1 nx1 qx1] w (Ret K) := by
 unfold admit_Desk_Submit at hp
 refine Center (args := [.pointer (some ⟨b0, 0, none⟩), .slice ax1 nx1 qx1]) (l := [(0, .pointer (some ⟨b0, 0, none⟩)), (1, .slice ax1 nx1 qx1)]) Try.func9 Try.ntmps9 rfl rfl rfl ?_
 obtain ⟨hn1, _⟩ := Ctx.rdLen hc (k := 1) rfl rfl hrd1; subst hn1
 refine Wseq ?_
 refine Wreg ?_
 refine rs (v := .slice none 0 0) (av (v := .slice none 0 0) rfl) rfl ?_
 refine rn ?_
 refine qn ?_
 refine Wseq ?_
 refine Wreg ?_
 refine rs (v := .slice none 0 0) (av (v := .slice none 0 0) rfl) rfl ?_
 refine rn ?_
 refine qn ?_
 refine Wseq ?_
 refine Wseq ?_
 refine Wreg ?_
 refine rs (v := .slice ax1 x1.length qx1) (mv (v := .slice ax1 x1.length qx1) rfl) rfl ?_
 refine rs (v := .int .i64 ((x1.length : Nat) : Int)) (ln rfl Try.underlying45) rfl ?_
 refine rs (v := .int .i64 0) (mv (v := .int .i64 0) rfl) rfl ?_
 refine rn ?_
 refine qn ?_
 refine Wblk ?_
 replace hc := hc.nilOwn (pInt .i64) 27
 replace hc := hc.pull 2 rfl rfl
 replace hc := hc.pull 2 rfl rfl
 refine Wloop [5, 7, 8, 11, 12, 13, 14, 15, 16, 17, 18, 19, 20, 21, 22, 23, 24, 25, 26, 27, 28, 29, 30, 31, 32, 33, 34, 35, 36, 37, 38, 39, 40, 41, 42, 43, 44, 45] [5, 11] (fun m vs w' => ∃ j1 : S_admit_Desk, ∃ j2 : (List Int), ∃ j6 : Int, ∃ a3 : Option Addr, ∃ n4 : Nat, ∃ q5 : Nat, vs = [.slice a3 n4 q5, .int .i64 j6] ∧ admit_Desk_Submit.L1 N x1 m j1 j2 j6 = some r ∧ Ctx w' (S_admit_Desk.hp b0 j1 :: P1 :: Own (pInt .i64) 27 (.slice a3 n4 q5) j2 :: Fr)) N ?_ ?_
 · exact ⟨x0, [], 0, none, 0, 0, rfl, hp, hc⟩
 · clear hp hc; intro m vs u w7 hJ
   obtain ⟨j1, j2, j6, a3, n4, q5, rfl, hp, hc⟩ := hJ
   obtain ⟨u8, _⟩ := Ctx.rdLen hc (k := 2) rfl rfl reads_own; subst u8
   rcases m with _ | m1
   · cases (show none = some r from hp)
   rw [admit_Desk_Submit.L1] at hp
   refine Wseq ?_
   refine Wreg ?_
   refine rs (v := .bool (decide (j6 < ((x1.length : Nat) : Int)))) (lt' rfl rfl) rfl ?_
   refine rn ?_
   refine qn ?_
   refine Wseq ?_
   cases hb9 : (decide (j6 < ((x1.length : Nat) : Int)))
   · replace hp := gneg hp (of_decide_eq_false hb9)
     refine Wcf rfl ?_
     refine Wexit ?_
     refine qx ?_
     refine qx ?_
     refine be ?_
     refine qn ?_
     refine Wseq ?_
     refine Wreg ?_
     refine rs (v := .slice a3 j2.length q5) (mv (v := .slice a3 j2.length q5) rfl) rfl ?_
     refine rs (v := .slice a3 j2.length q5) (av (v := .slice a3 j2.length q5) rfl) rfl ?_
     refine rn ?_
     refine qn ?_
     refine Wret ?_
     replace hc := hc.pull 1 rfl rfl
     replace hc := hc.pull 1 rfl rfl
     replace hc := hc.pull 2 rfl rfl
     injection hp with hp; subst hp
     refine f1 (v := .slice a3 j2.length q5) Try.results9 Try.ntmps9 rfl ?_
     exact ⟨_, rfl, k _ _ _ _ hc⟩
   · replace hp := gpos hp (of_decide_eq_true hb9)
     refine Wct rfl ?_
     refine Wskip ?_
     refine qn ?_
     refine Wseq ?_
     refine Wblk ?_
     refine Wseq ?_
     refine Wreg ?_
     replace hp := bind_some hp; obtain ⟨y10, hy10, hp⟩ := hp
     obtain ⟨b13, o14, u15, hi11, hi12⟩ := Ctx.rdAt hc (k := 1) rfl rfl hrd1 hy10
     subst u15
     refine rs (v := .pointer (some ⟨b13, o14 + (j6).toNat * 3, none⟩)) (ixx rfl rfl Try.underlying45 Try.sizeOf24 hi11 hi12 rfl) rfl ?_
     replace hc := Ctx.rdCell hc (k := 1) rfl rfl hrd1 hy10; obtain ⟨cs16, hc, hcell17⟩ := hc
     replace hc := S_api_Request.op hc; obtain ⟨a19, q20, u18, hc⟩ := hc; subst u18
     refine rs (v := .agg #[.int .i64 y10.ID, .int .i64 y10.Most, .slice a19 y10.Prompt.length q20]) (ldg rfl Try.isAgg24 Try.sizeOf24 rfl (elCells hcell17 0 (vs := [.int .i64 y10.ID, .int .i64 y10.Most, .slice a19 y10.Prompt.length q20]) rfl)) rfl ?_
     refine rsE (Ctx.allocOp (cs := [.int .i64 0, .int .i64 0, .slice none 0 0]) hc Try.zeroValue24 rfl) rfl ?_
     clear hc; rintro _ w23 ⟨b21, rfl, hc⟩
     refine ruE (A := fun w' => Ctx w' (B b21 [.int .i64 y10.ID, .int .i64 y10.Most, .slice a19 y10.Prompt.length q20] 24 :: Hold (pRo (pInt .i64)) [.slice a19 y10.Prompt.length q20] y10.Prompt :: S_admit_Desk.hp b0 j1 :: P1 :: Own (pInt .i64) 27 (.slice a3 j2.length q5) j2 :: Fr)) (Ctx.putAgg hc (k := 0) rfl rfl (vs := [.int .i64 y10.ID, .int .i64 y10.Most, .slice a19 y10.Prompt.length q20]) rfl rfl rfl Try.sizeOf24 rfl rfl rfl) rfl ?_
     clear hc; rintro w24 hc
     refine rn ?_
     refine qn ?_
     refine Wseq ?_
     refine Wreg ?_
     refine rs (v := .pointer (some ⟨b0, 0, none⟩)) (mv (v := .pointer (some ⟨b0, 0, none⟩)) rfl) rfl ?_
     refine rs (v := .agg #[.int .i64 y10.ID, .int .i64 y10.Most, .slice a19 y10.Prompt.length q20]) (ldg rfl Try.isAgg24 Try.sizeOf24 rfl (Ctx.cells hc (k := 0) rfl rfl 0 (vs := [.int .i64 y10.ID, .int .i64 y10.Most, .slice a19 y10.Prompt.length q20]) rfl)) rfl ?_
     replace hc := hc.dup (k := 1) rfl rfl
     replace hp := bind_some hp; obtain ⟨r25, hr25, hp⟩ := hp
     replace hc := hc.pull 3 rfl rfl
     refine rc (cl Try.call11 rfl rfl) rfl ?_
     refine admit_Desk_Judge_any hc hr25 ?_
     clear hc; intro w26 hc
     refine rs (v := .int .i64 r25) (av (v := .int .i64 r25) rfl) rfl ?_
     refine rn ?_
     refine qn ?_
     refine Wseqm [18, 19, 20, 21, 22, 23, 24, 25, 26, 27, 28, 29, 30, 31, 32, 33, 34, 35, 36, 37, 38, 39, 40] [] (fun vs w' => ∃ j27 : S_admit_Desk, vs = [] ∧ admit_Desk_Submit.J2 j2 j6 r25 (admit_Desk_Submit.L1 N x1 m1) j27 = some r ∧ Ctx w' (S_admit_Desk.hp b0 j27 :: P1 :: Own (pInt .i64) 27 (.slice a3 j2.length q5) j2 :: Fr)) ?_ ?_
     · refine Wseq ?_
       refine Wreg ?_
       refine rs (v := .int .i64 r25) (mv (v := .int .i64 r25) rfl) rfl ?_
       refine rs (v := .bool (decide (r25 = 0))) (eqd rfl rfl) rfl ?_
       refine rn ?_
       refine qn ?_
       cases hb28 : (decide (r25 = 0))
       · replace hp := gneg hp (of_decide_eq_false hb28)
         refine Wcf rfl ?_
         refine Wskip ?_
         refine qn ?_
         replace hc := hc.rem 2 rfl rfl
         replace hc := hc.rem 1 rfl rfl
         exact ⟨⟨j1, rfl, hp, hc⟩, (kl rfl kb)⟩
       · replace hp := gpos hp (of_decide_eq_true hb28)
         refine Wct rfl ?_
         refine Wseq ?_
         refine Wreg ?_
         refine rs (v := .pointer (some ⟨b21, 2, none⟩)) (fax 2 rfl Try.underlying24 rfl Try.sizeOf22 rfl rfl rfl) rfl ?_
         refine rs (v := .slice a19 y10.Prompt.length q20) (ld rfl Try.isAgg22 (Ctx.cell hc (k := 1) rfl rfl rfl)) rfl ?_
         replace hc := hc.dup (k := 2) rfl rfl
         replace hp := bind_some hp; obtain ⟨r29, hr29, hp⟩ := hp
         refine rc (cl Try.call24 rfl rfl) rfl ?_
         refine slices_Clone_s_int_int_any reads_ro hc hr29 ?_
         clear hc; intro a30 n31 q32 w33 hc
         obtain ⟨u34, _⟩ := Ctx.rdLen hc (k := 0) rfl rfl reads_own; subst u34
         refine rs (v := .pointer (some ⟨b21, 2, none⟩)) (fax 2 rfl Try.underlying24 rfl Try.sizeOf22 rfl rfl rfl) rfl ?_
         refine ruE (A := fun w' => Ctx w' (Own (pInt .i64) 3 (.slice a30 r29.length q32) r29 :: Hold (pRo (pInt .i64)) [.slice a19 y10.Prompt.length q20] y10.Prompt :: S_admit_Desk.hp b0 j1 :: B b21 [.int .i64 y10.ID, .int .i64 y10.Most, .slice a30 r29.length q32] 24 :: Hold (pRo (pInt .i64)) [.slice a19 y10.Prompt.length q20] y10.Prompt :: P1 :: Own (pInt .i64) 27 (.slice a3 j2.length q5) j2 :: Fr)) (Ctx.putOp hc (k := 3) rfl rfl (v := .slice a30 r29.length q32) rfl rfl rfl Try.sizeOf22 rfl rfl rfl) rfl ?_
         clear hc; rintro w35 hc
         refine rn ?_
         refine qn ?_
         refine Wseq ?_
         replace hc := hc.pull 2 rfl rfl
         replace hc := Ctx.exF hc; obtain ⟨v36, hc⟩ := hc
         replace hc := Ctx.exF hc; obtain ⟨v37, hc⟩ := hc
         replace hc := Ctx.sepF hc
         replace hc := Ctx.sepF hc
         obtain ⟨a38, q39, u40⟩ := hc.rd (k := 1) rfl rfl reads_own; subst u40
         replace hc := hc.drew
         have hF : ∀ j, free [0, 0, 2, 6, 14, 0, 32, 126, 255, 511, 1023] 0 j = true → (fun j w' => (j = 4 → w'.cell? ⟨b0, 7, none⟩ = some (.slice a38 j1.row.length q39)) ∧ True) j (World.drew w35) := fun j hj => ⟨fun _ => hc.cell (k := 0) rfl rfl rfl, trivial⟩
         refine Wdrw (fun j w' => (j = 4 → w'.cell? ⟨b0, 7, none⟩ = some (.slice a38 j1.row.length q39)) ∧ True) [0, 0, 2, 6, 14, 0, 32, 126, 255, 511, 1023] 0 32 rfl (by kernel_rfl) (hF) ?_
         generalize hw : World.drew w35 = w41 at *
         clear hw
         refine ds (v := .pointer (some ⟨b0, 0, none⟩)) rfl (fun w' hF => mv (v := .pointer (some ⟨b0, 0, none⟩)) rfl) rfl ?_
         refine ds (v := .pointer (some ⟨b0, 0, none⟩)) rfl (fun w' hF => mv (v := .pointer (some ⟨b0, 0, none⟩)) rfl) rfl ?_
         refine ds (v := .pointer (some ⟨b0, 0, none⟩)) rfl (fun w' hF => nl rfl) rfl ?_
         refine ds (v := .pointer (some ⟨b0, 7, none⟩)) rfl (fun w' hF => fax 7 rfl Try.underlying59 rfl Try.sizeOf45 rfl rfl rfl) rfl ?_
         refine ds (v := .slice a38 j1.row.length q39) rfl (fun w' hF => ld rfl Try.isAgg45 ((hF.1 rfl))) rfl ?_
         refine dx (v := .agg #[.int .i64 y10.ID, .int .i64 y10.Most, .slice a30 r29.length q32]) rfl (ldg rfl Try.isAgg24 Try.sizeOf24 rfl (Ctx.cells hc (k := 5) rfl rfl 0 (vs := [.int .i64 y10.ID, .int .i64 y10.Most, .slice a30 r29.length q32]) rfl)) rfl rfl ?_
         replace hc := hc.freeze (k := 3) rfl rfl rfl
         replace hc := hc.dup (k := 3) rfl rfl
         replace hc : Ctx w41 (Hold S_api_Request.pr [.int .i64 y10.ID, .int .i64 y10.Most, .slice a30 r29.length q32] (⟨y10.ID, y10.Most, r29⟩ : S_api_Request) :: B b0 [.int .i64 j1.s.Layers, .int .i64 j1.s.Width, .int .i64 j1.s.Heads, .int .i64 j1.s.Inner, .int .i64 j1.s.Vocab, .int .i64 j1.s.Places, .int .i64 j1.room, .slice a38 j1.row.length q39, .map (some v37)] 59 :: Own S_api_Request.pr 24 (.slice a38 j1.row.length q39) j1.row :: Mp (ekI .i64) (HV vf1 pBool) v37 j1.took :: Hold (pRo (pInt .i64)) [.slice a30 r29.length q32] r29 :: Hold (pRo (pInt .i64)) [.slice a19 y10.Prompt.length q20] y10.Prompt :: B b21 [.int .i64 y10.ID, .int .i64 y10.Most, .slice a30 r29.length q32] 24 :: Hold (pRo (pInt .i64)) [.slice a19 y10.Prompt.length q20] y10.Prompt :: P1 :: Own (pInt .i64) 27 (.slice a3 j2.length q5) j2 :: Fr) := S_api_Request.cl hc
         refine deE (Ctx.builtOp (css := [[.int .i64 y10.ID, .int .i64 y10.Most, .slice a30 r29.length q32]]) (xs := ([(⟨y10.ID, y10.Most, r29⟩ : S_api_Request)] : List S_api_Request)) (E := S_api_Request.pr) hc Try.underlying45 Try.sizeOf24 Try.zeroValue24 rfl rfl rfl rfl rfl rfl rfl rfl) rfl rfl ?_
         clear hc; rintro _ w43 ⟨a42, rfl, hc⟩
         refine ⟨fun j hj hb => ⟨fun _ => hc.cell (k := 1) rfl rfl rfl, trivial⟩, ?_⟩
         replace hp := bind_some hp; obtain ⟨z44, hz44, hp⟩ := hp
         obtain ⟨hg45, e46⟩ := app_some hz44
         refine deE (Ctx.append hc (k := 2) rfl rfl (k2 := 0) rfl rfl reads_own Try.underlying45 (i := Try.t24) rfl rfl rfl rfl rfl rfl rfl rfl hg45) rfl rfl ?_
         clear hc; rintro _ w49 ⟨a47, q48, rfl, hc⟩
         rw [← e46] at hc ⊢
         refine ⟨fun j hj hb => ⟨fun e => (by subst e; exact absurd hj (by decide)), trivial⟩, ?_⟩
         refine ds (v := .pointer (some ⟨b0, 0, none⟩)) rfl (fun w' hF => nl rfl) rfl ?_
         refine ds (v := .pointer (some ⟨b0, 7, none⟩)) rfl (fun w' hF => fax 7 rfl Try.underlying59 rfl Try.sizeOf45 rfl rfl rfl) rfl ?_
         refine duE (A := fun w' => Ctx w' (Own S_api_Request.pr 24 (.slice a42 1 1) ([(⟨y10.ID, y10.Most, r29⟩ : S_api_Request)]) :: B b0 [.int .i64 j1.s.Layers, .int .i64 j1.s.Width, .int .i64 j1.s.Heads, .int .i64 j1.s.Inner, .int .i64 j1.s.Vocab, .int .i64 j1.s.Places, .int .i64 j1.room, .slice a47 z44.length q48, .map (some v37)] 59 :: Own S_api_Request.pr 24 (.slice a47 z44.length q48) z44 :: Mp (ekI .i64) (HV vf1 pBool) v37 j1.took :: Hold (pRo (pInt .i64)) [.slice a30 r29.length q32] r29 :: Hold (pRo (pInt .i64)) [.slice a19 y10.Prompt.length q20] y10.Prompt :: B b21 [.int .i64 y10.ID, .int .i64 y10.Most, .slice a30 r29.length q32] 24 :: Hold (pRo (pInt .i64)) [.slice a19 y10.Prompt.length q20] y10.Prompt :: P1 :: Own (pInt .i64) 27 (.slice a3 j2.length q5) j2 :: Fr)) (Ctx.putOp hc (k := 1) rfl rfl (v := .slice a47 z44.length q48) rfl rfl rfl Try.sizeOf45 rfl rfl rfl) rfl rfl ?_
         clear hc; rintro w50 hc
         refine ⟨fun j hj hb => ⟨fun e => (by subst e; exact absurd hj (by decide)), trivial⟩, ?_⟩
         refine dn ?_
         refine qn ?_
         replace hc := hc.drew
         refine Wdrw (fun j w' => True) [0, 1, 3, 7, 0, 16, 63] 0 40 rfl (by kernel_rfl) (fun _ _ => trivial) ?_
         generalize hw : World.drew w50 = w51 at *
         clear hw
         refine ds (v := .pointer (some ⟨b0, 0, none⟩)) rfl (fun w' hF => mv (v := .pointer (some ⟨b0, 0, none⟩)) rfl) rfl ?_
         refine ds (v := .pointer (some ⟨b0, 0, none⟩)) rfl (fun w' hF => nl rfl) rfl ?_
         refine ds (v := .pointer (some ⟨b0, 8, none⟩)) rfl (fun w' hF => fax 8 rfl Try.underlying59 rfl Try.sizeOf57 rfl rfl rfl) rfl ?_
         refine dx (v := .map (some v37)) rfl (ld rfl Try.isAgg57 (Ctx.cell hc (k := 1) rfl rfl rfl)) rfl rfl ?_
         refine ds (v := .pointer (some ⟨b21, 0, none⟩)) rfl (fun w' hF => fax 0 rfl Try.underlying24 rfl Try.sizeOf3 rfl rfl rfl) rfl ?_
         refine dx (v := .int .i64 y10.ID) rfl (ld rfl Try.isAgg3 (Ctx.cell hc (k := 6) rfl rfl rfl)) rfl rfl ?_
         replace hp := bind_some hp; obtain ⟨r52, hr52, hp⟩ := hp
         replace hc := hc.pull 3 rfl rfl
         refine dc (cl Try.call25 rfl rfl) rfl rfl ?_
         refine admit_set_int_put_any hc hr52 ?_
         clear hc; intro w53 hc
         refine ⟨fun j hj hb => trivial, ?_⟩
         refine dn ?_
         refine qn ?_
         replace hc := hc.pull 3 rfl rfl
         replace hc := hc.pull 3 rfl rfl
         replace hc : Ctx w53 (S_admit_Desk.hp b0 (⟨j1.s, j1.room, z44, r52⟩ : S_admit_Desk) :: Own S_api_Request.pr 24 (.slice a42 1 1) ([(⟨y10.ID, y10.Most, r29⟩ : S_api_Request)]) :: Hold (pRo (pInt .i64)) [.slice a30 r29.length q32] r29 :: Hold (pRo (pInt .i64)) [.slice a19 y10.Prompt.length q20] y10.Prompt :: B b21 [.int .i64 y10.ID, .int .i64 y10.Most, .slice a30 r29.length q32] 24 :: Hold (pRo (pInt .i64)) [.slice a19 y10.Prompt.length q20] y10.Prompt :: P1 :: Own (pInt .i64) 27 (.slice a3 j2.length q5) j2 :: Fr) := Ctx.exB _ _ (Ctx.exB _ _ (Ctx.sepB (Ctx.sepB hc)))
         replace hc := hc.rem 5 rfl rfl
         replace hc := hc.rem 4 rfl rfl
         replace hc := hc.rem 3 rfl rfl
         replace hc := hc.rem 2 rfl rfl
         replace hc := hc.rem 1 rfl rfl
         exact ⟨⟨(⟨j1.s, j1.room, z44, r52⟩ : S_admit_Desk), rfl, hp, hc⟩, (kl rfl kb)⟩
     · clear hp hc; intro vs u w54 hJ
       obtain ⟨j27, rfl, hp, hc⟩ := hJ
       unfold admit_Desk_Submit.J2 at hp
       refine Wreg ?_
       refine rs (v := .slice a3 j2.length q5) (mv (v := .slice a3 j2.length q5) rfl) rfl ?_
       refine rs (v := .int .i64 r25) (mv (v := .int .i64 r25) rfl) rfl ?_
       replace hc : Ctx w54 (Hold (pInt .i64) [.int .i64 r25] r25 :: S_admit_Desk.hp b0 j27 :: P1 :: Own (pInt .i64) 27 (.slice a3 j2.length q5) j2 :: Fr) := hc.add _ fun _ _ _ => ⟨rfl, rfl⟩
       refine rsE (Ctx.builtOp (css := [[.int .i64 r25]]) (xs := ([r25] : List Int)) (E := (pInt .i64)) hc Try.underlying33 Try.sizeOf27 Try.zeroValue27 rfl rfl rfl rfl rfl rfl rfl rfl) rfl ?_
       clear hc; rintro _ w56 ⟨a55, rfl, hc⟩
       replace hp := bind_some hp; obtain ⟨z57, hz57, hp⟩ := hp
       obtain ⟨hg58, e59⟩ := app_some hz57
       refine rsE (Ctx.append hc (k := 3) rfl rfl (k2 := 0) rfl rfl reads_own Try.underlying33 (i := Try.t27) rfl rfl rfl rfl rfl rfl rfl rfl hg58) rfl ?_
       clear hc; rintro _ w62 ⟨a60, q61, rfl, hc⟩
       rw [← e59] at hc ⊢
       refine rs (v := .slice a60 z57.length q61) (av (v := .slice a60 z57.length q61) rfl) rfl ?_
       refine rn ?_
       refine bn ?_
       refine qn ?_
       refine Wreg ?_
       refine rs (v := .int .i64 (IntKind.i64.wrap (j6 + 1))) (adw rfl rfl) rfl ?_
       refine rs (v := .int .i64 (IntKind.i64.wrap (j6 + 1))) (mv (v := .int .i64 (IntKind.i64.wrap (j6 + 1))) rfl) rfl ?_
       refine rn ?_
       refine qn ?_
       replace hc := hc.rem 0 rfl rfl
       exact ⟨m1, Nat.lt_succ_self _, ⟨j27, z57, (IntKind.i64.wrap (j6 + 1)), a60, z57.length, q61, rfl, hp, hc⟩, (kl rfl (km rfl (kl rfl k0)))⟩

-- FN (*peloton/admit.Desk).Take
theorem bd_24_ {ρ : Operand → Value} {w : World} {dst : Option Nat} {ty : TypeId} {pos : String} {after : Array Edge} {g : Option (Nat × Bool)}    :
    (execOp ρ ⟨dst, .build 24 #[], ty, pos, after, g⟩).run Try.prog w = .ok (.value (.agg #[(.int .i64 0), (.int .i64 0), (.slice none 0 0)])) w := by
  simp [execOp, Instr.build, Instr.fill, Try.zeroValue24, Try.runUnderlying24, Try.sizeOf22, Try.sizeOf3, Value.cells]

def admit_Desk_Take (x0 : S_admit_Desk) : Option (S_api_Request × Bool × S_admit_Desk) :=
  if ((x0.row.length : Nat) : Int) = 0 then
    some ((⟨0, 0, []⟩ : S_api_Request), false, x0)
  else
    (idx x0.row (0 : Int)).bind fun y10 =>
    (slices_Delete_s_api_Request_api_Request x0.row 0 1).bind fun r25 =>
    some ((⟨y10.ID, y10.Most, y10.Prompt⟩ : S_api_Request), true, (⟨x0.s, x0.room, r25, x0.took⟩ : S_admit_Desk))

set_option maxHeartbeats 2000000 in
theorem admit_Desk_Take_any {b0 : Nat} {x0 : S_admit_Desk} {Fr : List HP} {w : World} {r : S_api_Request × Bool × S_admit_Desk} {K : Value → World → Prop}  (hc : Ctx w (S_admit_Desk.hp b0 x0 :: Fr)) (hp : admit_Desk_Take x0 = some r)
    (k : ∀ (a34 : Option Addr) (n35 : Nat) (q36 : Nat) w', Ctx w' (Hold (pRo (pInt .i64)) [.slice a34 n35 q36] r.1.Prompt :: S_admit_Desk.hp b0 r.2.2 :: Fr) → K (.tuple #[.agg #[.int .i64 r.1.ID, .int .i64 r.1.Most, .slice a34 n35 q36], .bool r.2.1]) w') : Calls Try.prog 12 #[.pointer (some ⟨b0, 0, none⟩)] w (Ret K) := by
 unfold admit_Desk_Take at hp
 refine Center (args := [.pointer (some ⟨b0, 0, none⟩)]) (l := [(0, .pointer (some ⟨b0, 0, none⟩))]) Try.func12 Try.ntmps12 rfl rfl rfl ?_
 refine Wseq ?_
 refine Wreg ?_
 refine rsE (Ctx.allocOp (cs := [.int .i64 0, .int .i64 0, .slice none 0 0]) hc Try.zeroValue24 rfl) rfl ?_
 clear hc; rintro _ w3 ⟨b1, rfl, hc⟩
 refine rs (v := .bool false) (av (v := .bool false) rfl) rfl ?_
 refine rn ?_
 refine qn ?_
 refine Wseq ?_
 refine Wseq ?_
 refine Wreg ?_
 refine rs (v := .pointer (some ⟨b0, 0, none⟩)) (mv (v := .pointer (some ⟨b0, 0, none⟩)) rfl) rfl ?_
 refine rs (v := .pointer (some ⟨b0, 0, none⟩)) (nl rfl) rfl ?_
 refine rs (v := .pointer (some ⟨b0, 7, none⟩)) (fax 7 rfl Try.underlying59 rfl Try.sizeOf45 rfl rfl rfl) rfl ?_
 replace hc := hc.pull 1 rfl rfl
 replace hc := Ctx.exF hc; obtain ⟨v4, hc⟩ := hc
 replace hc := Ctx.exF hc; obtain ⟨v5, hc⟩ := hc
 replace hc := Ctx.sepF hc
 replace hc := Ctx.sepF hc
 obtain ⟨a6, q7, u8⟩ := hc.rd (k := 1) rfl rfl reads_own; subst u8
 refine rs (v := .slice a6 x0.row.length q7) (ld rfl Try.isAgg45 (Ctx.cell hc (k := 0) rfl rfl rfl)) rfl ?_
 refine rs (v := .int .i64 ((x0.row.length : Nat) : Int)) (ln rfl Try.underlying45) rfl ?_
 refine rs (v := .bool (decide (((x0.row.length : Nat) : Int) = 0))) (eqd rfl rfl) rfl ?_
 refine rn ?_
 refine qn ?_
 cases hb9 : (decide (((x0.row.length : Nat) : Int) = 0))
 · replace hp := gneg hp (of_decide_eq_false hb9)
   refine Wcf rfl ?_
   refine Wskip ?_
   refine qn ?_
   refine Wseq ?_
   refine Wreg ?_
   refine rs (v := .pointer (some ⟨b0, 0, none⟩)) (mv (v := .pointer (some ⟨b0, 0, none⟩)) rfl) rfl ?_
   refine rs (v := .pointer (some ⟨b0, 0, none⟩)) (nl rfl) rfl ?_
   refine rs (v := .pointer (some ⟨b0, 7, none⟩)) (fax 7 rfl Try.underlying59 rfl Try.sizeOf45 rfl rfl rfl) rfl ?_
   refine rs (v := .slice a6 x0.row.length q7) (ld rfl Try.isAgg45 (Ctx.cell hc (k := 0) rfl rfl rfl)) rfl ?_
   replace hp := bind_some hp; obtain ⟨y10, hy10, hp⟩ := hp
   obtain ⟨b13, o14, u15, hi11, hi12⟩ := Ctx.rdAt hc (k := 1) rfl rfl reads_own hy10
   subst u15
   refine rs (v := .pointer (some ⟨b13, o14 + ((0 : Int)).toNat * 3, none⟩)) (ixx rfl rfl Try.underlying45 Try.sizeOf24 hi11 hi12 rfl) rfl ?_
   replace hc := Ctx.rdCell hc (k := 1) rfl rfl reads_own hy10; obtain ⟨cs16, hc, hcell17⟩ := hc
   replace hc := S_api_Request.op hc; obtain ⟨a19, q20, u18, hc⟩ := hc; subst u18
   refine rs (v := .agg #[.int .i64 y10.ID, .int .i64 y10.Most, .slice a19 y10.Prompt.length q20]) (ldg rfl Try.isAgg24 Try.sizeOf24 rfl (elCells hcell17 0 (vs := [.int .i64 y10.ID, .int .i64 y10.Most, .slice a19 y10.Prompt.length q20]) rfl)) rfl ?_
   refine rsE (Ctx.allocOp (cs := [.int .i64 0, .int .i64 0, .slice none 0 0]) hc Try.zeroValue24 rfl) rfl ?_
   clear hc; rintro _ w23 ⟨b21, rfl, hc⟩
   refine ruE (A := fun w' => Ctx w' (B b21 [.int .i64 y10.ID, .int .i64 y10.Most, .slice a19 y10.Prompt.length q20] 24 :: Hold (pRo (pInt .i64)) [.slice a19 y10.Prompt.length q20] y10.Prompt :: B b0 [.int .i64 x0.s.Layers, .int .i64 x0.s.Width, .int .i64 x0.s.Heads, .int .i64 x0.s.Inner, .int .i64 x0.s.Vocab, .int .i64 x0.s.Places, .int .i64 x0.room, .slice (some ⟨b13, o14, none⟩) x0.row.length q7, .map (some v5)] 59 :: Own S_api_Request.pr 24 (.slice (some ⟨b13, o14, none⟩) x0.row.length q7) x0.row :: Mp (ekI .i64) (HV vf1 pBool) v5 x0.took :: B b1 [.int .i64 0, .int .i64 0, .slice none 0 0] 24 :: Fr)) (Ctx.putAgg hc (k := 0) rfl rfl (vs := [.int .i64 y10.ID, .int .i64 y10.Most, .slice a19 y10.Prompt.length q20]) rfl rfl rfl Try.sizeOf24 rfl rfl rfl) rfl ?_
   clear hc; rintro w24 hc
   refine rn ?_
   refine qn ?_
   refine Wseq ?_
   refine Wreg ?_
   refine rs (v := .pointer (some ⟨b0, 0, none⟩)) (mv (v := .pointer (some ⟨b0, 0, none⟩)) rfl) rfl ?_
   refine rs (v := .pointer (some ⟨b0, 0, none⟩)) (mv (v := .pointer (some ⟨b0, 0, none⟩)) rfl) rfl ?_
   refine rs (v := .pointer (some ⟨b0, 0, none⟩)) (nl rfl) rfl ?_
   refine rs (v := .pointer (some ⟨b0, 7, none⟩)) (fax 7 rfl Try.underlying59 rfl Try.sizeOf45 rfl rfl rfl) rfl ?_
   refine rs (v := .slice (some ⟨b13, o14, none⟩) x0.row.length q7) (ld rfl Try.isAgg45 (Ctx.cell hc (k := 2) rfl rfl rfl)) rfl ?_
   replace hp := bind_some hp; obtain ⟨r25, hr25, hp⟩ := hp
   replace hc := hc.pull 3 rfl rfl
   refine rc (cl Try.call27 rfl rfl) rfl ?_
   refine slices_Delete_s_api_Request_api_Request_any hc hr25 ?_
   clear hc; intro a26 n27 q28 w29 hc
   obtain ⟨u30, _⟩ := Ctx.rdLen hc (k := 0) rfl rfl reads_own; subst u30
   refine rs (v := .pointer (some ⟨b0, 0, none⟩)) (nl rfl) rfl ?_
   refine rs (v := .pointer (some ⟨b0, 7, none⟩)) (fax 7 rfl Try.underlying59 rfl Try.sizeOf45 rfl rfl rfl) rfl ?_
   refine ruE (A := fun w' => Ctx w' (Own S_api_Request.pr 24 (.slice a26 r25.length q28) r25 :: B b21 [.int .i64 y10.ID, .int .i64 y10.Most, .slice a19 y10.Prompt.length q20] 24 :: Hold (pRo (pInt .i64)) [.slice a19 y10.Prompt.length q20] y10.Prompt :: B b0 [.int .i64 x0.s.Layers, .int .i64 x0.s.Width, .int .i64 x0.s.Heads, .int .i64 x0.s.Inner, .int .i64 x0.s.Vocab, .int .i64 x0.s.Places, .int .i64 x0.room, .slice a26 r25.length q28, .map (some v5)] 59 :: Mp (ekI .i64) (HV vf1 pBool) v5 x0.took :: B b1 [.int .i64 0, .int .i64 0, .slice none 0 0] 24 :: Fr)) (Ctx.putOp hc (k := 3) rfl rfl (v := .slice a26 r25.length q28) rfl rfl rfl Try.sizeOf45 rfl rfl rfl) rfl ?_
   clear hc; rintro w31 hc
   refine rn ?_
   refine qn ?_
   refine Wseq ?_
   refine Wreg ?_
   refine rs (v := .agg #[.int .i64 y10.ID, .int .i64 y10.Most, .slice a19 y10.Prompt.length q20]) (ldg rfl Try.isAgg24 Try.sizeOf24 rfl (Ctx.cells hc (k := 1) rfl rfl 0 (vs := [.int .i64 y10.ID, .int .i64 y10.Most, .slice a19 y10.Prompt.length q20]) rfl)) rfl ?_
   refine ruE (A := fun w' => Ctx w' (Own S_api_Request.pr 24 (.slice a26 r25.length q28) r25 :: B b21 [.int .i64 y10.ID, .int .i64 y10.Most, .slice a19 y10.Prompt.length q20] 24 :: Hold (pRo (pInt .i64)) [.slice a19 y10.Prompt.length q20] y10.Prompt :: B b0 [.int .i64 x0.s.Layers, .int .i64 x0.s.Width, .int .i64 x0.s.Heads, .int .i64 x0.s.Inner, .int .i64 x0.s.Vocab, .int .i64 x0.s.Places, .int .i64 x0.room, .slice a26 r25.length q28, .map (some v5)] 59 :: Mp (ekI .i64) (HV vf1 pBool) v5 x0.took :: B b1 [.int .i64 y10.ID, .int .i64 y10.Most, .slice a19 y10.Prompt.length q20] 24 :: Fr)) (Ctx.putAgg hc (k := 5) rfl rfl (vs := [.int .i64 y10.ID, .int .i64 y10.Most, .slice a19 y10.Prompt.length q20]) rfl rfl rfl Try.sizeOf24 rfl rfl rfl) rfl ?_
   clear hc; rintro w32 hc
   refine rs (v := .bool true) (av (v := .bool true) rfl) rfl ?_
   refine rn ?_
   refine qn ?_
   refine Wret ?_
   have hres := Ctx.cells hc (k := 5) rfl rfl 0 (vs := [.int .i64 y10.ID, .int .i64 y10.Most, .slice a19 y10.Prompt.length q20]) rfl
   replace hc := hc.dup (k := 2) rfl rfl
   replace hc := hc.pull 5 rfl rfl
   replace hc := hc.pull 2 rfl rfl
   replace hc := hc.pull 5 rfl rfl
   replace hc : Ctx w32 (S_admit_Desk.hp b0 (⟨x0.s, x0.room, r25, x0.took⟩ : S_admit_Desk) :: Hold (pRo (pInt .i64)) [.slice a19 y10.Prompt.length q20] y10.Prompt :: B b21 [.int .i64 y10.ID, .int .i64 y10.Most, .slice a19 y10.Prompt.length q20] 24 :: Hold (pRo (pInt .i64)) [.slice a19 y10.Prompt.length q20] y10.Prompt :: B b1 [.int .i64 y10.ID, .int .i64 y10.Most, .slice a19 y10.Prompt.length q20] 24 :: Fr) := Ctx.exB _ _ (Ctx.exB _ _ (Ctx.sepB (Ctx.sepB hc)))
   replace hc := hc.rem 4 rfl rfl
   replace hc := hc.rem 3 rfl rfl
   replace hc := hc.rem 2 rfl rfl
   replace hc := hc.pull 1 rfl rfl
   injection hp with hp; subst hp
   refine f2c (cs := [.int .i64 y10.ID, .int .i64 y10.Most, .slice a19 y10.Prompt.length q20]) (u := .bool true) Try.results12 Try.ntmps12 rfl Try.isAgg24 Try.sizeOf24 rfl hres rfl ?_
   exact ⟨_, rfl, k _ _ _ _ hc⟩
 · replace hp := gpos hp (of_decide_eq_true hb9)
   refine Wct rfl ?_
   refine Wseq ?_
   refine Wreg ?_
   refine rs (v := .agg #[.int .i64 0, .int .i64 0, .slice none 0 0]) (bd_24_ ) rfl ?_
   refine ruE (A := fun w' => Ctx w' (B b0 [.int .i64 x0.s.Layers, .int .i64 x0.s.Width, .int .i64 x0.s.Heads, .int .i64 x0.s.Inner, .int .i64 x0.s.Vocab, .int .i64 x0.s.Places, .int .i64 x0.room, .slice a6 x0.row.length q7, .map (some v5)] 59 :: Own S_api_Request.pr 24 (.slice a6 x0.row.length q7) x0.row :: Mp (ekI .i64) (HV vf1 pBool) v5 x0.took :: B b1 [.int .i64 0, .int .i64 0, .slice none 0 0] 24 :: Fr)) (Ctx.putAgg hc (k := 3) rfl rfl (vs := [.int .i64 0, .int .i64 0, .slice none 0 0]) rfl rfl rfl Try.sizeOf24 rfl rfl rfl) rfl ?_
   clear hc; rintro w33 hc
   refine rs (v := .bool false) (av (v := .bool false) rfl) rfl ?_
   refine rn ?_
   refine qn ?_
   refine Wret ?_
   refine qr ?_
   have hres := Ctx.cells hc (k := 3) rfl rfl 0 (vs := [.int .i64 0, .int .i64 0, .slice none 0 0]) rfl
   replace hc := hc.nilRo (pInt .i64)
   replace hc := hc.dup (k := 0) rfl rfl
   replace hc := hc.pull 4 rfl rfl
   replace hc := hc.pull 4 rfl rfl
   replace hc := hc.pull 4 rfl rfl
   replace hc : Ctx w33 (S_admit_Desk.hp b0 x0 :: Hold (pRo (pInt .i64)) [.slice none 0 0] ([]) :: Hold (pRo (pInt .i64)) [.slice none 0 0] ([]) :: B b1 [.int .i64 0, .int .i64 0, .slice none 0 0] 24 :: Fr) := Ctx.exB _ _ (Ctx.exB _ _ (Ctx.sepB (Ctx.sepB hc)))
   replace hc := hc.rem 3 rfl rfl
   replace hc := hc.rem 2 rfl rfl
   replace hc := hc.pull 1 rfl rfl
   injection hp with hp; subst hp
   refine f2c (cs := [.int .i64 0, .int .i64 0, .slice none 0 0]) (u := .bool false) Try.results12 Try.ntmps12 rfl Try.isAgg24 Try.sizeOf24 rfl hres rfl ?_
   exact ⟨_, rfl, k _ _ _ _ hc⟩

-- FN (*peloton/admit.Desk).Cancel
def admit_Desk_Cancel (N : Nat) (x0 : S_admit_Desk) (x1 : (List Int)) : Option (Int × S_admit_Desk) :=
  (slices_DeleteFunc_s_api_Request_api_Request N x0.row (fun (y10 : S_api_Request) =>
    (slices_Contains_s_int_int N x1 y10.ID).bind fun r18 =>
    some r18)).bind fun r20 =>
  (some (IntKind.i64.wrap (((x0.row.length : Nat) : Int) - ((r20.length : Nat) : Int)))).bind fun e27 =>
  some (e27, (⟨x0.s, x0.room, r20, x0.took⟩ : S_admit_Desk))

set_option maxHeartbeats 2000000 in
theorem admit_Desk_Cancel_any {N : Nat} {b0 : Nat} {x0 : S_admit_Desk} {x1 : (List Int)} {ax1 : Option Addr} {nx1 : Nat} {qx1 : Nat} {P1 : HP} {Fr : List HP} {w : World} {r : Int × S_admit_Desk} {K : Value → World → Prop} (hrd1 : Reads P1 (pInt .i64) (.slice ax1 nx1 qx1) x1) (hc : Ctx w (S_admit_Desk.hp b0 x0 :: P1 :: Fr)) (hp : admit_Desk_Cancel N x0 x1 = some r)
    (k : ∀ w', Ctx w' (S_admit_Desk.hp b0 r.2 :: P1 :: Fr) → K (.int .i64 r.1) w') : Calls Try.prog 19 #[.pointer (some ⟨b0, 0, none⟩), .slice ax1 nx1 qx1] w (Ret K) := by
 unfold admit_Desk_Cancel at hp
 refine Center (args := [.pointer (some ⟨b0, 0, none⟩), .slice ax1 nx1 qx1]) (l := [(0, .pointer (some ⟨b0, 0, none⟩)), (1, .slice ax1 nx1 qx1)]) Try.func19 Try.ntmps19 rfl rfl rfl ?_
 obtain ⟨hn1, _⟩ := Ctx.rdLen hc (k := 1) rfl rfl hrd1; subst hn1
 refine Wseq ?_
 refine Wreg ?_
 refine rsE (Ctx.boxOp (cs := [.slice ax1 x1.length qx1]) (v := .slice ax1 x1.length qx1) hc rfl rfl) rfl ?_
 clear hc; rintro _ w3 ⟨b1, rfl, hc⟩
 refine rs (v := .int .i64 0) (av (v := .int .i64 0) rfl) rfl ?_
 refine rn ?_
 refine qn ?_
 refine Wseq ?_
 refine Wreg ?_
 refine rs (v := .pointer (some ⟨b0, 0, none⟩)) (mv (v := .pointer (some ⟨b0, 0, none⟩)) rfl) rfl ?_
 refine rs (v := .pointer (some ⟨b0, 0, none⟩)) (nl rfl) rfl ?_
 refine rs (v := .pointer (some ⟨b0, 7, none⟩)) (fax 7 rfl Try.underlying59 rfl Try.sizeOf45 rfl rfl rfl) rfl ?_
 replace hc := hc.pull 1 rfl rfl
 replace hc := Ctx.exF hc; obtain ⟨v4, hc⟩ := hc
 replace hc := Ctx.exF hc; obtain ⟨v5, hc⟩ := hc
 replace hc := Ctx.sepF hc
 replace hc := Ctx.sepF hc
 obtain ⟨a6, q7, u8⟩ := hc.rd (k := 1) rfl rfl reads_own; subst u8
 refine rs (v := .slice a6 x0.row.length q7) (ld rfl Try.isAgg45 (Ctx.cell hc (k := 0) rfl rfl rfl)) rfl ?_
 refine rs (v := .int .i64 ((x0.row.length : Nat) : Int)) (ln rfl Try.underlying45) rfl ?_
 refine rs (v := .int .i64 ((x0.row.length : Nat) : Int)) (av (v := .int .i64 ((x0.row.length : Nat) : Int)) rfl) rfl ?_
 refine rn ?_
 refine qn ?_
 refine Wseq ?_
 refine Wreg ?_
 refine rs (v := .pointer (some ⟨b0, 0, none⟩)) (mv (v := .pointer (some ⟨b0, 0, none⟩)) rfl) rfl ?_
 refine rs (v := .pointer (some ⟨b0, 0, none⟩)) (mv (v := .pointer (some ⟨b0, 0, none⟩)) rfl) rfl ?_
 refine rs (v := .pointer (some ⟨b0, 0, none⟩)) (nl rfl) rfl ?_
 refine rs (v := .pointer (some ⟨b0, 7, none⟩)) (fax 7 rfl Try.underlying59 rfl Try.sizeOf45 rfl rfl rfl) rfl ?_
 refine rs (v := .slice a6 x0.row.length q7) (ld rfl Try.isAgg45 (Ctx.cell hc (k := 0) rfl rfl rfl)) rfl ?_
 refine rs (v := .func (.func 30) #[] #[.pointer (some ⟨b1, 0, none⟩)]) (mkf rfl rfl) rfl ?_
 replace hc := hc.pull 1 rfl rfl
 have hf9 : ∀ (y0 : S_api_Request) (a20 : Option Addr) (n21 : Nat) (q22 : Nat) (Qs : List HP) (w : World) (r : Bool) (K : Value → World → Prop), Ctx w (Hold (pRo (pInt .i64)) [.slice a20 n21 q22] y0.Prompt :: (Qs ++ (B b0 [.int .i64 x0.s.Layers, .int .i64 x0.s.Width, .int .i64 x0.s.Heads, .int .i64 x0.s.Inner, .int .i64 x0.s.Vocab, .int .i64 x0.s.Places, .int .i64 x0.room, .slice a6 x0.row.length q7, .map (some v5)] 59 :: Mp (ekI .i64) (HV vf1 pBool) v5 x0.took :: B b1 [.slice ax1 x1.length qx1] 22 :: P1 :: Fr))) → (fun (y10 : S_api_Request) =>
          (slices_Contains_s_int_int N x1 y10.ID).bind fun r18 =>
          some r18) y0 = some r → (∀ w', Ctx w' (Qs ++ (B b0 [.int .i64 x0.s.Layers, .int .i64 x0.s.Width, .int .i64 x0.s.Heads, .int .i64 x0.s.Inner, .int .i64 x0.s.Vocab, .int .i64 x0.s.Places, .int .i64 x0.room, .slice a6 x0.row.length q7, .map (some v5)] 59 :: Mp (ekI .i64) (HV vf1 pBool) v5 x0.took :: B b1 [.slice ax1 x1.length qx1] 22 :: P1 :: Fr)) → K (.bool r) w') → Calls Try.prog 30 (([.agg #[.int .i64 y0.ID, .int .i64 y0.Most, .slice a20 n21 q22]] : List Value) ++ ([.pointer (some ⟨b1, 0, none⟩)] : List Value)).toArray w (Ret K) := by
  intro y10 a11 n12 q13 Qs w r K hc hp k
  replace hc : Ctx w (B b0 [.int .i64 x0.s.Layers, .int .i64 x0.s.Width, .int .i64 x0.s.Heads, .int .i64 x0.s.Inner, .int .i64 x0.s.Vocab, .int .i64 x0.s.Places, .int .i64 x0.room, .slice a6 x0.row.length q7, .map (some v5)] 59 :: Mp (ekI .i64) (HV vf1 pBool) v5 x0.took :: B b1 [.slice ax1 x1.length qx1] 22 :: P1 :: Hold (pRo (pInt .i64)) [.slice a11 n12 q13] y10.Prompt :: (Qs ++ Fr)) := Ctx.front (As := [B b0 [.int .i64 x0.s.Layers, .int .i64 x0.s.Width, .int .i64 x0.s.Heads, .int .i64 x0.s.Inner, .int .i64 x0.s.Vocab, .int .i64 x0.s.Places, .int .i64 x0.room, .slice a6 x0.row.length q7, .map (some v5)] 59, Mp (ekI .i64) (HV vf1 pBool) v5 x0.took, B b1 [.slice ax1 x1.length qx1] 22, P1]) (Qs := Hold (pRo (pInt .i64)) [.slice a11 n12 q13] y10.Prompt :: Qs) hc
  refine Center (args := [.agg #[.int .i64 y10.ID, .int .i64 y10.Most, .slice a11 n12 q13], .pointer (some ⟨b1, 0, none⟩)]) (l := [(0, .agg #[.int .i64 y10.ID, .int .i64 y10.Most, .slice a11 n12 q13]), (1, .pointer (some ⟨b1, 0, none⟩))]) Try.func30 Try.ntmps30 rfl rfl rfl ?_
  obtain ⟨u14, _⟩ := Ctx.rdLen hc (k := 4) rfl rfl reads_ro; subst u14
  refine Wseq ?_
  refine Wreg ?_
  refine rsE (Ctx.boxOp (cs := [.int .i64 y10.ID, .int .i64 y10.Most, .slice a11 y10.Prompt.length q13]) (v := .agg #[.int .i64 y10.ID, .int .i64 y10.Most, .slice a11 y10.Prompt.length q13]) hc rfl rfl) rfl ?_
  clear hc; rintro _ w17 ⟨b15, rfl, hc⟩
  refine rs (v := .bool false) (av (v := .bool false) rfl) rfl ?_
  refine rn ?_
  refine qn ?_
  refine Wseq ?_
  refine Wreg ?_
  refine rs (v := .slice ax1 x1.length qx1) (ld rfl Try.isAgg22 (Ctx.cell hc (k := 3) rfl rfl rfl)) rfl ?_
  refine rs (v := .pointer (some ⟨b15, 0, none⟩)) (fax 0 rfl Try.underlying24 rfl Try.sizeOf3 rfl rfl rfl) rfl ?_
  refine rs (v := .int .i64 y10.ID) (ld rfl Try.isAgg3 (Ctx.cell hc (k := 0) rfl rfl rfl)) rfl ?_
  replace hp := bind_some hp; obtain ⟨r18, hr18, hp⟩ := hp
  replace hc := hc.pull 4 rfl rfl
  refine rc (cl Try.call31 rfl rfl) rfl ?_
  refine slices_Contains_s_int_int_any hrd1 hc hr18 ?_
  clear hc; intro w19 hc
  refine rs (v := .bool r18) (av (v := .bool r18) rfl) rfl ?_
  refine rn ?_
  refine qn ?_
  refine Wret ?_
  replace hc := hc.rem 5 rfl rfl
  replace hc := hc.rem 1 rfl rfl
  replace hc := hc.pull 3 rfl rfl
  replace hc := hc.pull 3 rfl rfl
  replace hc := hc.pull 3 rfl rfl
  injection hp with hp; subst hp
  replace hc : Ctx w19 (Qs ++ (B b0 [.int .i64 x0.s.Layers, .int .i64 x0.s.Width, .int .i64 x0.s.Heads, .int .i64 x0.s.Inner, .int .i64 x0.s.Vocab, .int .i64 x0.s.Places, .int .i64 x0.room, .slice a6 x0.row.length q7, .map (some v5)] 59 :: Mp (ekI .i64) (HV vf1 pBool) v5 x0.took :: B b1 [.slice ax1 x1.length qx1] 22 :: P1 :: Fr)) := Ctx.front (Qs := [B b0 [.int .i64 x0.s.Layers, .int .i64 x0.s.Width, .int .i64 x0.s.Heads, .int .i64 x0.s.Inner, .int .i64 x0.s.Vocab, .int .i64 x0.s.Places, .int .i64 x0.room, .slice a6 x0.row.length q7, .map (some v5)] 59, Mp (ekI .i64) (HV vf1 pBool) v5 x0.took, B b1 [.slice ax1 x1.length qx1] 22, P1]) (As := Qs) hc
  refine f1 (v := .bool r18) Try.results30 Try.ntmps30 rfl ?_
  exact ⟨_, rfl, k _ hc⟩
 replace hp := bind_some hp; obtain ⟨r20, hr20, hp⟩ := hp
 refine rc (cl Try.call29 rfl rfl) rfl ?_
 refine slices_DeleteFunc_s_api_Request_api_Request_any Try.call30 hf9 hc hr20 ?_
 clear hc; intro a21 n22 q23 w24 hc
 obtain ⟨u25, _⟩ := Ctx.rdLen hc (k := 0) rfl rfl reads_own; subst u25
 refine rs (v := .pointer (some ⟨b0, 0, none⟩)) (nl rfl) rfl ?_
 refine rs (v := .pointer (some ⟨b0, 7, none⟩)) (fax 7 rfl Try.underlying59 rfl Try.sizeOf45 rfl rfl rfl) rfl ?_
 refine ruE (A := fun w' => Ctx w' (Own S_api_Request.pr 24 (.slice a21 r20.length q23) r20 :: B b0 [.int .i64 x0.s.Layers, .int .i64 x0.s.Width, .int .i64 x0.s.Heads, .int .i64 x0.s.Inner, .int .i64 x0.s.Vocab, .int .i64 x0.s.Places, .int .i64 x0.room, .slice a21 r20.length q23, .map (some v5)] 59 :: Mp (ekI .i64) (HV vf1 pBool) v5 x0.took :: B b1 [.slice ax1 x1.length qx1] 22 :: P1 :: Fr)) (Ctx.putOp hc (k := 1) rfl rfl (v := .slice a21 r20.length q23) rfl rfl rfl Try.sizeOf45 rfl rfl rfl) rfl ?_
 clear hc; rintro w26 hc
 refine rn ?_
 refine qn ?_
 refine Wseq ?_
 refine Wreg ?_
 refine rs (v := .int .i64 ((x0.row.length : Nat) : Int)) (mv (v := .int .i64 ((x0.row.length : Nat) : Int)) rfl) rfl ?_
 refine rs (v := .pointer (some ⟨b0, 0, none⟩)) (mv (v := .pointer (some ⟨b0, 0, none⟩)) rfl) rfl ?_
 refine rs (v := .pointer (some ⟨b0, 0, none⟩)) (nl rfl) rfl ?_
 refine rs (v := .pointer (some ⟨b0, 7, none⟩)) (fax 7 rfl Try.underlying59 rfl Try.sizeOf45 rfl rfl rfl) rfl ?_
 refine rs (v := .slice a21 r20.length q23) (ld rfl Try.isAgg45 (Ctx.cell hc (k := 1) rfl rfl rfl)) rfl ?_
 refine rs (v := .int .i64 ((r20.length : Nat) : Int)) (ln rfl Try.underlying45) rfl ?_
 refine rs (v := .int .i64 (IntKind.i64.wrap (((x0.row.length : Nat) : Int) - ((r20.length : Nat) : Int)))) (sbw rfl rfl) rfl ?_
 replace hp := bind_some hp; obtain ⟨e27, he27, hp⟩ := hp
 injection he27 with he27
 refine rs (v := .int .i64 e27) (av (v := .int .i64 e27) (by rw [← he27]; rfl)) rfl ?_
 refine rn ?_
 refine qn ?_
 refine Wret ?_
 replace hc := hc.pull 2 rfl rfl
 replace hc := hc.pull 1 rfl rfl
 replace hc := hc.pull 2 rfl rfl
 replace hc : Ctx w26 (S_admit_Desk.hp b0 (⟨x0.s, x0.room, r20, x0.took⟩ : S_admit_Desk) :: B b1 [.slice ax1 x1.length qx1] 22 :: P1 :: Fr) := Ctx.exB _ _ (Ctx.exB _ _ (Ctx.sepB (Ctx.sepB hc)))
 replace hc := hc.rem 1 rfl rfl
 injection hp with hp; subst hp
 refine f1 (v := .int .i64 e27) Try.results19 Try.ntmps19 rfl ?_
 exact ⟨_, rfl, k _ hc⟩

-- FN (*peloton/admit.Desk).Len
def admit_Desk_Len (x0 : S_admit_Desk) : Option (Int) :=
  some ((x0.row.length : Nat) : Int)

set_option maxHeartbeats 2000000 in
theorem admit_Desk_Len_any {b0 : Nat} {x0 : S_admit_Desk} {Fr : List HP} {w : World} {r : Int} {K : Value → World → Prop}  (hc : Ctx w (S_admit_Desk.hp b0 x0 :: Fr)) (hp : admit_Desk_Len x0 = some r)
    (k : ∀ w', Ctx w' (S_admit_Desk.hp b0 x0 :: Fr) → K (.int .i64 r) w') : Calls Try.prog 14 #[.pointer (some ⟨b0, 0, none⟩)] w (Ret K) := by
 unfold admit_Desk_Len at hp
 refine Center (args := [.pointer (some ⟨b0, 0, none⟩)]) (l := [(0, .pointer (some ⟨b0, 0, none⟩))]) Try.func14 Try.ntmps14 rfl rfl rfl ?_
 refine Wseq ?_
 refine Wreg ?_
 refine rs (v := .int .i64 0) (av (v := .int .i64 0) rfl) rfl ?_
 refine rn ?_
 refine qn ?_
 refine Wseq ?_
 refine Wreg ?_
 refine rs (v := .pointer (some ⟨b0, 0, none⟩)) (mv (v := .pointer (some ⟨b0, 0, none⟩)) rfl) rfl ?_
 refine rs (v := .pointer (some ⟨b0, 0, none⟩)) (nl rfl) rfl ?_
 refine rs (v := .pointer (some ⟨b0, 7, none⟩)) (fax 7 rfl Try.underlying59 rfl Try.sizeOf45 rfl rfl rfl) rfl ?_
 replace hc := Ctx.exF hc; obtain ⟨v1, hc⟩ := hc
 replace hc := Ctx.exF hc; obtain ⟨v2, hc⟩ := hc
 replace hc := Ctx.sepF hc
 replace hc := Ctx.sepF hc
 obtain ⟨a3, q4, u5⟩ := hc.rd (k := 1) rfl rfl reads_own; subst u5
 refine rs (v := .slice a3 x0.row.length q4) (ld rfl Try.isAgg45 (Ctx.cell hc (k := 0) rfl rfl rfl)) rfl ?_
 refine rs (v := .int .i64 ((x0.row.length : Nat) : Int)) (ln rfl Try.underlying45) rfl ?_
 refine rs (v := .int .i64 ((x0.row.length : Nat) : Int)) (av (v := .int .i64 ((x0.row.length : Nat) : Int)) rfl) rfl ?_
 refine rn ?_
 refine qn ?_
 refine Wret ?_
 replace hc := hc.pull 2 rfl rfl
 replace hc := hc.pull 2 rfl rfl
 replace hc := hc.pull 2 rfl rfl
 replace hc : Ctx w (S_admit_Desk.hp b0 x0 :: Fr) := Ctx.exB _ _ (Ctx.exB _ _ (Ctx.sepB (Ctx.sepB hc)))
 injection hp with hp; subst hp
 refine f1 (v := .int .i64 ((x0.row.length : Nat) : Int)) Try.results14 Try.ntmps14 rfl ?_
 exact ⟨_, rfl, k _ hc⟩

-- FN (*peloton/admit.Desk).Took
def admit_Desk_Took (x0 : S_admit_Desk) (x1 : Int) : Option (Bool) :=
  some ((mget x0.took x1).getD false)

set_option maxHeartbeats 2000000 in
theorem admit_Desk_Took_any {b0 : Nat} {x0 : S_admit_Desk} {x1 : Int} {Fr : List HP} {w : World} {r : Bool} {K : Value → World → Prop}  (hc : Ctx w (S_admit_Desk.hp b0 x0 :: Fr)) (hp : admit_Desk_Took x0 x1 = some r)
    (k : ∀ w', Ctx w' (S_admit_Desk.hp b0 x0 :: Fr) → K (.bool r) w') : Calls Try.prog 13 #[.pointer (some ⟨b0, 0, none⟩), .int .i64 x1] w (Ret K) := by
 unfold admit_Desk_Took at hp
 refine Center (args := [.pointer (some ⟨b0, 0, none⟩), .int .i64 x1]) (l := [(0, .pointer (some ⟨b0, 0, none⟩)), (1, .int .i64 x1)]) Try.func13 Try.ntmps13 rfl rfl rfl ?_
 refine Wseq ?_
 refine Wreg ?_
 refine rs (v := .bool false) (av (v := .bool false) rfl) rfl ?_
 refine rn ?_
 refine qn ?_
 refine Wseq ?_
 refine Wreg ?_
 refine rs (v := .pointer (some ⟨b0, 0, none⟩)) (mv (v := .pointer (some ⟨b0, 0, none⟩)) rfl) rfl ?_
 refine rs (v := .pointer (some ⟨b0, 0, none⟩)) (nl rfl) rfl ?_
 refine rs (v := .pointer (some ⟨b0, 8, none⟩)) (fax 8 rfl Try.underlying59 rfl Try.sizeOf57 rfl rfl rfl) rfl ?_
 replace hc := Ctx.exF hc; obtain ⟨v1, hc⟩ := hc
 replace hc := Ctx.exF hc; obtain ⟨v2, hc⟩ := hc
 replace hc := Ctx.sepF hc
 replace hc := Ctx.sepF hc
 obtain ⟨a3, q4, u5⟩ := hc.rd (k := 1) rfl rfl reads_own; subst u5
 refine rs (v := .map (some v2)) (ld rfl Try.isAgg57 (Ctx.cell hc (k := 0) rfl rfl rfl)) rfl ?_
 refine rs (v := .int .i64 x1) (mv (v := .int .i64 x1) rfl) rfl ?_
 refine rs (v := .bool ((mget x0.took x1).getD false)) (Ctx.mpGetC (f := fun x => [.bool x]) (fun _ _ _ _ h => h) (keyL_int Try.underlying3) hc (i := 2) rfl rfl Try.underlying57 rfl rfl Try.zeroValue4 rfl (fun _ _ => rfl) rfl) rfl ?_
 refine rs (v := .bool ((mget x0.took x1).getD false)) (av (v := .bool ((mget x0.took x1).getD false)) rfl) rfl ?_
 refine rn ?_
 refine qn ?_
 refine Wret ?_
 replace hc := hc.pull 2 rfl rfl
 replace hc := hc.pull 2 rfl rfl
 replace hc := hc.pull 2 rfl rfl
 replace hc : Ctx w (S_admit_Desk.hp b0 x0 :: Fr) := Ctx.exB _ _ (Ctx.exB _ _ (Ctx.sepB (Ctx.sepB hc)))
 injection hp with hp; subst hp
 refine f1 (v := .bool ((mget x0.took x1).getD false)) Try.results13 Try.ntmps13 rfl ?_
 exact ⟨_, rfl, k _ hc⟩

-- FN peloton/pelotonref09.Ints
def ref09_Ints.L1 (x0 : (List Int)) (x1 : (List Int)) : Nat → Int → Option (Bool)
  | 0, _ => none
  | m1 + 1, j2 =>
    if j2 < ((x0.length : Nat) : Int) then
      (idx x0 j2).bind fun y6 =>
      (idx x1 j2).bind fun y15 =>
      if y6 ≠ y15 then
        some false
      else
        (ref09_Ints.L1 x0 x1 m1) (IntKind.i64.wrap (j2 + 1))
    else
      some true

def ref09_Ints (N : Nat) (x0 : (List Int)) (x1 : (List Int)) : Option (Bool) :=
  if ((x0.length : Nat) : Int) ≠ ((x1.length : Nat) : Int) then
    some false
  else
    ref09_Ints.L1 x0 x1 N 0

set_option maxHeartbeats 2000000 in
theorem ref09_Ints_any {N : Nat} {x0 : (List Int)} {ax0 : Option Addr} {nx0 : Nat} {qx0 : Nat} {P0 : HP} {x1 : (List Int)} {ax1 : Option Addr} {nx1 : Nat} {qx1 : Nat} {P1 : HP} {Fr : List HP} {w : World} {r : Bool} {K : Value → World → Prop} (hrd0 : Reads P0 (pInt .i64) (.slice ax0 nx0 qx0) x0) (hrd1 : Reads P1 (pInt .i64) (.slice ax1 nx1 qx1) x1) (hc : Ctx w (P0 :: P1 :: Fr)) (hp : ref09_Ints N x0 x1 = some r)
    (k : ∀ w', Ctx w' (P0 :: P1 :: Fr) → K (.bool r) w') : Calls Try.prog 28 #[.slice ax0 nx0 qx0, .slice ax1 nx1 qx1] w (Ret K) := by
 unfold ref09_Ints at hp
 refine Center (args := [.slice ax0 nx0 qx0, .slice ax1 nx1 qx1]) (l := [(0, .slice ax0 nx0 qx0), (1, .slice ax1 nx1 qx1)]) Try.func28 Try.ntmps28 rfl rfl rfl ?_
 obtain ⟨hn0, _⟩ := Ctx.rdLen hc (k := 0) rfl rfl hrd0; subst hn0
 obtain ⟨hn1, _⟩ := Ctx.rdLen hc (k := 1) rfl rfl hrd1; subst hn1
 refine Wseq ?_
 refine Wreg ?_
 refine rs (v := .bool false) (av (v := .bool false) rfl) rfl ?_
 refine rn ?_
 refine qn ?_
 refine Wseq ?_
 refine Wseq ?_
 refine Wreg ?_
 refine rs (v := .slice ax0 x0.length qx0) (mv (v := .slice ax0 x0.length qx0) rfl) rfl ?_
 refine rs (v := .int .i64 ((x0.length : Nat) : Int)) (ln rfl Try.underlying22) rfl ?_
 refine rs (v := .slice ax1 x1.length qx1) (mv (v := .slice ax1 x1.length qx1) rfl) rfl ?_
 refine rs (v := .int .i64 ((x1.length : Nat) : Int)) (ln rfl Try.underlying22) rfl ?_
 refine rs (v := .bool (decide (((x0.length : Nat) : Int) ≠ ((x1.length : Nat) : Int)))) (ned rfl rfl) rfl ?_
 refine rn ?_
 refine qn ?_
 cases hb1 : (decide (((x0.length : Nat) : Int) ≠ ((x1.length : Nat) : Int)))
 · replace hp := gneg hp (of_decide_eq_false hb1)
   refine Wcf rfl ?_
   refine Wskip ?_
   refine qn ?_
   refine Wseq ?_
   refine Wseq ?_
   refine Wreg ?_
   refine rs (v := .int .i64 0) (av (v := .int .i64 0) rfl) rfl ?_
   refine rn ?_
   refine qn ?_
   refine Wblk ?_
   refine Wloop [4, 5, 11, 12, 13, 14, 15, 16, 17, 18, 19, 20, 21, 22, 23, 24, 25] [5] (fun m vs w' => ∃ j2 : Int, vs = [.int .i64 j2] ∧ ref09_Ints.L1 x0 x1 m j2 = some r ∧ Ctx w' (P0 :: P1 :: Fr)) N ?_ ?_
   · exact ⟨0, rfl, hp, hc⟩
   · clear hp hc; intro m vs u w3 hJ
     obtain ⟨j2, rfl, hp, hc⟩ := hJ
     rcases m with _ | m1
     · cases (show none = some r from hp)
     rw [ref09_Ints.L1] at hp
     refine Wseq ?_
     refine Wseq ?_
     refine Wreg ?_
     refine rs (v := .int .i64 j2) (mv (v := .int .i64 j2) rfl) rfl ?_
     refine rs (v := .slice ax0 x0.length qx0) (mv (v := .slice ax0 x0.length qx0) rfl) rfl ?_
     refine rs (v := .int .i64 ((x0.length : Nat) : Int)) (ln rfl Try.underlying22) rfl ?_
     refine rs (v := .bool (decide (j2 < ((x0.length : Nat) : Int)))) (lt' rfl rfl) rfl ?_
     refine rn ?_
     refine qn ?_
     cases hb4 : (decide (j2 < ((x0.length : Nat) : Int)))
     · replace hp := gneg hp (of_decide_eq_false hb4)
       refine Wcf rfl ?_
       refine Wexit ?_
       refine qx ?_
       refine qx ?_
       refine be ?_
       refine qn ?_
       refine Wseq ?_
       refine Wreg ?_
       refine rs (v := .bool true) (av (v := .bool true) rfl) rfl ?_
       refine rn ?_
       refine qn ?_
       refine Wret ?_
       injection hp with hp; subst hp
       refine f1 (v := .bool true) Try.results28 Try.ntmps28 rfl ?_
       exact ⟨_, rfl, k _ hc⟩
     · replace hp := gpos hp (of_decide_eq_true hb4)
       refine Wct rfl ?_
       refine Wskip ?_
       refine qn ?_
       refine Wseq ?_
       refine Wblk ?_
       refine Wseq ?_
       replace hc := hc.drew
       refine Wdrw (fun _ w' => Ctx w' (P0 :: P1 :: Fr)) [0, 0, 3, 7, 0, 0, 48, 112, 255] 0 0 rfl (by kernel_rfl) (fun _ _ => hc) ?_
       generalize hw : World.drew w3 = w5 at *
       clear hw
       refine ds (v := .slice ax0 x0.length qx0) rfl (fun w' hF => mv (v := .slice ax0 x0.length qx0) rfl) rfl ?_
       refine ds (v := .int .i64 j2) rfl (fun w' hF => mv (v := .int .i64 j2) rfl) rfl ?_
       replace hp := bind_some hp; obtain ⟨y6, hy6, hp⟩ := hp
       obtain ⟨b9, o10, u11, hi7, hi8⟩ := Ctx.rdAt hc (k := 0) rfl rfl hrd0 hy6
       subst u11
       refine ds (v := .pointer (some ⟨b9, o10 + (j2).toNat * 1, none⟩)) rfl (fun w' hF => ixx rfl rfl Try.underlying22 Try.sizeOf3 hi7 hi8 rfl) rfl ?_
       replace hc := Ctx.rdCell hc (k := 0) rfl rfl hrd0 hy6; obtain ⟨cs12, hc, hcell13⟩ := hc
       replace hc := Ctx.holdC hc; obtain ⟨u14, hc⟩ := hc; subst u14
       refine ds (v := .int .i64 y6) rfl (fun w' hF => ld rfl Try.isAgg3 ((by obtain ⟨cs, hc, hcell⟩ := Ctx.rdCell hF (k := 0) rfl rfl hrd0 hy6; obtain ⟨u, hc⟩ := Ctx.holdC hc; subst u; exact hcell 0 _ rfl))) rfl ?_
       refine ds (v := .slice ax1 x1.length qx1) rfl (fun w' hF => mv (v := .slice ax1 x1.length qx1) rfl) rfl ?_
       refine ds (v := .int .i64 j2) rfl (fun w' hF => mv (v := .int .i64 j2) rfl) rfl ?_
       replace hp := bind_some hp; obtain ⟨y15, hy15, hp⟩ := hp
       obtain ⟨b18, o19, u20, hi16, hi17⟩ := Ctx.rdAt hc (k := 1) rfl rfl hrd1 hy15
       subst u20
       refine ds (v := .pointer (some ⟨b18, o19 + (j2).toNat * 1, none⟩)) rfl (fun w' hF => ixx rfl rfl Try.underlying22 Try.sizeOf3 hi16 hi17 rfl) rfl ?_
       replace hc := Ctx.rdCell hc (k := 1) rfl rfl hrd1 hy15; obtain ⟨cs21, hc, hcell22⟩ := hc
       replace hc := Ctx.holdC hc; obtain ⟨u23, hc⟩ := hc; subst u23
       refine ds (v := .int .i64 y15) rfl (fun w' hF => ld rfl Try.isAgg3 ((by obtain ⟨cs, hc, hcell⟩ := Ctx.rdCell hF (k := 1) rfl rfl hrd1 hy15; obtain ⟨u, hc⟩ := Ctx.holdC hc; subst u; exact hcell 0 _ rfl))) rfl ?_
       refine ds (v := .bool (decide (y6 ≠ y15))) rfl (fun w' hF => ned rfl rfl) rfl ?_
       refine dn ?_
       refine qn ?_
       cases hb24 : (decide (y6 ≠ y15))
       · replace hp := gneg hp (of_decide_eq_false hb24)
         refine Wcf rfl ?_
         refine Wskip ?_
         refine bn ?_
         refine qn ?_
         refine Wreg ?_
         refine rs (v := .int .i64 j2) (mv (v := .int .i64 j2) rfl) rfl ?_
         refine rs (v := .int .i64 (IntKind.i64.wrap (j2 + 1))) (adw rfl rfl) rfl ?_
         refine rs (v := .int .i64 (IntKind.i64.wrap (j2 + 1))) (av (v := .int .i64 (IntKind.i64.wrap (j2 + 1))) rfl) rfl ?_
         refine rn ?_
         refine qn ?_
         exact ⟨m1, Nat.lt_succ_self _, ⟨(IntKind.i64.wrap (j2 + 1)), rfl, hp, hc⟩, (kl rfl k0)⟩
       · replace hp := gpos hp (of_decide_eq_true hb24)
         refine Wct rfl ?_
         refine Wseq ?_
         refine Wreg ?_
         refine rs (v := .bool false) (av (v := .bool false) rfl) rfl ?_
         refine rn ?_
         refine qn ?_
         refine Wret ?_
         refine br ?_
         refine qr ?_
         refine qr ?_
         refine br ?_
         refine qr ?_
         injection hp with hp; subst hp
         refine f1 (v := .bool false) Try.results28 Try.ntmps28 rfl ?_
         exact ⟨_, rfl, k _ hc⟩
 · replace hp := gpos hp (of_decide_eq_true hb1)
   refine Wct rfl ?_
   refine Wseq ?_
   refine Wreg ?_
   refine rs (v := .bool false) (av (v := .bool false) rfl) rfl ?_
   refine rn ?_
   refine qn ?_
   refine Wret ?_
   refine qr ?_
   injection hp with hp; subst hp
   refine f1 (v := .bool false) Try.results28 Try.ntmps28 rfl ?_
   exact ⟨_, rfl, k _ hc⟩

-- FN peloton/pelotonref09.Check
def ref09_Check.L1 (x0 : S_api_Shape) (x1 : (List Int)) (x2 : Int) : Nat → Int → Option (Int)
  | 0, _ => none
  | m1 + 1, j5 =>
    if j5 < ((x1.length : Nat) : Int) then
      (idx x1 j5).bind fun y12 =>
      if y12 < 0 then
        some 2
      else
        (idx x1 j5).bind fun y22 =>
        if y22 ≥ x0.Vocab then
          some 2
        else
          (ref09_Check.L1 x0 x1 x2 m1) (IntKind.i64.wrap (j5 + 1))
    else
      if x2 < 1 then
        some 2
      else
        if ((x1.length : Nat) : Int) > x0.Places then
          some 80
        else
          if x2 > (IntKind.i64.wrap ((IntKind.i64.wrap (x0.Places - ((x1.length : Nat) : Int))) + 1)) then
            some 80
          else
            some 0

def ref09_Check (N : Nat) (x0 : S_api_Shape) (x1 : (List Int)) (x2 : Int) : Option (Int) :=
  if ((x1.length : Nat) : Int) = 0 then
    some 90
  else
    ref09_Check.L1 x0 x1 x2 N 0

set_option maxHeartbeats 2000000 in
theorem ref09_Check_any {N : Nat} {x0 : S_api_Shape} {x1 : (List Int)} {ax1 : Option Addr} {nx1 : Nat} {qx1 : Nat} {P1 : HP} {x2 : Int} {Fr : List HP} {w : World} {r : Int} {K : Value → World → Prop} (hrd1 : Reads P1 (pInt .i64) (.slice ax1 nx1 qx1) x1) (hc : Ctx w (P1 :: Fr)) (hp : ref09_Check N x0 x1 x2 = some r)
    (k : ∀ w', Ctx w' (P1 :: Fr) → K (.int .i64 r) w') : Calls Try.prog 32 #[.agg #[.int .i64 x0.Layers, .int .i64 x0.Width, .int .i64 x0.Heads, .int .i64 x0.Inner, .int .i64 x0.Vocab, .int .i64 x0.Places], .slice ax1 nx1 qx1, .int .i64 x2] w (Ret K) := by
 unfold ref09_Check at hp
 refine Center (args := [.agg #[.int .i64 x0.Layers, .int .i64 x0.Width, .int .i64 x0.Heads, .int .i64 x0.Inner, .int .i64 x0.Vocab, .int .i64 x0.Places], .slice ax1 nx1 qx1, .int .i64 x2]) (l := [(0, .agg #[.int .i64 x0.Layers, .int .i64 x0.Width, .int .i64 x0.Heads, .int .i64 x0.Inner, .int .i64 x0.Vocab, .int .i64 x0.Places]), (1, .slice ax1 nx1 qx1), (2, .int .i64 x2)]) Try.func32 Try.ntmps32 rfl rfl rfl ?_
 obtain ⟨hn1, _⟩ := Ctx.rdLen hc (k := 0) rfl rfl hrd1; subst hn1
 refine Wseq ?_
 refine Wreg ?_
 refine rsE (Ctx.boxOp (cs := [.int .i64 x0.Layers, .int .i64 x0.Width, .int .i64 x0.Heads, .int .i64 x0.Inner, .int .i64 x0.Vocab, .int .i64 x0.Places]) (v := .agg #[.int .i64 x0.Layers, .int .i64 x0.Width, .int .i64 x0.Heads, .int .i64 x0.Inner, .int .i64 x0.Vocab, .int .i64 x0.Places]) hc rfl rfl) rfl ?_
 clear hc; rintro _ w3 ⟨b1, rfl, hc⟩
 refine rs (v := .int .i64 0) (av (v := .int .i64 0) rfl) rfl ?_
 refine rn ?_
 refine qn ?_
 refine Wseq ?_
 refine Wseq ?_
 refine Wreg ?_
 refine rs (v := .slice ax1 x1.length qx1) (mv (v := .slice ax1 x1.length qx1) rfl) rfl ?_
 refine rs (v := .int .i64 ((x1.length : Nat) : Int)) (ln rfl Try.underlying22) rfl ?_
 refine rs (v := .bool (decide (((x1.length : Nat) : Int) = 0))) (eqd rfl rfl) rfl ?_
 refine rn ?_
 refine qn ?_
 cases hb4 : (decide (((x1.length : Nat) : Int) = 0))
 · replace hp := gneg hp (of_decide_eq_false hb4)
   refine Wcf rfl ?_
   refine Wskip ?_
   refine qn ?_
   refine Wseq ?_
   refine Wseq ?_
   refine Wreg ?_
   refine rs (v := .int .i64 0) (av (v := .int .i64 0) rfl) rfl ?_
   refine rn ?_
   refine qn ?_
   refine Wblk ?_
   refine Wloop [6, 7, 11, 12, 13, 14, 15, 16, 17, 18, 19, 20, 21, 22, 23, 24, 25, 26, 27, 28, 29, 30] [7] (fun m vs w' => ∃ j5 : Int, vs = [.int .i64 j5] ∧ ref09_Check.L1 x0 x1 x2 m j5 = some r ∧ Ctx w' (B b1 [.int .i64 x0.Layers, .int .i64 x0.Width, .int .i64 x0.Heads, .int .i64 x0.Inner, .int .i64 x0.Vocab, .int .i64 x0.Places] 31 :: P1 :: Fr)) N ?_ ?_
   · exact ⟨0, rfl, hp, hc⟩
   · clear hp hc; intro m vs u w6 hJ
     obtain ⟨j5, rfl, hp, hc⟩ := hJ
     rcases m with _ | m1
     · cases (show none = some r from hp)
     rw [ref09_Check.L1] at hp
     refine Wseq ?_
     refine Wseq ?_
     refine Wreg ?_
     refine rs (v := .int .i64 j5) (mv (v := .int .i64 j5) rfl) rfl ?_
     refine rs (v := .slice ax1 x1.length qx1) (mv (v := .slice ax1 x1.length qx1) rfl) rfl ?_
     refine rs (v := .int .i64 ((x1.length : Nat) : Int)) (ln rfl Try.underlying22) rfl ?_
     refine rs (v := .bool (decide (j5 < ((x1.length : Nat) : Int)))) (lt' rfl rfl) rfl ?_
     refine rn ?_
     refine qn ?_
     cases hb7 : (decide (j5 < ((x1.length : Nat) : Int)))
     · replace hp := gneg hp (of_decide_eq_false hb7)
       refine Wcf rfl ?_
       refine Wexit ?_
       refine qx ?_
       refine qx ?_
       refine be ?_
       refine qn ?_
       refine Wseq ?_
       refine Wseq ?_
       refine Wreg ?_
       refine rs (v := .int .i64 x2) (mv (v := .int .i64 x2) rfl) rfl ?_
       refine rs (v := .bool (decide (x2 < 1))) (lt' rfl rfl) rfl ?_
       refine rn ?_
       refine qn ?_
       cases hb8 : (decide (x2 < 1))
       · replace hp := gneg hp (of_decide_eq_false hb8)
         refine Wcf rfl ?_
         refine Wskip ?_
         refine qn ?_
         refine Wseq ?_
         refine Wseq ?_
         refine Wreg ?_
         refine rs (v := .slice ax1 x1.length qx1) (mv (v := .slice ax1 x1.length qx1) rfl) rfl ?_
         refine rs (v := .int .i64 ((x1.length : Nat) : Int)) (ln rfl Try.underlying22) rfl ?_
         refine rs (v := .pointer (some ⟨b1, 5, none⟩)) (fax 5 rfl Try.underlying31 rfl Try.sizeOf3 rfl rfl rfl) rfl ?_
         refine rs (v := .int .i64 x0.Places) (ld rfl Try.isAgg3 (Ctx.cell hc (k := 0) rfl rfl rfl)) rfl ?_
         refine rs (v := .bool (decide (((x1.length : Nat) : Int) > x0.Places))) (gt' rfl rfl) rfl ?_
         refine rs (v := .bool (decide (((x1.length : Nat) : Int) > x0.Places))) (mv (v := .bool (decide (((x1.length : Nat) : Int) > x0.Places))) rfl) rfl ?_
         cases hb9 : (decide (((x1.length : Nat) : Int) > x0.Places))
         · replace hp := gneg hp (of_decide_eq_false hb9)
           refine rs (v := .int .i64 x2) (mv (v := .int .i64 x2) rfl) rfl ?_
           refine rs (v := .pointer (some ⟨b1, 5, none⟩)) (fax 5 rfl Try.underlying31 rfl Try.sizeOf3 rfl rfl rfl) rfl ?_
           refine rs (v := .int .i64 x0.Places) (ld rfl Try.isAgg3 (Ctx.cell hc (k := 0) rfl rfl rfl)) rfl ?_
           refine rs (v := .slice ax1 x1.length qx1) (mv (v := .slice ax1 x1.length qx1) rfl) rfl ?_
           refine rs (v := .int .i64 ((x1.length : Nat) : Int)) (ln rfl Try.underlying22) rfl ?_
           refine rs (v := .int .i64 (IntKind.i64.wrap (x0.Places - ((x1.length : Nat) : Int)))) (sbw rfl rfl) rfl ?_
           refine rs (v := .int .i64 (IntKind.i64.wrap ((IntKind.i64.wrap (x0.Places - ((x1.length : Nat) : Int))) + 1))) (adw rfl rfl) rfl ?_
           refine rs (v := .bool (decide (x2 > (IntKind.i64.wrap ((IntKind.i64.wrap (x0.Places - ((x1.length : Nat) : Int))) + 1))))) (gt' rfl rfl) rfl ?_
           refine rs (v := .bool (decide (x2 > (IntKind.i64.wrap ((IntKind.i64.wrap (x0.Places - ((x1.length : Nat) : Int))) + 1))))) (pkf (v := .bool (decide (x2 > (IntKind.i64.wrap ((IntKind.i64.wrap (x0.Places - ((x1.length : Nat) : Int))) + 1))))) rfl rfl) rfl ?_
           refine rn ?_
           refine qn ?_
           cases hb10 : (decide (x2 > (IntKind.i64.wrap ((IntKind.i64.wrap (x0.Places - ((x1.length : Nat) : Int))) + 1))))
           · replace hp := gneg hp (of_decide_eq_false hb10)
             refine Wcf rfl ?_
             refine Wskip ?_
             refine qn ?_
             refine Wseq ?_
             refine Wreg ?_
             refine rs (v := .int .i64 0) (av (v := .int .i64 0) rfl) rfl ?_
             refine rn ?_
             refine qn ?_
             refine Wret ?_
             replace hc := hc.rem 0 rfl rfl
             injection hp with hp; subst hp
             refine f1 (v := .int .i64 0) Try.results32 Try.ntmps32 rfl ?_
             exact ⟨_, rfl, k _ hc⟩
           · replace hp := gpos hp (of_decide_eq_true hb10)
             refine Wct rfl ?_
             refine Wseq ?_
             refine Wreg ?_
             refine rs (v := .int .i64 80) (av (v := .int .i64 80) rfl) rfl ?_
             refine rn ?_
             refine qn ?_
             refine Wret ?_
             refine qr ?_
             replace hc := hc.rem 0 rfl rfl
             injection hp with hp; subst hp
             refine f1 (v := .int .i64 80) Try.results32 Try.ntmps32 rfl ?_
             exact ⟨_, rfl, k _ hc⟩
         · replace hp := gpos hp (of_decide_eq_true hb9)
           refine r0 rfl ?_
           refine r0 rfl ?_
           refine r0 rfl ?_
           refine r0 rfl ?_
           refine r0 rfl ?_
           refine r0 rfl ?_
           refine r0 rfl ?_
           refine r0 rfl ?_
           refine rs (v := .bool true) (pkt (v := .bool true) rfl rfl) rfl ?_
           refine rn ?_
           refine qn ?_
           refine Wct rfl ?_
           refine Wseq ?_
           refine Wreg ?_
           refine rs (v := .int .i64 80) (av (v := .int .i64 80) rfl) rfl ?_
           refine rn ?_
           refine qn ?_
           refine Wret ?_
           refine qr ?_
           replace hc := hc.rem 0 rfl rfl
           injection hp with hp; subst hp
           refine f1 (v := .int .i64 80) Try.results32 Try.ntmps32 rfl ?_
           exact ⟨_, rfl, k _ hc⟩
       · replace hp := gpos hp (of_decide_eq_true hb8)
         refine Wct rfl ?_
         refine Wseq ?_
         refine Wreg ?_
         refine rs (v := .int .i64 2) (av (v := .int .i64 2) rfl) rfl ?_
         refine rn ?_
         refine qn ?_
         refine Wret ?_
         refine qr ?_
         replace hc := hc.rem 0 rfl rfl
         injection hp with hp; subst hp
         refine f1 (v := .int .i64 2) Try.results32 Try.ntmps32 rfl ?_
         exact ⟨_, rfl, k _ hc⟩
     · replace hp := gpos hp (of_decide_eq_true hb7)
       refine Wct rfl ?_
       refine Wskip ?_
       refine qn ?_
       refine Wseq ?_
       refine Wblk ?_
       refine Wseq ?_
       replace hc := hc.drew
       refine Wdrw (fun _ w' => Ctx w' (B b1 [.int .i64 x0.Layers, .int .i64 x0.Width, .int .i64 x0.Heads, .int .i64 x0.Inner, .int .i64 x0.Vocab, .int .i64 x0.Places] 31 :: P1 :: Fr)) [0, 0, 3, 7, 15, 31, 63, 63, 255, 511, 63, 1087, 4095, 8191] 0 0 rfl (by kernel_rfl) (fun _ _ => hc) ?_
       generalize hw : World.drew w6 = w11 at *
       clear hw
       refine ds (v := .slice ax1 x1.length qx1) rfl (fun w' hF => mv (v := .slice ax1 x1.length qx1) rfl) rfl ?_
       refine ds (v := .int .i64 j5) rfl (fun w' hF => mv (v := .int .i64 j5) rfl) rfl ?_
       replace hp := bind_some hp; obtain ⟨y12, hy12, hp⟩ := hp
       obtain ⟨b15, o16, u17, hi13, hi14⟩ := Ctx.rdAt hc (k := 1) rfl rfl hrd1 hy12
       subst u17
       refine ds (v := .pointer (some ⟨b15, o16 + (j5).toNat * 1, none⟩)) rfl (fun w' hF => ixx rfl rfl Try.underlying22 Try.sizeOf3 hi13 hi14 rfl) rfl ?_
       replace hc := Ctx.rdCell hc (k := 1) rfl rfl hrd1 hy12; obtain ⟨cs18, hc, hcell19⟩ := hc
       replace hc := Ctx.holdC hc; obtain ⟨u20, hc⟩ := hc; subst u20
       refine ds (v := .int .i64 y12) rfl (fun w' hF => ld rfl Try.isAgg3 ((by obtain ⟨cs, hc, hcell⟩ := Ctx.rdCell hF (k := 1) rfl rfl hrd1 hy12; obtain ⟨u, hc⟩ := Ctx.holdC hc; subst u; exact hcell 0 _ rfl))) rfl ?_
       refine ds (v := .bool (decide (y12 < 0))) rfl (fun w' hF => lt' rfl rfl) rfl ?_
       refine ds (v := .bool (decide (y12 < 0))) rfl (fun w' hF => mv (v := .bool (decide (y12 < 0))) rfl) rfl ?_
       cases hb21 : (decide (y12 < 0))
       · replace hp := gneg hp (of_decide_eq_false hb21)
         refine ds (v := .slice (some ⟨b15, o16, none⟩) x1.length qx1) rfl (fun w' hF => mv (v := .slice (some ⟨b15, o16, none⟩) x1.length qx1) rfl) rfl ?_
         refine ds (v := .int .i64 j5) rfl (fun w' hF => mv (v := .int .i64 j5) rfl) rfl ?_
         replace hp := bind_some hp; obtain ⟨y22, hy22, hp⟩ := hp
         obtain ⟨b25, o26, u27, hi23, hi24⟩ := Ctx.rdAt hc (k := 1) rfl rfl hrd1 hy22
         clear u27
         refine ds (v := .pointer (some ⟨b15, o16 + (j5).toNat * 1, none⟩)) rfl (fun w' hF => ixx rfl rfl Try.underlying22 Try.sizeOf3 hi23 hi24 rfl) rfl ?_
         replace hc := Ctx.rdCell hc (k := 1) rfl rfl hrd1 hy22; obtain ⟨cs28, hc, hcell29⟩ := hc
         replace hc := Ctx.holdC hc; obtain ⟨u30, hc⟩ := hc; subst u30
         refine ds (v := .int .i64 y22) rfl (fun w' hF => ld rfl Try.isAgg3 ((by obtain ⟨cs, hc, hcell⟩ := Ctx.rdCell hF (k := 1) rfl rfl hrd1 hy22; obtain ⟨u, hc⟩ := Ctx.holdC hc; subst u; exact hcell 0 _ rfl))) rfl ?_
         refine ds (v := .pointer (some ⟨b1, 4, none⟩)) rfl (fun w' hF => fax 4 rfl Try.underlying31 rfl Try.sizeOf3 rfl rfl rfl) rfl ?_
         refine ds (v := .int .i64 x0.Vocab) rfl (fun w' hF => ld rfl Try.isAgg3 (Ctx.cell hF (k := 0) rfl rfl rfl)) rfl ?_
         refine ds (v := .bool (decide (y22 ≥ x0.Vocab))) rfl (fun w' hF => ge' rfl rfl) rfl ?_
         refine ds (v := .bool (decide (y22 ≥ x0.Vocab))) rfl (fun w' hF => pkf (v := .bool (decide (y22 ≥ x0.Vocab))) rfl rfl) rfl ?_
         refine dn ?_
         refine qn ?_
         cases hb31 : (decide (y22 ≥ x0.Vocab))
         · replace hp := gneg hp (of_decide_eq_false hb31)
           refine Wcf rfl ?_
           refine Wskip ?_
           refine bn ?_
           refine qn ?_
           refine Wreg ?_
           refine rs (v := .int .i64 j5) (mv (v := .int .i64 j5) rfl) rfl ?_
           refine rs (v := .int .i64 (IntKind.i64.wrap (j5 + 1))) (adw rfl rfl) rfl ?_
           refine rs (v := .int .i64 (IntKind.i64.wrap (j5 + 1))) (av (v := .int .i64 (IntKind.i64.wrap (j5 + 1))) rfl) rfl ?_
           refine rn ?_
           refine qn ?_
           exact ⟨m1, Nat.lt_succ_self _, ⟨(IntKind.i64.wrap (j5 + 1)), rfl, hp, hc⟩, (kl rfl k0)⟩
         · replace hp := gpos hp (of_decide_eq_true hb31)
           refine Wct rfl ?_
           refine Wseq ?_
           refine Wreg ?_
           refine rs (v := .int .i64 2) (av (v := .int .i64 2) rfl) rfl ?_
           refine rn ?_
           refine qn ?_
           refine Wret ?_
           refine br ?_
           refine qr ?_
           refine qr ?_
           refine br ?_
           refine qr ?_
           replace hc := hc.rem 0 rfl rfl
           injection hp with hp; subst hp
           refine f1 (v := .int .i64 2) Try.results32 Try.ntmps32 rfl ?_
           exact ⟨_, rfl, k _ hc⟩
       · replace hp := gpos hp (of_decide_eq_true hb21)
         refine d0 rfl rfl ?_
         refine d0 rfl rfl ?_
         refine d0 rfl rfl ?_
         refine d0 rfl rfl ?_
         refine d0 rfl rfl ?_
         refine d0 rfl rfl ?_
         refine d0 rfl rfl ?_
         refine ds (v := .bool true) rfl (fun w' hF => pkt (v := .bool true) rfl rfl) rfl ?_
         refine dn ?_
         refine qn ?_
         refine Wct rfl ?_
         refine Wseq ?_
         refine Wreg ?_
         refine rs (v := .int .i64 2) (av (v := .int .i64 2) rfl) rfl ?_
         refine rn ?_
         refine qn ?_
         refine Wret ?_
         refine br ?_
         refine qr ?_
         refine qr ?_
         refine br ?_
         refine qr ?_
         replace hc := hc.rem 0 rfl rfl
         injection hp with hp; subst hp
         refine f1 (v := .int .i64 2) Try.results32 Try.ntmps32 rfl ?_
         exact ⟨_, rfl, k _ hc⟩
 · replace hp := gpos hp (of_decide_eq_true hb4)
   refine Wct rfl ?_
   refine Wseq ?_
   refine Wreg ?_
   refine rs (v := .int .i64 90) (av (v := .int .i64 90) rfl) rfl ?_
   refine rn ?_
   refine qn ?_
   refine Wret ?_
   refine qr ?_
   replace hc := hc.rem 0 rfl rfl
   injection hp with hp; subst hp
   refine f1 (v := .int .i64 90) Try.results32 Try.ntmps32 rfl ?_
   exact ⟨_, rfl, k _ hc⟩

-- FN (*peloton/pelotonref21.Desk).Took
def ref21_Desk_Took.L1 (x0 : S_ref21_Desk) (x1 : Int) : Nat → Int → Option (Bool)
  | 0, _ => none
  | m1 + 1, j1 =>
    if j1 < ((x0.Ids.length : Nat) : Int) then
      (idx x0.Ids j1).bind fun y12 =>
      if y12 = x1 then
        some true
      else
        (ref21_Desk_Took.L1 x0 x1 m1) (IntKind.i64.wrap (j1 + 1))
    else
      some false

def ref21_Desk_Took (N : Nat) (x0 : S_ref21_Desk) (x1 : Int) : Option (Bool) :=
  ref21_Desk_Took.L1 x0 x1 N 0

set_option maxHeartbeats 2000000 in
theorem ref21_Desk_Took_any {N : Nat} {b0 : Nat} {x0 : S_ref21_Desk} {x1 : Int} {Fr : List HP} {w : World} {r : Bool} {K : Value → World → Prop}  (hc : Ctx w (S_ref21_Desk.hp b0 x0 :: Fr)) (hp : ref21_Desk_Took N x0 x1 = some r)
    (k : ∀ w', Ctx w' (S_ref21_Desk.hp b0 x0 :: Fr) → K (.bool r) w') : Calls Try.prog 22 #[.pointer (some ⟨b0, 0, none⟩), .int .i64 x1] w (Ret K) := by
 unfold ref21_Desk_Took at hp
 refine Center (args := [.pointer (some ⟨b0, 0, none⟩), .int .i64 x1]) (l := [(0, .pointer (some ⟨b0, 0, none⟩)), (1, .int .i64 x1)]) Try.func22 Try.ntmps22 rfl rfl rfl ?_
 refine Wseq ?_
 refine Wreg ?_
 refine rs (v := .bool false) (av (v := .bool false) rfl) rfl ?_
 refine rn ?_
 refine qn ?_
 refine Wseq ?_
 refine Wseq ?_
 refine Wreg ?_
 refine rs (v := .int .i64 0) (av (v := .int .i64 0) rfl) rfl ?_
 refine rn ?_
 refine qn ?_
 refine Wblk ?_
 refine Wloop [4, 5, 6, 7, 8, 9, 10, 11, 12, 13, 14, 15, 16, 17, 18, 19, 20, 21, 22, 23] [5] (fun m vs w' => ∃ j1 : Int, vs = [.int .i64 j1] ∧ ref21_Desk_Took.L1 x0 x1 m j1 = some r ∧ Ctx w' (S_ref21_Desk.hp b0 x0 :: Fr)) N ?_ ?_
 · exact ⟨0, rfl, hp, hc⟩
 · clear hp hc; intro m vs u w2 hJ
   obtain ⟨j1, rfl, hp, hc⟩ := hJ
   rcases m with _ | m1
   · cases (show none = some r from hp)
   rw [ref21_Desk_Took.L1] at hp
   refine Wseq ?_
   refine Wseq ?_
   refine Wreg ?_
   refine rs (v := .int .i64 j1) (mv (v := .int .i64 j1) rfl) rfl ?_
   refine rs (v := .pointer (some ⟨b0, 0, none⟩)) (mv (v := .pointer (some ⟨b0, 0, none⟩)) rfl) rfl ?_
   refine rs (v := .pointer (some ⟨b0, 0, none⟩)) (nl rfl) rfl ?_
   refine rs (v := .pointer (some ⟨b0, 8, none⟩)) (fax 8 rfl Try.underlying47 rfl Try.sizeOf22 rfl rfl rfl) rfl ?_
   replace hc := Ctx.exF hc; obtain ⟨v3, hc⟩ := hc
   replace hc := Ctx.exF hc; obtain ⟨v4, hc⟩ := hc
   replace hc := Ctx.sepF hc
   replace hc := Ctx.sepF hc
   obtain ⟨a5, q6, u7⟩ := hc.rd (k := 1) rfl rfl reads_own; subst u7
   obtain ⟨a8, q9, u10⟩ := hc.rd (k := 2) rfl rfl reads_own; subst u10
   refine rs (v := .slice a8 x0.Ids.length q9) (ld rfl Try.isAgg22 (Ctx.cell hc (k := 0) rfl rfl rfl)) rfl ?_
   refine rs (v := .int .i64 ((x0.Ids.length : Nat) : Int)) (ln rfl Try.underlying22) rfl ?_
   refine rs (v := .bool (decide (j1 < ((x0.Ids.length : Nat) : Int)))) (lt' rfl rfl) rfl ?_
   refine rn ?_
   refine qn ?_
   cases hb11 : (decide (j1 < ((x0.Ids.length : Nat) : Int)))
   · replace hp := gneg hp (of_decide_eq_false hb11)
     refine Wcf rfl ?_
     refine Wexit ?_
     refine qx ?_
     refine qx ?_
     refine be ?_
     refine qn ?_
     refine Wseq ?_
     refine Wreg ?_
     refine rs (v := .bool false) (av (v := .bool false) rfl) rfl ?_
     refine rn ?_
     refine qn ?_
     refine Wret ?_
     replace hc := hc.pull 2 rfl rfl
     replace hc := hc.pull 2 rfl rfl
     replace hc := hc.pull 2 rfl rfl
     replace hc : Ctx w2 (S_ref21_Desk.hp b0 x0 :: Fr) := Ctx.exB _ _ (Ctx.exB _ _ (Ctx.sepB (Ctx.sepB hc)))
     injection hp with hp; subst hp
     refine f1 (v := .bool false) Try.results22 Try.ntmps22 rfl ?_
     exact ⟨_, rfl, k _ hc⟩
   · replace hp := gpos hp (of_decide_eq_true hb11)
     refine Wct rfl ?_
     refine Wskip ?_
     refine qn ?_
     refine Wseq ?_
     refine Wblk ?_
     refine Wseq ?_
     refine Wreg ?_
     refine rs (v := .pointer (some ⟨b0, 0, none⟩)) (mv (v := .pointer (some ⟨b0, 0, none⟩)) rfl) rfl ?_
     refine rs (v := .pointer (some ⟨b0, 0, none⟩)) (nl rfl) rfl ?_
     refine rs (v := .pointer (some ⟨b0, 8, none⟩)) (fax 8 rfl Try.underlying47 rfl Try.sizeOf22 rfl rfl rfl) rfl ?_
     refine rs (v := .slice a8 x0.Ids.length q9) (ld rfl Try.isAgg22 (Ctx.cell hc (k := 0) rfl rfl rfl)) rfl ?_
     refine rs (v := .int .i64 j1) (mv (v := .int .i64 j1) rfl) rfl ?_
     replace hp := bind_some hp; obtain ⟨y12, hy12, hp⟩ := hp
     obtain ⟨b15, o16, u17, hi13, hi14⟩ := Ctx.rdAt hc (k := 2) rfl rfl reads_own hy12
     subst u17
     refine rs (v := .pointer (some ⟨b15, o16 + (j1).toNat * 1, none⟩)) (ixx rfl rfl Try.underlying22 Try.sizeOf3 hi13 hi14 rfl) rfl ?_
     replace hc := Ctx.rdCell hc (k := 2) rfl rfl reads_own hy12; obtain ⟨cs18, hc, hcell19⟩ := hc
     replace hc := Ctx.holdC hc; obtain ⟨u20, hc⟩ := hc; subst u20
     refine rs (v := .int .i64 y12) (ld rfl Try.isAgg3 (hcell19 0 _ rfl)) rfl ?_
     refine rs (v := .int .i64 x1) (mv (v := .int .i64 x1) rfl) rfl ?_
     refine rs (v := .bool (decide (y12 = x1))) (eqd rfl rfl) rfl ?_
     refine rn ?_
     refine qn ?_
     cases hb21 : (decide (y12 = x1))
     · replace hp := gneg hp (of_decide_eq_false hb21)
       refine Wcf rfl ?_
       refine Wskip ?_
       refine bn ?_
       refine qn ?_
       refine Wreg ?_
       refine rs (v := .int .i64 j1) (mv (v := .int .i64 j1) rfl) rfl ?_
       refine rs (v := .int .i64 (IntKind.i64.wrap (j1 + 1))) (adw rfl rfl) rfl ?_
       refine rs (v := .int .i64 (IntKind.i64.wrap (j1 + 1))) (av (v := .int .i64 (IntKind.i64.wrap (j1 + 1))) rfl) rfl ?_
       refine rn ?_
       refine qn ?_
       replace hc := hc.pull 2 rfl rfl
       replace hc := hc.pull 2 rfl rfl
       replace hc := hc.pull 2 rfl rfl
       replace hc : Ctx w2 (S_ref21_Desk.hp b0 x0 :: Fr) := Ctx.exB _ _ (Ctx.exB _ _ (Ctx.sepB (Ctx.sepB hc)))
       exact ⟨m1, Nat.lt_succ_self _, ⟨(IntKind.i64.wrap (j1 + 1)), rfl, hp, hc⟩, (kl rfl k0)⟩
     · replace hp := gpos hp (of_decide_eq_true hb21)
       refine Wct rfl ?_
       refine Wseq ?_
       refine Wreg ?_
       refine rs (v := .bool true) (av (v := .bool true) rfl) rfl ?_
       refine rn ?_
       refine qn ?_
       refine Wret ?_
       refine br ?_
       refine qr ?_
       refine qr ?_
       refine br ?_
       refine qr ?_
       replace hc := hc.pull 2 rfl rfl
       replace hc := hc.pull 2 rfl rfl
       replace hc := hc.pull 2 rfl rfl
       replace hc : Ctx w2 (S_ref21_Desk.hp b0 x0 :: Fr) := Ctx.exB _ _ (Ctx.exB _ _ (Ctx.sepB (Ctx.sepB hc)))
       injection hp with hp; subst hp
       refine f1 (v := .bool true) Try.results22 Try.ntmps22 rfl ?_
       exact ⟨_, rfl, k _ hc⟩

-- FN (*peloton/pelotonref21.Desk).Judge
def ref21_Desk_Judge (N : Nat) (x0 : S_ref21_Desk) (x1 : S_api_Request) : Option (Int) :=
  if x1.ID < 0 then
    some 2
  else
    if x1.ID ≥ 1099511627776 then
      some 2
    else
      (ref21_Desk_Took N x0 x1.ID).bind fun r10 =>
      if r10 = true then
        some 210
      else
        (ref09_Check N (⟨x0.S.Layers, x0.S.Width, x0.S.Heads, x0.S.Inner, x0.S.Vocab, x0.S.Places⟩ : S_api_Shape) x1.Prompt x1.Most).bind fun r22 =>
        if r22 ≠ 0 then
          some r22
        else
          if ((x0.L.length : Nat) : Int) ≥ x0.Room then
            some 211
          else
            some 0

set_option maxHeartbeats 2000000 in
theorem ref21_Desk_Judge_any {N : Nat} {b0 : Nat} {x0 : S_ref21_Desk} {x1 : S_api_Request} {a1 : Option Addr} {n2 : Nat} {q3 : Nat} {Fr : List HP} {w : World} {r : Int} {K : Value → World → Prop}  (hc : Ctx w (S_ref21_Desk.hp b0 x0 :: Hold (pRo (pInt .i64)) [.slice a1 n2 q3] x1.Prompt :: Fr)) (hp : ref21_Desk_Judge N x0 x1 = some r)
    (k : ∀ w', Ctx w' (S_ref21_Desk.hp b0 x0 :: Fr) → K (.int .i64 r) w') : Calls Try.prog 21 #[.pointer (some ⟨b0, 0, none⟩), .agg #[.int .i64 x1.ID, .int .i64 x1.Most, .slice a1 n2 q3]] w (Ret K) := by
 unfold ref21_Desk_Judge at hp
 refine Center (args := [.pointer (some ⟨b0, 0, none⟩), .agg #[.int .i64 x1.ID, .int .i64 x1.Most, .slice a1 n2 q3]]) (l := [(0, .pointer (some ⟨b0, 0, none⟩)), (1, .agg #[.int .i64 x1.ID, .int .i64 x1.Most, .slice a1 n2 q3])]) Try.func21 Try.ntmps21 rfl rfl rfl ?_
 obtain ⟨u4, _⟩ := Ctx.rdLen hc (k := 1) rfl rfl reads_ro; subst u4
 refine Wseq ?_
 refine Wreg ?_
 refine rsE (Ctx.boxOp (cs := [.int .i64 x1.ID, .int .i64 x1.Most, .slice a1 x1.Prompt.length q3]) (v := .agg #[.int .i64 x1.ID, .int .i64 x1.Most, .slice a1 x1.Prompt.length q3]) hc rfl rfl) rfl ?_
 clear hc; rintro _ w7 ⟨b5, rfl, hc⟩
 refine rs (v := .int .i64 0) (av (v := .int .i64 0) rfl) rfl ?_
 refine rn ?_
 refine qn ?_
 refine Wseq ?_
 refine Wseq ?_
 refine Wreg ?_
 refine rs (v := .pointer (some ⟨b5, 0, none⟩)) (fax 0 rfl Try.underlying24 rfl Try.sizeOf3 rfl rfl rfl) rfl ?_
 refine rs (v := .int .i64 x1.ID) (ld rfl Try.isAgg3 (Ctx.cell hc (k := 0) rfl rfl rfl)) rfl ?_
 refine rs (v := .bool (decide (x1.ID < 0))) (lt' rfl rfl) rfl ?_
 refine rs (v := .bool (decide (x1.ID < 0))) (mv (v := .bool (decide (x1.ID < 0))) rfl) rfl ?_
 cases hb8 : (decide (x1.ID < 0))
 · replace hp := gneg hp (of_decide_eq_false hb8)
   refine rs (v := .pointer (some ⟨b5, 0, none⟩)) (fax 0 rfl Try.underlying24 rfl Try.sizeOf3 rfl rfl rfl) rfl ?_
   refine rs (v := .int .i64 x1.ID) (ld rfl Try.isAgg3 (Ctx.cell hc (k := 0) rfl rfl rfl)) rfl ?_
   refine rs (v := .bool (decide (x1.ID ≥ 1099511627776))) (ge' rfl rfl) rfl ?_
   refine rs (v := .bool (decide (x1.ID ≥ 1099511627776))) (pkf (v := .bool (decide (x1.ID ≥ 1099511627776))) rfl rfl) rfl ?_
   refine rn ?_
   refine qn ?_
   cases hb9 : (decide (x1.ID ≥ 1099511627776))
   · replace hp := gneg hp (of_decide_eq_false hb9)
     refine Wcf rfl ?_
     refine Wskip ?_
     refine qn ?_
     refine Wseq ?_
     refine Wseq ?_
     refine Wreg ?_
     refine rs (v := .pointer (some ⟨b0, 0, none⟩)) (mv (v := .pointer (some ⟨b0, 0, none⟩)) rfl) rfl ?_
     refine rs (v := .pointer (some ⟨b5, 0, none⟩)) (fax 0 rfl Try.underlying24 rfl Try.sizeOf3 rfl rfl rfl) rfl ?_
     refine rs (v := .int .i64 x1.ID) (ld rfl Try.isAgg3 (Ctx.cell hc (k := 0) rfl rfl rfl)) rfl ?_
     replace hp := bind_some hp; obtain ⟨r10, hr10, hp⟩ := hp
     replace hc := hc.pull 1 rfl rfl
     refine rc (cl Try.call22 rfl rfl) rfl ?_
     refine ref21_Desk_Took_any hc hr10 ?_
     clear hc; intro w11 hc
     refine rn ?_
     refine qn ?_
     cases hb12 : r10
     · replace hp := gneg hp (by rw [hb12]; exact Bool.false_ne_true)
       subst hb12
       refine Wcf rfl ?_
       refine Wskip ?_
       refine qn ?_
       refine Wseq ?_
       replace hc := Ctx.exF hc; obtain ⟨v13, hc⟩ := hc
       replace hc := Ctx.exF hc; obtain ⟨v14, hc⟩ := hc
       replace hc := Ctx.sepF hc
       replace hc := Ctx.sepF hc
       obtain ⟨a15, q16, u17⟩ := hc.rd (k := 1) rfl rfl reads_own; subst u17
       obtain ⟨a18, q19, u20⟩ := hc.rd (k := 2) rfl rfl reads_own; subst u20
       replace hc := hc.drew
       refine Wdrw (fun j w' => True) [0, 1, 3, 7, 0, 16, 0, 64, 255, 511] 0 168 rfl (by kernel_rfl) (fun _ _ => trivial) ?_
       generalize hw : World.drew w11 = w21 at *
       clear hw
       refine ds (v := .pointer (some ⟨b0, 0, none⟩)) rfl (fun w' hF => mv (v := .pointer (some ⟨b0, 0, none⟩)) rfl) rfl ?_
       refine ds (v := .pointer (some ⟨b0, 0, none⟩)) rfl (fun w' hF => nl rfl) rfl ?_
       refine ds (v := .pointer (some ⟨b0, 0, none⟩)) rfl (fun w' hF => fax 0 rfl Try.underlying47 rfl Try.sizeOf31 rfl rfl rfl) rfl ?_
       refine dx (v := .agg #[.int .i64 x0.S.Layers, .int .i64 x0.S.Width, .int .i64 x0.S.Heads, .int .i64 x0.S.Inner, .int .i64 x0.S.Vocab, .int .i64 x0.S.Places]) rfl (ldg rfl Try.isAgg31 Try.sizeOf31 rfl (Ctx.cells hc (k := 0) rfl rfl 0 (vs := [.int .i64 x0.S.Layers, .int .i64 x0.S.Width, .int .i64 x0.S.Heads, .int .i64 x0.S.Inner, .int .i64 x0.S.Vocab, .int .i64 x0.S.Places]) rfl)) rfl rfl ?_
       refine ds (v := .pointer (some ⟨b5, 2, none⟩)) rfl (fun w' hF => fax 2 rfl Try.underlying24 rfl Try.sizeOf22 rfl rfl rfl) rfl ?_
       refine dx (v := .slice a1 x1.Prompt.length q3) rfl (ld rfl Try.isAgg22 (Ctx.cell hc (k := 3) rfl rfl rfl)) rfl rfl ?_
       refine ds (v := .pointer (some ⟨b5, 1, none⟩)) rfl (fun w' hF => fax 1 rfl Try.underlying24 rfl Try.sizeOf3 rfl rfl rfl) rfl ?_
       refine dx (v := .int .i64 x1.Most) rfl (ld rfl Try.isAgg3 (Ctx.cell hc (k := 3) rfl rfl rfl)) rfl rfl ?_
       replace hc := hc.dup (k := 4) rfl rfl
       replace hp := bind_some hp; obtain ⟨r22, hr22, hp⟩ := hp
       refine dc (cl Try.call32 rfl rfl) rfl rfl ?_
       refine ref09_Check_any reads_ro hc hr22 ?_
       clear hc; intro w23 hc
       refine ⟨fun j hj hb => trivial, ?_⟩
       refine ds (v := .int .i64 r22) rfl (fun w' hF => av (v := .int .i64 r22) rfl) rfl ?_
       refine dn ?_
       refine qn ?_
       refine Wseq ?_
       refine Wseq ?_
       refine Wreg ?_
       refine rs (v := .int .i64 r22) (mv (v := .int .i64 r22) rfl) rfl ?_
       refine rs (v := .bool (decide (r22 ≠ 0))) (ned rfl rfl) rfl ?_
       refine rn ?_
       refine qn ?_
       cases hb24 : (decide (r22 ≠ 0))
       · replace hp := gneg hp (of_decide_eq_false hb24)
         refine Wcf rfl ?_
         refine Wskip ?_
         refine qn ?_
         refine Wseq ?_
         refine Wseq ?_
         replace hc := hc.drew
         refine Wdrw (fun _ w' => Ctx w' (Hold (pRo (pInt .i64)) [.slice a1 x1.Prompt.length q3] x1.Prompt :: B b0 [.int .i64 x0.S.Layers, .int .i64 x0.S.Width, .int .i64 x0.S.Heads, .int .i64 x0.S.Inner, .int .i64 x0.S.Vocab, .int .i64 x0.S.Places, .int .i64 x0.Room, .slice a15 x0.L.length q16, .slice a18 x0.Ids.length q19] 47 :: Own S_api_Request.pr 24 (.slice a15 x0.L.length q16) x0.L :: Own (pInt .i64) 3 (.slice a18 x0.Ids.length q19) x0.Ids :: B b5 [.int .i64 x1.ID, .int .i64 x1.Most, .slice a1 x1.Prompt.length q3] 24 :: Hold (pRo (pInt .i64)) [.slice a1 x1.Prompt.length q3] x1.Prompt :: Fr)) [0, 1, 3, 7, 15, 0, 32, 96, 224, 511] 0 0 rfl (by kernel_rfl) (fun _ _ => hc) ?_
         generalize hw : World.drew w23 = w25 at *
         clear hw
         refine ds (v := .pointer (some ⟨b0, 0, none⟩)) rfl (fun w' hF => mv (v := .pointer (some ⟨b0, 0, none⟩)) rfl) rfl ?_
         refine ds (v := .pointer (some ⟨b0, 0, none⟩)) rfl (fun w' hF => nl rfl) rfl ?_
         refine ds (v := .pointer (some ⟨b0, 7, none⟩)) rfl (fun w' hF => fax 7 rfl Try.underlying47 rfl Try.sizeOf45 rfl rfl rfl) rfl ?_
         refine ds (v := .slice a15 x0.L.length q16) rfl (fun w' hF => ld rfl Try.isAgg45 (Ctx.cell hF (k := 1) rfl rfl rfl)) rfl ?_
         refine ds (v := .int .i64 ((x0.L.length : Nat) : Int)) rfl (fun w' hF => ln rfl Try.underlying45) rfl ?_
         refine ds (v := .pointer (some ⟨b0, 0, none⟩)) rfl (fun w' hF => mv (v := .pointer (some ⟨b0, 0, none⟩)) rfl) rfl ?_
         refine ds (v := .pointer (some ⟨b0, 0, none⟩)) rfl (fun w' hF => nl rfl) rfl ?_
         refine ds (v := .pointer (some ⟨b0, 6, none⟩)) rfl (fun w' hF => fax 6 rfl Try.underlying47 rfl Try.sizeOf3 rfl rfl rfl) rfl ?_
         refine ds (v := .int .i64 x0.Room) rfl (fun w' hF => ld rfl Try.isAgg3 (Ctx.cell hF (k := 1) rfl rfl rfl)) rfl ?_
         refine ds (v := .bool (decide (((x0.L.length : Nat) : Int) ≥ x0.Room))) rfl (fun w' hF => ge' rfl rfl) rfl ?_
         refine dn ?_
         refine qn ?_
         cases hb26 : (decide (((x0.L.length : Nat) : Int) ≥ x0.Room))
         · replace hp := gneg hp (of_decide_eq_false hb26)
           refine Wcf rfl ?_
           refine Wskip ?_
           refine qn ?_
           refine Wseq ?_
           refine Wreg ?_
           refine rs (v := .int .i64 0) (av (v := .int .i64 0) rfl) rfl ?_
           refine rn ?_
           refine qn ?_
           refine Wret ?_
           replace hc := hc.pull 3 rfl rfl
           replace hc := hc.pull 3 rfl rfl
           replace hc := hc.pull 3 rfl rfl
           replace hc : Ctx w25 (S_ref21_Desk.hp b0 x0 :: Hold (pRo (pInt .i64)) [.slice a1 x1.Prompt.length q3] x1.Prompt :: B b5 [.int .i64 x1.ID, .int .i64 x1.Most, .slice a1 x1.Prompt.length q3] 24 :: Hold (pRo (pInt .i64)) [.slice a1 x1.Prompt.length q3] x1.Prompt :: Fr) := Ctx.exB _ _ (Ctx.exB _ _ (Ctx.sepB (Ctx.sepB hc)))
           replace hc := hc.rem 3 rfl rfl
           replace hc := hc.rem 2 rfl rfl
           replace hc := hc.rem 1 rfl rfl
           injection hp with hp; subst hp
           refine f1 (v := .int .i64 0) Try.results21 Try.ntmps21 rfl ?_
           exact ⟨_, rfl, k _ hc⟩
         · replace hp := gpos hp (of_decide_eq_true hb26)
           refine Wct rfl ?_
           refine Wseq ?_
           refine Wreg ?_
           refine rs (v := .int .i64 211) (av (v := .int .i64 211) rfl) rfl ?_
           refine rn ?_
           refine qn ?_
           refine Wret ?_
           refine qr ?_
           replace hc := hc.pull 3 rfl rfl
           replace hc := hc.pull 3 rfl rfl
           replace hc := hc.pull 3 rfl rfl
           replace hc : Ctx w25 (S_ref21_Desk.hp b0 x0 :: Hold (pRo (pInt .i64)) [.slice a1 x1.Prompt.length q3] x1.Prompt :: B b5 [.int .i64 x1.ID, .int .i64 x1.Most, .slice a1 x1.Prompt.length q3] 24 :: Hold (pRo (pInt .i64)) [.slice a1 x1.Prompt.length q3] x1.Prompt :: Fr) := Ctx.exB _ _ (Ctx.exB _ _ (Ctx.sepB (Ctx.sepB hc)))
           replace hc := hc.rem 3 rfl rfl
           replace hc := hc.rem 2 rfl rfl
           replace hc := hc.rem 1 rfl rfl
           injection hp with hp; subst hp
           refine f1 (v := .int .i64 211) Try.results21 Try.ntmps21 rfl ?_
           exact ⟨_, rfl, k _ hc⟩
       · replace hp := gpos hp (of_decide_eq_true hb24)
         refine Wct rfl ?_
         refine Wseq ?_
         refine Wreg ?_
         refine rs (v := .int .i64 r22) (mv (v := .int .i64 r22) rfl) rfl ?_
         refine rs (v := .int .i64 r22) (av (v := .int .i64 r22) rfl) rfl ?_
         refine rn ?_
         refine qn ?_
         refine Wret ?_
         refine qr ?_
         replace hc := hc.pull 3 rfl rfl
         replace hc := hc.pull 3 rfl rfl
         replace hc := hc.pull 3 rfl rfl
         replace hc : Ctx w23 (S_ref21_Desk.hp b0 x0 :: Hold (pRo (pInt .i64)) [.slice a1 x1.Prompt.length q3] x1.Prompt :: B b5 [.int .i64 x1.ID, .int .i64 x1.Most, .slice a1 x1.Prompt.length q3] 24 :: Hold (pRo (pInt .i64)) [.slice a1 x1.Prompt.length q3] x1.Prompt :: Fr) := Ctx.exB _ _ (Ctx.exB _ _ (Ctx.sepB (Ctx.sepB hc)))
         replace hc := hc.rem 3 rfl rfl
         replace hc := hc.rem 2 rfl rfl
         replace hc := hc.rem 1 rfl rfl
         injection hp with hp; subst hp
         refine f1 (v := .int .i64 r22) Try.results21 Try.ntmps21 rfl ?_
         exact ⟨_, rfl, k _ hc⟩
     · replace hp := gpos hp hb12
       subst hb12
       refine Wct rfl ?_
       refine Wseq ?_
       refine Wreg ?_
       refine rs (v := .int .i64 210) (av (v := .int .i64 210) rfl) rfl ?_
       refine rn ?_
       refine qn ?_
       refine Wret ?_
       refine qr ?_
       replace hc := hc.rem 2 rfl rfl
       replace hc := hc.rem 1 rfl rfl
       injection hp with hp; subst hp
       refine f1 (v := .int .i64 210) Try.results21 Try.ntmps21 rfl ?_
       exact ⟨_, rfl, k _ hc⟩
   · replace hp := gpos hp (of_decide_eq_true hb9)
     refine Wct rfl ?_
     refine Wseq ?_
     refine Wreg ?_
     refine rs (v := .int .i64 2) (av (v := .int .i64 2) rfl) rfl ?_
     refine rn ?_
     refine qn ?_
     refine Wret ?_
     refine qr ?_
     replace hc := hc.rem 2 rfl rfl
     replace hc := hc.rem 0 rfl rfl
     injection hp with hp; subst hp
     refine f1 (v := .int .i64 2) Try.results21 Try.ntmps21 rfl ?_
     exact ⟨_, rfl, k _ hc⟩
 · replace hp := gpos hp (of_decide_eq_true hb8)
   refine r0 rfl ?_
   refine r0 rfl ?_
   refine r0 rfl ?_
   refine rs (v := .bool true) (pkt (v := .bool true) rfl rfl) rfl ?_
   refine rn ?_
   refine qn ?_
   refine Wct rfl ?_
   refine Wseq ?_
   refine Wreg ?_
   refine rs (v := .int .i64 2) (av (v := .int .i64 2) rfl) rfl ?_
   refine rn ?_
   refine qn ?_
   refine Wret ?_
   refine qr ?_
   replace hc := hc.rem 2 rfl rfl
   replace hc := hc.rem 0 rfl rfl
   injection hp with hp; subst hp
   refine f1 (v := .int .i64 2) Try.results21 Try.ntmps21 rfl ?_
   exact ⟨_, rfl, k _ hc⟩

-- FN (*peloton/pelotonref21.Desk).Submit
def ref21_Desk_Submit (N : Nat) (x0 : S_ref21_Desk) (x1 : S_api_Request) : Option (Int × S_ref21_Desk) :=
  (ref21_Desk_Judge N x0 (⟨x1.ID, x1.Most, x1.Prompt⟩ : S_api_Request)).bind fun r8 =>
  if r8 = 0 then
    (app ([]) x1.Prompt).bind fun z13 =>
    (app x0.L ([(⟨x1.ID, x1.Most, z13⟩ : S_api_Request)])).bind fun z31 =>
    (app x0.Ids ([x1.ID])).bind fun z41 =>
    some (r8, (⟨x0.S, x0.Room, z31, z41⟩ : S_ref21_Desk))
  else
    some (r8, x0)

set_option maxHeartbeats 2000000 in
theorem ref21_Desk_Submit_any {N : Nat} {b0 : Nat} {x0 : S_ref21_Desk} {x1 : S_api_Request} {a1 : Option Addr} {n2 : Nat} {q3 : Nat} {Fr : List HP} {w : World} {r : Int × S_ref21_Desk} {K : Value → World → Prop}  (hc : Ctx w (S_ref21_Desk.hp b0 x0 :: Hold (pRo (pInt .i64)) [.slice a1 n2 q3] x1.Prompt :: Fr)) (hp : ref21_Desk_Submit N x0 x1 = some r)
    (k : ∀ w', Ctx w' (S_ref21_Desk.hp b0 r.2 :: Fr) → K (.int .i64 r.1) w') : Calls Try.prog 16 #[.pointer (some ⟨b0, 0, none⟩), .agg #[.int .i64 x1.ID, .int .i64 x1.Most, .slice a1 n2 q3]] w (Ret K) := by
 unfold ref21_Desk_Submit at hp
 refine Center (args := [.pointer (some ⟨b0, 0, none⟩), .agg #[.int .i64 x1.ID, .int .i64 x1.Most, .slice a1 n2 q3]]) (l := [(0, .pointer (some ⟨b0, 0, none⟩)), (1, .agg #[.int .i64 x1.ID, .int .i64 x1.Most, .slice a1 n2 q3])]) Try.func16 Try.ntmps16 rfl rfl rfl ?_
 obtain ⟨u4, _⟩ := Ctx.rdLen hc (k := 1) rfl rfl reads_ro; subst u4
 refine Wseq ?_
 refine Wreg ?_
 refine rsE (Ctx.boxOp (cs := [.int .i64 x1.ID, .int .i64 x1.Most, .slice a1 x1.Prompt.length q3]) (v := .agg #[.int .i64 x1.ID, .int .i64 x1.Most, .slice a1 x1.Prompt.length q3]) hc rfl rfl) rfl ?_
 clear hc; rintro _ w7 ⟨b5, rfl, hc⟩
 refine rs (v := .int .i64 0) (av (v := .int .i64 0) rfl) rfl ?_
 refine rn ?_
 refine qn ?_
 refine Wseq ?_
 refine Wreg ?_
 refine rs (v := .pointer (some ⟨b0, 0, none⟩)) (mv (v := .pointer (some ⟨b0, 0, none⟩)) rfl) rfl ?_
 refine rs (v := .agg #[.int .i64 x1.ID, .int .i64 x1.Most, .slice a1 x1.Prompt.length q3]) (ldg rfl Try.isAgg24 Try.sizeOf24 rfl (Ctx.cells hc (k := 0) rfl rfl 0 (vs := [.int .i64 x1.ID, .int .i64 x1.Most, .slice a1 x1.Prompt.length q3]) rfl)) rfl ?_
 replace hc := hc.dup (k := 2) rfl rfl
 replace hp := bind_some hp; obtain ⟨r8, hr8, hp⟩ := hp
 replace hc := hc.pull 2 rfl rfl
 refine rc (cl Try.call21 rfl rfl) rfl ?_
 refine ref21_Desk_Judge_any hc hr8 ?_
 clear hc; intro w9 hc
 refine rs (v := .int .i64 r8) (av (v := .int .i64 r8) rfl) rfl ?_
 refine rn ?_
 refine qn ?_
 refine Wseq ?_
 refine Wseq ?_
 refine Wreg ?_
 refine rs (v := .int .i64 r8) (mv (v := .int .i64 r8) rfl) rfl ?_
 refine rs (v := .bool (decide (r8 = 0))) (eqd rfl rfl) rfl ?_
 refine rn ?_
 refine qn ?_
 cases hb10 : (decide (r8 = 0))
 · replace hp := gneg hp (of_decide_eq_false hb10)
   refine Wcf rfl ?_
   refine Wskip ?_
   refine qn ?_
   refine Wseq ?_
   refine Wreg ?_
   refine rs (v := .int .i64 r8) (mv (v := .int .i64 r8) rfl) rfl ?_
   refine rs (v := .int .i64 r8) (av (v := .int .i64 r8) rfl) rfl ?_
   refine rn ?_
   refine qn ?_
   refine Wret ?_
   replace hc := hc.rem 2 rfl rfl
   replace hc := hc.rem 1 rfl rfl
   injection hp with hp; subst hp
   refine f1 (v := .int .i64 r8) Try.results16 Try.ntmps16 rfl ?_
   exact ⟨_, rfl, k _ hc⟩
 · replace hp := gpos hp (of_decide_eq_true hb10)
   refine Wct rfl ?_
   refine Wseq ?_
   refine Wreg ?_
   refine rsE (Ctx.builtOp (css := []) (xs := ([] : List Int)) (E := (pInt .i64)) hc Try.underlying22 Try.sizeOf3 Try.zeroValue3 rfl rfl rfl rfl rfl rfl rfl rfl) rfl ?_
   clear hc; rintro _ w12 ⟨a11, rfl, hc⟩
   refine rs (v := .pointer (some ⟨b5, 2, none⟩)) (fax 2 rfl Try.underlying24 rfl Try.sizeOf22 rfl rfl rfl) rfl ?_
   refine rs (v := .slice a1 x1.Prompt.length q3) (ld rfl Try.isAgg22 (Ctx.cell hc (k := 2) rfl rfl rfl)) rfl ?_
   replace hp := bind_some hp; obtain ⟨z13, hz13, hp⟩ := hp
   obtain ⟨hg14, e15⟩ := app_some hz13
   refine rsE (Ctx.append hc (k := 0) rfl rfl (k2 := 3) rfl rfl reads_ro Try.underlying22 (i := Try.t3) rfl rfl rfl rfl rfl rfl rfl rfl hg14) rfl ?_
   clear hc; rintro _ w18 ⟨a16, q17, rfl, hc⟩
   rw [← e15] at hc ⊢
   refine rs (v := .pointer (some ⟨b5, 2, none⟩)) (fax 2 rfl Try.underlying24 rfl Try.sizeOf22 rfl rfl rfl) rfl ?_
   refine ruE (A := fun w' => Ctx w' (Own (pInt .i64) 3 (.slice a16 z13.length q17) z13 :: S_ref21_Desk.hp b0 x0 :: B b5 [.int .i64 x1.ID, .int .i64 x1.Most, .slice a16 z13.length q17] 24 :: Hold (pRo (pInt .i64)) [.slice a1 x1.Prompt.length q3] x1.Prompt :: Fr)) (Ctx.putOp hc (k := 2) rfl rfl (v := .slice a16 z13.length q17) rfl rfl rfl Try.sizeOf22 rfl rfl rfl) rfl ?_
   clear hc; rintro w19 hc
   refine rn ?_
   refine qn ?_
   refine Wseq ?_
   replace hc := hc.pull 1 rfl rfl
   replace hc := Ctx.exF hc; obtain ⟨v20, hc⟩ := hc
   replace hc := Ctx.exF hc; obtain ⟨v21, hc⟩ := hc
   replace hc := Ctx.sepF hc
   replace hc := Ctx.sepF hc
   obtain ⟨a22, q23, u24⟩ := hc.rd (k := 1) rfl rfl reads_own; subst u24
   obtain ⟨a25, q26, u27⟩ := hc.rd (k := 2) rfl rfl reads_own; subst u27
   replace hc := hc.drew
   have hF : ∀ j, free [0, 0, 2, 6, 14, 0, 32, 126, 255, 511, 1023] 0 j = true → (fun j w' => (j = 4 → w'.cell? ⟨b0, 7, none⟩ = some (.slice a22 x0.L.length q23)) ∧ True) j (World.drew w19) := fun j hj => ⟨fun _ => hc.cell (k := 0) rfl rfl rfl, trivial⟩
   refine Wdrw (fun j w' => (j = 4 → w'.cell? ⟨b0, 7, none⟩ = some (.slice a22 x0.L.length q23)) ∧ True) [0, 0, 2, 6, 14, 0, 32, 126, 255, 511, 1023] 0 32 rfl (by kernel_rfl) (hF) ?_
   generalize hw : World.drew w19 = w28 at *
   clear hw
   refine ds (v := .pointer (some ⟨b0, 0, none⟩)) rfl (fun w' hF => mv (v := .pointer (some ⟨b0, 0, none⟩)) rfl) rfl ?_
   refine ds (v := .pointer (some ⟨b0, 0, none⟩)) rfl (fun w' hF => mv (v := .pointer (some ⟨b0, 0, none⟩)) rfl) rfl ?_
   refine ds (v := .pointer (some ⟨b0, 0, none⟩)) rfl (fun w' hF => nl rfl) rfl ?_
   refine ds (v := .pointer (some ⟨b0, 7, none⟩)) rfl (fun w' hF => fax 7 rfl Try.underlying47 rfl Try.sizeOf45 rfl rfl rfl) rfl ?_
   refine ds (v := .slice a22 x0.L.length q23) rfl (fun w' hF => ld rfl Try.isAgg45 ((hF.1 rfl))) rfl ?_
   refine dx (v := .agg #[.int .i64 x1.ID, .int .i64 x1.Most, .slice a16 z13.length q17]) rfl (ldg rfl Try.isAgg24 Try.sizeOf24 rfl (Ctx.cells hc (k := 4) rfl rfl 0 (vs := [.int .i64 x1.ID, .int .i64 x1.Most, .slice a16 z13.length q17]) rfl)) rfl rfl ?_
   replace hc := hc.freeze (k := 3) rfl rfl rfl
   replace hc := hc.dup (k := 3) rfl rfl
   replace hc : Ctx w28 (Hold S_api_Request.pr [.int .i64 x1.ID, .int .i64 x1.Most, .slice a16 z13.length q17] (⟨x1.ID, x1.Most, z13⟩ : S_api_Request) :: B b0 [.int .i64 x0.S.Layers, .int .i64 x0.S.Width, .int .i64 x0.S.Heads, .int .i64 x0.S.Inner, .int .i64 x0.S.Vocab, .int .i64 x0.S.Places, .int .i64 x0.Room, .slice a22 x0.L.length q23, .slice a25 x0.Ids.length q26] 47 :: Own S_api_Request.pr 24 (.slice a22 x0.L.length q23) x0.L :: Own (pInt .i64) 3 (.slice a25 x0.Ids.length q26) x0.Ids :: Hold (pRo (pInt .i64)) [.slice a16 z13.length q17] z13 :: B b5 [.int .i64 x1.ID, .int .i64 x1.Most, .slice a16 z13.length q17] 24 :: Hold (pRo (pInt .i64)) [.slice a1 x1.Prompt.length q3] x1.Prompt :: Fr) := S_api_Request.cl hc
   refine deE (Ctx.builtOp (css := [[.int .i64 x1.ID, .int .i64 x1.Most, .slice a16 z13.length q17]]) (xs := ([(⟨x1.ID, x1.Most, z13⟩ : S_api_Request)] : List S_api_Request)) (E := S_api_Request.pr) hc Try.underlying45 Try.sizeOf24 Try.zeroValue24 rfl rfl rfl rfl rfl rfl rfl rfl) rfl rfl ?_
   clear hc; rintro _ w30 ⟨a29, rfl, hc⟩
   refine ⟨fun j hj hb => ⟨fun _ => hc.cell (k := 1) rfl rfl rfl, trivial⟩, ?_⟩
   replace hp := bind_some hp; obtain ⟨z31, hz31, hp⟩ := hp
   obtain ⟨hg32, e33⟩ := app_some hz31
   refine deE (Ctx.append hc (k := 2) rfl rfl (k2 := 0) rfl rfl reads_own Try.underlying45 (i := Try.t24) rfl rfl rfl rfl rfl rfl rfl rfl hg32) rfl rfl ?_
   clear hc; rintro _ w36 ⟨a34, q35, rfl, hc⟩
   rw [← e33] at hc ⊢
   refine ⟨fun j hj hb => ⟨fun e => (by subst e; exact absurd hj (by decide)), trivial⟩, ?_⟩
   refine ds (v := .pointer (some ⟨b0, 0, none⟩)) rfl (fun w' hF => nl rfl) rfl ?_
   refine ds (v := .pointer (some ⟨b0, 7, none⟩)) rfl (fun w' hF => fax 7 rfl Try.underlying47 rfl Try.sizeOf45 rfl rfl rfl) rfl ?_
   refine duE (A := fun w' => Ctx w' (Own S_api_Request.pr 24 (.slice a29 1 1) ([(⟨x1.ID, x1.Most, z13⟩ : S_api_Request)]) :: B b0 [.int .i64 x0.S.Layers, .int .i64 x0.S.Width, .int .i64 x0.S.Heads, .int .i64 x0.S.Inner, .int .i64 x0.S.Vocab, .int .i64 x0.S.Places, .int .i64 x0.Room, .slice a34 z31.length q35, .slice a25 x0.Ids.length q26] 47 :: Own S_api_Request.pr 24 (.slice a34 z31.length q35) z31 :: Own (pInt .i64) 3 (.slice a25 x0.Ids.length q26) x0.Ids :: Hold (pRo (pInt .i64)) [.slice a16 z13.length q17] z13 :: B b5 [.int .i64 x1.ID, .int .i64 x1.Most, .slice a16 z13.length q17] 24 :: Hold (pRo (pInt .i64)) [.slice a1 x1.Prompt.length q3] x1.Prompt :: Fr)) (Ctx.putOp hc (k := 1) rfl rfl (v := .slice a34 z31.length q35) rfl rfl rfl Try.sizeOf45 rfl rfl rfl) rfl rfl ?_
   clear hc; rintro w37 hc
   refine ⟨fun j hj hb => ⟨fun e => (by subst e; exact absurd hj (by decide)), trivial⟩, ?_⟩
   refine dn ?_
   refine qn ?_
   replace hc := hc.drew
   have hF : ∀ j, free [0, 0, 2, 6, 14, 0, 32, 96, 254, 511, 1023, 2047] 0 j = true → (fun j w' => (j = 4 → w'.cell? ⟨b0, 8, none⟩ = some (.slice a25 x0.Ids.length q26)) ∧ True) j (World.drew w37) := fun j hj => ⟨fun _ => hc.cell (k := 1) rfl rfl rfl, trivial⟩
   refine Wdrw (fun j w' => (j = 4 → w'.cell? ⟨b0, 8, none⟩ = some (.slice a25 x0.Ids.length q26)) ∧ True) [0, 0, 2, 6, 14, 0, 32, 96, 254, 511, 1023, 2047] 0 64 rfl (by kernel_rfl) (hF) ?_
   generalize hw : World.drew w37 = w38 at *
   clear hw
   refine ds (v := .pointer (some ⟨b0, 0, none⟩)) rfl (fun w' hF => mv (v := .pointer (some ⟨b0, 0, none⟩)) rfl) rfl ?_
   refine ds (v := .pointer (some ⟨b0, 0, none⟩)) rfl (fun w' hF => mv (v := .pointer (some ⟨b0, 0, none⟩)) rfl) rfl ?_
   refine ds (v := .pointer (some ⟨b0, 0, none⟩)) rfl (fun w' hF => nl rfl) rfl ?_
   refine ds (v := .pointer (some ⟨b0, 8, none⟩)) rfl (fun w' hF => fax 8 rfl Try.underlying47 rfl Try.sizeOf22 rfl rfl rfl) rfl ?_
   refine ds (v := .slice a25 x0.Ids.length q26) rfl (fun w' hF => ld rfl Try.isAgg22 ((hF.1 rfl))) rfl ?_
   refine ds (v := .pointer (some ⟨b5, 0, none⟩)) rfl (fun w' hF => fax 0 rfl Try.underlying24 rfl Try.sizeOf3 rfl rfl rfl) rfl ?_
   refine dx (v := .int .i64 x1.ID) rfl (ld rfl Try.isAgg3 (Ctx.cell hc (k := 5) rfl rfl rfl)) rfl rfl ?_
   replace hc : Ctx w38 (Hold (pInt .i64) [.int .i64 x1.ID] x1.ID :: Own S_api_Request.pr 24 (.slice a29 1 1) ([(⟨x1.ID, x1.Most, z13⟩ : S_api_Request)]) :: B b0 [.int .i64 x0.S.Layers, .int .i64 x0.S.Width, .int .i64 x0.S.Heads, .int .i64 x0.S.Inner, .int .i64 x0.S.Vocab, .int .i64 x0.S.Places, .int .i64 x0.Room, .slice a34 z31.length q35, .slice a25 x0.Ids.length q26] 47 :: Own S_api_Request.pr 24 (.slice a34 z31.length q35) z31 :: Own (pInt .i64) 3 (.slice a25 x0.Ids.length q26) x0.Ids :: Hold (pRo (pInt .i64)) [.slice a16 z13.length q17] z13 :: B b5 [.int .i64 x1.ID, .int .i64 x1.Most, .slice a16 z13.length q17] 24 :: Hold (pRo (pInt .i64)) [.slice a1 x1.Prompt.length q3] x1.Prompt :: Fr) := hc.add _ fun _ _ _ => ⟨rfl, rfl⟩
   refine deE (Ctx.builtOp (css := [[.int .i64 x1.ID]]) (xs := ([x1.ID] : List Int)) (E := (pInt .i64)) hc Try.underlying22 Try.sizeOf3 Try.zeroValue3 rfl rfl rfl rfl rfl rfl rfl rfl) rfl rfl ?_
   clear hc; rintro _ w40 ⟨a39, rfl, hc⟩
   refine ⟨fun j hj hb => ⟨fun _ => hc.cell (k := 2) rfl rfl rfl, trivial⟩, ?_⟩
   replace hp := bind_some hp; obtain ⟨z41, hz41, hp⟩ := hp
   obtain ⟨hg42, e43⟩ := app_some hz41
   refine deE (Ctx.append hc (k := 4) rfl rfl (k2 := 0) rfl rfl reads_own Try.underlying22 (i := Try.t3) rfl rfl rfl rfl rfl rfl rfl rfl hg42) rfl rfl ?_
   clear hc; rintro _ w46 ⟨a44, q45, rfl, hc⟩
   rw [← e43] at hc ⊢
   refine ⟨fun j hj hb => ⟨fun e => (by subst e; exact absurd hj (by decide)), trivial⟩, ?_⟩
   refine ds (v := .pointer (some ⟨b0, 0, none⟩)) rfl (fun w' hF => nl rfl) rfl ?_
   refine ds (v := .pointer (some ⟨b0, 8, none⟩)) rfl (fun w' hF => fax 8 rfl Try.underlying47 rfl Try.sizeOf22 rfl rfl rfl) rfl ?_
   refine duE (A := fun w' => Ctx w' (Own (pInt .i64) 3 (.slice a39 1 1) ([x1.ID]) :: Own S_api_Request.pr 24 (.slice a29 1 1) ([(⟨x1.ID, x1.Most, z13⟩ : S_api_Request)]) :: B b0 [.int .i64 x0.S.Layers, .int .i64 x0.S.Width, .int .i64 x0.S.Heads, .int .i64 x0.S.Inner, .int .i64 x0.S.Vocab, .int .i64 x0.S.Places, .int .i64 x0.Room, .slice a34 z31.length q35, .slice a44 z41.length q45] 47 :: Own S_api_Request.pr 24 (.slice a34 z31.length q35) z31 :: Own (pInt .i64) 3 (.slice a44 z41.length q45) z41 :: Hold (pRo (pInt .i64)) [.slice a16 z13.length q17] z13 :: B b5 [.int .i64 x1.ID, .int .i64 x1.Most, .slice a16 z13.length q17] 24 :: Hold (pRo (pInt .i64)) [.slice a1 x1.Prompt.length q3] x1.Prompt :: Fr)) (Ctx.putOp hc (k := 2) rfl rfl (v := .slice a44 z41.length q45) rfl rfl rfl Try.sizeOf22 rfl rfl rfl) rfl rfl ?_
   clear hc; rintro w47 hc
   refine ⟨fun j hj hb => ⟨fun e => (by subst e; exact absurd hj (by decide)), trivial⟩, ?_⟩
   refine dn ?_
   refine qn ?_
   refine Wseq ?_
   refine Wreg ?_
   refine rs (v := .int .i64 r8) (mv (v := .int .i64 r8) rfl) rfl ?_
   refine rs (v := .int .i64 r8) (av (v := .int .i64 r8) rfl) rfl ?_
   refine rn ?_
   refine qn ?_
   refine Wret ?_
   replace hc := hc.pull 4 rfl rfl
   replace hc := hc.pull 4 rfl rfl
   replace hc := hc.pull 4 rfl rfl
   replace hc : Ctx w47 (S_ref21_Desk.hp b0 (⟨x0.S, x0.Room, z31, z41⟩ : S_ref21_Desk) :: Own (pInt .i64) 3 (.slice a39 1 1) ([x1.ID]) :: Own S_api_Request.pr 24 (.slice a29 1 1) ([(⟨x1.ID, x1.Most, z13⟩ : S_api_Request)]) :: Hold (pRo (pInt .i64)) [.slice a16 z13.length q17] z13 :: B b5 [.int .i64 x1.ID, .int .i64 x1.Most, .slice a16 z13.length q17] 24 :: Hold (pRo (pInt .i64)) [.slice a1 x1.Prompt.length q3] x1.Prompt :: Fr) := Ctx.exB _ _ (Ctx.exB _ _ (Ctx.sepB (Ctx.sepB hc)))
   replace hc := hc.rem 5 rfl rfl
   replace hc := hc.rem 4 rfl rfl
   replace hc := hc.rem 3 rfl rfl
   replace hc := hc.rem 2 rfl rfl
   replace hc := hc.rem 1 rfl rfl
   injection hp with hp; subst hp
   refine f1 (v := .int .i64 r8) Try.results16 Try.ntmps16 rfl ?_
   exact ⟨_, rfl, k _ hc⟩

-- FN (*peloton/pelotonref21.Desk).Cancel
def ref21_Desk_Cancel.J2 (j5 : Int) (k1 : (List S_api_Request) → Int → Option (Int × S_ref21_Desk)) (j19 : (List S_api_Request)) : Option (Int × S_ref21_Desk) :=
  k1 j19 (IntKind.i64.wrap (j5 + 1))

def ref21_Desk_Cancel.L1 (x0 : S_ref21_Desk) (x1 : Int) : Nat → (List S_api_Request) → Int → Option (Int × S_ref21_Desk)
  | 0, _, _ => none
  | m1 + 1, j1, j5 =>
    if j5 < ((x0.L.length : Nat) : Int) then
      (idx x0.L j5).bind fun y23 =>
      if y23.ID ≠ x1 then
        (idx x0.L j5).bind fun y35 =>
        (app j1 ([y35])).bind fun z48 =>
        ref21_Desk_Cancel.J2 j5 (ref21_Desk_Cancel.L1 x0 x1 m1) z48
      else
        ref21_Desk_Cancel.J2 j5 (ref21_Desk_Cancel.L1 x0 x1 m1) j1
    else
      (some (IntKind.i64.wrap (((x0.L.length : Nat) : Int) - ((j1.length : Nat) : Int)))).bind fun e17 =>
      some (e17, (⟨x0.S, x0.Room, j1, x0.Ids⟩ : S_ref21_Desk))

def ref21_Desk_Cancel (N : Nat) (x0 : S_ref21_Desk) (x1 : Int) : Option (Int × S_ref21_Desk) :=
  ref21_Desk_Cancel.L1 x0 x1 N ([]) 0

set_option maxHeartbeats 2000000 in
theorem ref21_Desk_Cancel_any {N : Nat} {b0 : Nat} {x0 : S_ref21_Desk} {x1 : Int} {Fr : List HP} {w : World} {r : Int × S_ref21_Desk} {K : Value → World → Prop}  (hc : Ctx w (S_ref21_Desk.hp b0 x0 :: Fr)) (hp : ref21_Desk_Cancel N x0 x1 = some r)
    (k : ∀ w', Ctx w' (S_ref21_Desk.hp b0 r.2 :: Fr) → K (.int .i64 r.1) w') : Calls Try.prog 20 #[.pointer (some ⟨b0, 0, none⟩), .int .i64 x1] w (Ret K) := by
 unfold ref21_Desk_Cancel at hp
 refine Center (args := [.pointer (some ⟨b0, 0, none⟩), .int .i64 x1]) (l := [(0, .pointer (some ⟨b0, 0, none⟩)), (1, .int .i64 x1)]) Try.func20 Try.ntmps20 rfl rfl rfl ?_
 refine Wseq ?_
 refine Wreg ?_
 refine rs (v := .int .i64 0) (av (v := .int .i64 0) rfl) rfl ?_
 refine rn ?_
 refine qn ?_
 refine Wseq ?_
 refine Wreg ?_
 refine rs (v := .slice none 0 0) (av (v := .slice none 0 0) rfl) rfl ?_
 refine rn ?_
 refine qn ?_
 refine Wseq ?_
 refine Wseq ?_
 refine Wreg ?_
 refine rs (v := .int .i64 0) (av (v := .int .i64 0) rfl) rfl ?_
 refine rn ?_
 refine qn ?_
 refine Wblk ?_
 replace hc := hc.nilOwn S_api_Request.pr 24
 replace hc := hc.pull 1 rfl rfl
 refine Wloop [5, 6, 8, 9, 10, 11, 12, 13, 14, 15, 16, 17, 18, 19, 20, 21, 22, 23, 24, 25, 26, 27, 28, 29, 30, 31, 32, 33, 34, 35, 36] [5, 6] (fun m vs w' => ∃ j1 : (List S_api_Request), ∃ j5 : Int, ∃ a2 : Option Addr, ∃ n3 : Nat, ∃ q4 : Nat, vs = [.slice a2 n3 q4, .int .i64 j5] ∧ ref21_Desk_Cancel.L1 x0 x1 m j1 j5 = some r ∧ Ctx w' (S_ref21_Desk.hp b0 x0 :: Own S_api_Request.pr 24 (.slice a2 n3 q4) j1 :: Fr)) N ?_ ?_
 · exact ⟨[], 0, none, 0, 0, rfl, hp, hc⟩
 · clear hp hc; intro m vs u w6 hJ
   obtain ⟨j1, j5, a2, n3, q4, rfl, hp, hc⟩ := hJ
   obtain ⟨u7, _⟩ := Ctx.rdLen hc (k := 1) rfl rfl reads_own; subst u7
   rcases m with _ | m1
   · cases (show none = some r from hp)
   rw [ref21_Desk_Cancel.L1] at hp
   refine Wseq ?_
   refine Wseq ?_
   refine Wreg ?_
   refine rs (v := .int .i64 j5) (mv (v := .int .i64 j5) rfl) rfl ?_
   refine rs (v := .pointer (some ⟨b0, 0, none⟩)) (mv (v := .pointer (some ⟨b0, 0, none⟩)) rfl) rfl ?_
   refine rs (v := .pointer (some ⟨b0, 0, none⟩)) (nl rfl) rfl ?_
   refine rs (v := .pointer (some ⟨b0, 7, none⟩)) (fax 7 rfl Try.underlying47 rfl Try.sizeOf45 rfl rfl rfl) rfl ?_
   replace hc := Ctx.exF hc; obtain ⟨v8, hc⟩ := hc
   replace hc := Ctx.exF hc; obtain ⟨v9, hc⟩ := hc
   replace hc := Ctx.sepF hc
   replace hc := Ctx.sepF hc
   obtain ⟨a10, q11, u12⟩ := hc.rd (k := 1) rfl rfl reads_own; subst u12
   obtain ⟨a13, q14, u15⟩ := hc.rd (k := 2) rfl rfl reads_own; subst u15
   refine rs (v := .slice a10 x0.L.length q11) (ld rfl Try.isAgg45 (Ctx.cell hc (k := 0) rfl rfl rfl)) rfl ?_
   refine rs (v := .int .i64 ((x0.L.length : Nat) : Int)) (ln rfl Try.underlying45) rfl ?_
   refine rs (v := .bool (decide (j5 < ((x0.L.length : Nat) : Int)))) (lt' rfl rfl) rfl ?_
   refine rn ?_
   refine qn ?_
   cases hb16 : (decide (j5 < ((x0.L.length : Nat) : Int)))
   · replace hp := gneg hp (of_decide_eq_false hb16)
     refine Wcf rfl ?_
     refine Wexit ?_
     refine qx ?_
     refine qx ?_
     refine be ?_
     refine qn ?_
     refine Wseq ?_
     refine Wreg ?_
     refine rs (v := .pointer (some ⟨b0, 0, none⟩)) (mv (v := .pointer (some ⟨b0, 0, none⟩)) rfl) rfl ?_
     refine rs (v := .pointer (some ⟨b0, 0, none⟩)) (nl rfl) rfl ?_
     refine rs (v := .pointer (some ⟨b0, 7, none⟩)) (fax 7 rfl Try.underlying47 rfl Try.sizeOf45 rfl rfl rfl) rfl ?_
     refine rs (v := .slice a10 x0.L.length q11) (ld rfl Try.isAgg45 (Ctx.cell hc (k := 0) rfl rfl rfl)) rfl ?_
     refine rs (v := .int .i64 ((x0.L.length : Nat) : Int)) (ln rfl Try.underlying45) rfl ?_
     refine rs (v := .slice a2 j1.length q4) (mv (v := .slice a2 j1.length q4) rfl) rfl ?_
     refine rs (v := .int .i64 ((j1.length : Nat) : Int)) (ln rfl Try.underlying45) rfl ?_
     refine rs (v := .int .i64 (IntKind.i64.wrap (((x0.L.length : Nat) : Int) - ((j1.length : Nat) : Int)))) (sbw rfl rfl) rfl ?_
     replace hp := bind_some hp; obtain ⟨e17, he17, hp⟩ := hp
     injection he17 with he17
     refine rs (v := .int .i64 e17) (av (v := .int .i64 e17) (by rw [← he17]; rfl)) rfl ?_
     refine rn ?_
     refine qn ?_
     refine Wseq ?_
     refine Wreg ?_
     refine rs (v := .pointer (some ⟨b0, 0, none⟩)) (mv (v := .pointer (some ⟨b0, 0, none⟩)) rfl) rfl ?_
     refine rs (v := .slice a2 j1.length q4) (mv (v := .slice a2 j1.length q4) rfl) rfl ?_
     refine rs (v := .pointer (some ⟨b0, 0, none⟩)) (nl rfl) rfl ?_
     refine rs (v := .pointer (some ⟨b0, 7, none⟩)) (fax 7 rfl Try.underlying47 rfl Try.sizeOf45 rfl rfl rfl) rfl ?_
     refine ruE (A := fun w' => Ctx w' (B b0 [.int .i64 x0.S.Layers, .int .i64 x0.S.Width, .int .i64 x0.S.Heads, .int .i64 x0.S.Inner, .int .i64 x0.S.Vocab, .int .i64 x0.S.Places, .int .i64 x0.Room, .slice a2 j1.length q4, .slice a13 x0.Ids.length q14] 47 :: Own S_api_Request.pr 24 (.slice a10 x0.L.length q11) x0.L :: Own (pInt .i64) 3 (.slice a13 x0.Ids.length q14) x0.Ids :: Own S_api_Request.pr 24 (.slice a2 j1.length q4) j1 :: Fr)) (Ctx.putOp hc (k := 0) rfl rfl (v := .slice a2 j1.length q4) rfl rfl rfl Try.sizeOf45 rfl rfl rfl) rfl ?_
     clear hc; rintro w18 hc
     refine rn ?_
     refine qn ?_
     refine Wseq ?_
     refine Wreg ?_
     refine rs (v := .int .i64 e17) (mv (v := .int .i64 e17) rfl) rfl ?_
     refine rs (v := .int .i64 e17) (av (v := .int .i64 e17) rfl) rfl ?_
     refine rn ?_
     refine qn ?_
     refine Wret ?_
     replace hc := hc.pull 2 rfl rfl
     replace hc := hc.pull 3 rfl rfl
     replace hc := hc.pull 2 rfl rfl
     replace hc : Ctx w18 (S_ref21_Desk.hp b0 (⟨x0.S, x0.Room, j1, x0.Ids⟩ : S_ref21_Desk) :: Own S_api_Request.pr 24 (.slice a10 x0.L.length q11) x0.L :: Fr) := Ctx.exB _ _ (Ctx.exB _ _ (Ctx.sepB (Ctx.sepB hc)))
     replace hc := hc.rem 1 rfl rfl
     injection hp with hp; subst hp
     refine f1 (v := .int .i64 e17) Try.results20 Try.ntmps20 rfl ?_
     exact ⟨_, rfl, k _ hc⟩
   · replace hp := gpos hp (of_decide_eq_true hb16)
     refine Wct rfl ?_
     refine Wskip ?_
     refine qn ?_
     refine Wseqm [5, 17, 18, 19, 20, 21, 22, 23, 24, 25, 26, 27, 28, 29, 30, 31, 32, 33, 34, 35, 36] [5] (fun vs w' => ∃ j19 : (List S_api_Request), ∃ a20 : Option Addr, ∃ n21 : Nat, ∃ q22 : Nat, vs = [.slice a20 n21 q22] ∧ ref21_Desk_Cancel.J2 j5 (ref21_Desk_Cancel.L1 x0 x1 m1) j19 = some r ∧ Ctx w' (S_ref21_Desk.hp b0 x0 :: Own S_api_Request.pr 24 (.slice a20 n21 q22) j19 :: Fr)) ?_ ?_
     · refine Wblk ?_
       refine Wseq ?_
       refine Wreg ?_
       refine rs (v := .pointer (some ⟨b0, 0, none⟩)) (mv (v := .pointer (some ⟨b0, 0, none⟩)) rfl) rfl ?_
       refine rs (v := .pointer (some ⟨b0, 0, none⟩)) (nl rfl) rfl ?_
       refine rs (v := .pointer (some ⟨b0, 7, none⟩)) (fax 7 rfl Try.underlying47 rfl Try.sizeOf45 rfl rfl rfl) rfl ?_
       refine rs (v := .slice a10 x0.L.length q11) (ld rfl Try.isAgg45 (Ctx.cell hc (k := 0) rfl rfl rfl)) rfl ?_
       refine rs (v := .int .i64 j5) (mv (v := .int .i64 j5) rfl) rfl ?_
       replace hp := bind_some hp; obtain ⟨y23, hy23, hp⟩ := hp
       obtain ⟨b26, o27, u28, hi24, hi25⟩ := Ctx.rdAt hc (k := 1) rfl rfl reads_own hy23
       subst u28
       refine rs (v := .pointer (some ⟨b26, o27 + (j5).toNat * 3, none⟩)) (ixx rfl rfl Try.underlying45 Try.sizeOf24 hi24 hi25 rfl) rfl ?_
       refine rs (v := .pointer (some ⟨b26, o27 + (j5).toNat * 3 + 0, none⟩)) (fax 0 rfl Try.underlying24 rfl Try.sizeOf3 rfl rfl rfl) rfl ?_
       replace hc := Ctx.rdCell hc (k := 1) rfl rfl reads_own hy23; obtain ⟨cs29, hc, hcell30⟩ := hc
       replace hc := S_api_Request.op hc; obtain ⟨a32, q33, u31, hc⟩ := hc; subst u31
       refine rs (v := .int .i64 y23.ID) (ld rfl Try.isAgg3 (hcell30 0 _ rfl)) rfl ?_
       refine rs (v := .int .i64 x1) (mv (v := .int .i64 x1) rfl) rfl ?_
       refine rs (v := .bool (decide (y23.ID ≠ x1))) (ned rfl rfl) rfl ?_
       refine rn ?_
       refine qn ?_
       cases hb34 : (decide (y23.ID ≠ x1))
       · replace hp := gneg hp (of_decide_eq_false hb34)
         refine Wcf rfl ?_
         refine Wskip ?_
         refine bn ?_
         refine qn ?_
         replace hc := hc.pull 3 rfl rfl
         replace hc := hc.pull 3 rfl rfl
         replace hc := hc.pull 3 rfl rfl
         replace hc : Ctx w6 (S_ref21_Desk.hp b0 x0 :: Hold (pRo (pInt .i64)) [.slice a32 y23.Prompt.length q33] y23.Prompt :: Own S_api_Request.pr 24 (.slice a2 j1.length q4) j1 :: Fr) := Ctx.exB _ _ (Ctx.exB _ _ (Ctx.sepB (Ctx.sepB hc)))
         replace hc := hc.rem 1 rfl rfl
         exact ⟨⟨j1, a2, j1.length, q4, rfl, hp, hc⟩, (kl rfl kb)⟩
       · replace hp := gpos hp (of_decide_eq_true hb34)
         refine Wct rfl ?_
         refine Wreg ?_
         refine rs (v := .slice a2 j1.length q4) (mv (v := .slice a2 j1.length q4) rfl) rfl ?_
         refine rs (v := .pointer (some ⟨b0, 0, none⟩)) (mv (v := .pointer (some ⟨b0, 0, none⟩)) rfl) rfl ?_
         refine rs (v := .pointer (some ⟨b0, 0, none⟩)) (nl rfl) rfl ?_
         refine rs (v := .pointer (some ⟨b0, 7, none⟩)) (fax 7 rfl Try.underlying47 rfl Try.sizeOf45 rfl rfl rfl) rfl ?_
         refine rs (v := .slice (some ⟨b26, o27, none⟩) x0.L.length q11) (ld rfl Try.isAgg45 (Ctx.cell hc (k := 1) rfl rfl rfl)) rfl ?_
         refine rs (v := .int .i64 j5) (mv (v := .int .i64 j5) rfl) rfl ?_
         replace hp := bind_some hp; obtain ⟨y35, hy35, hp⟩ := hp
         obtain ⟨b38, o39, u40, hi36, hi37⟩ := Ctx.rdAt hc (k := 2) rfl rfl reads_own hy35
         clear u40
         refine rs (v := .pointer (some ⟨b26, o27 + (j5).toNat * 3, none⟩)) (ixx rfl rfl Try.underlying45 Try.sizeOf24 hi36 hi37 rfl) rfl ?_
         replace hc := Ctx.rdCell hc (k := 2) rfl rfl reads_own hy35; obtain ⟨cs41, hc, hcell42⟩ := hc
         replace hc := S_api_Request.op hc; obtain ⟨a44, q45, u43, hc⟩ := hc; subst u43
         refine rs (v := .agg #[.int .i64 y35.ID, .int .i64 y35.Most, .slice a44 y35.Prompt.length q45]) (ldg rfl Try.isAgg24 Try.sizeOf24 rfl (elCells hcell42 0 (vs := [.int .i64 y35.ID, .int .i64 y35.Most, .slice a44 y35.Prompt.length q45]) rfl)) rfl ?_
         replace hc := hc.dup (k := 0) rfl rfl
         replace hc : Ctx w6 (Hold S_api_Request.pr [.int .i64 y35.ID, .int .i64 y35.Most, .slice a44 y35.Prompt.length q45] y35 :: Hold (pRo (pInt .i64)) [.slice a44 y35.Prompt.length q45] y35.Prompt :: Hold (pRo (pInt .i64)) [.slice a32 y23.Prompt.length q33] y23.Prompt :: B b0 [.int .i64 x0.S.Layers, .int .i64 x0.S.Width, .int .i64 x0.S.Heads, .int .i64 x0.S.Inner, .int .i64 x0.S.Vocab, .int .i64 x0.S.Places, .int .i64 x0.Room, .slice (some ⟨b26, o27, none⟩) x0.L.length q11, .slice a13 x0.Ids.length q14] 47 :: Own S_api_Request.pr 24 (.slice (some ⟨b26, o27, none⟩) x0.L.length q11) x0.L :: Own (pInt .i64) 3 (.slice a13 x0.Ids.length q14) x0.Ids :: Own S_api_Request.pr 24 (.slice a2 j1.length q4) j1 :: Fr) := S_api_Request.cl hc
         refine rsE (Ctx.builtOp (css := [[.int .i64 y35.ID, .int .i64 y35.Most, .slice a44 y35.Prompt.length q45]]) (xs := ([y35] : List S_api_Request)) (E := S_api_Request.pr) hc Try.underlying45 Try.sizeOf24 Try.zeroValue24 rfl rfl rfl rfl rfl rfl rfl rfl) rfl ?_
         clear hc; rintro _ w47 ⟨a46, rfl, hc⟩
         replace hp := bind_some hp; obtain ⟨z48, hz48, hp⟩ := hp
         obtain ⟨hg49, e50⟩ := app_some hz48
         refine rsE (Ctx.append hc (k := 6) rfl rfl (k2 := 0) rfl rfl reads_own Try.underlying45 (i := Try.t24) rfl rfl rfl rfl rfl rfl rfl rfl hg49) rfl ?_
         clear hc; rintro _ w53 ⟨a51, q52, rfl, hc⟩
         rw [← e50] at hc ⊢
         refine rs (v := .slice a51 z48.length q52) (av (v := .slice a51 z48.length q52) rfl) rfl ?_
         refine rn ?_
         refine bn ?_
         refine qn ?_
         replace hc := hc.pull 5 rfl rfl
         replace hc := hc.pull 5 rfl rfl
         replace hc := hc.pull 5 rfl rfl
         replace hc : Ctx w53 (S_ref21_Desk.hp b0 x0 :: Own S_api_Request.pr 24 (.slice a46 1 1) ([y35]) :: Hold (pRo (pInt .i64)) [.slice a44 y35.Prompt.length q45] y35.Prompt :: Hold (pRo (pInt .i64)) [.slice a32 y23.Prompt.length q33] y23.Prompt :: Own S_api_Request.pr 24 (.slice a51 z48.length q52) z48 :: Fr) := Ctx.exB _ _ (Ctx.exB _ _ (Ctx.sepB (Ctx.sepB hc)))
         replace hc := hc.rem 3 rfl rfl
         replace hc := hc.rem 2 rfl rfl
         replace hc := hc.rem 1 rfl rfl
         exact ⟨⟨z48, a51, z48.length, q52, rfl, hp, hc⟩, (kl rfl kb)⟩
     · clear hp hc; intro vs u w54 hJ
       obtain ⟨j19, a20, n21, q22, rfl, hp, hc⟩ := hJ
       obtain ⟨u55, _⟩ := Ctx.rdLen hc (k := 1) rfl rfl reads_own; subst u55
       unfold ref21_Desk_Cancel.J2 at hp
       refine Wreg ?_
       refine rs (v := .int .i64 j5) (mv (v := .int .i64 j5) rfl) rfl ?_
       refine rs (v := .int .i64 (IntKind.i64.wrap (j5 + 1))) (adw rfl rfl) rfl ?_
       refine rs (v := .int .i64 (IntKind.i64.wrap (j5 + 1))) (av (v := .int .i64 (IntKind.i64.wrap (j5 + 1))) rfl) rfl ?_
       refine rn ?_
       refine qn ?_
       exact ⟨m1, Nat.lt_succ_self _, ⟨j19, (IntKind.i64.wrap (j5 + 1)), a20, j19.length, q22, rfl, hp, hc⟩, (kl rfl (km rfl (kl rfl k0)))⟩

end Go.Proofs.Ytglllajndogcmaa
