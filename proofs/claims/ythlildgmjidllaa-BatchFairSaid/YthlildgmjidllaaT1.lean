/- Functions of the program as plain functions, and the proofs that walks compute them. Printed by a program of this session. -/
import Derived.Test.YthlildgmjidllaaSl12
import Derived.Test.YthlildgmjidllaaProg
namespace Go.Proofs.Ythlildgmjidllaa
open Go Go.RowKit Go.Hp
set_option linter.unusedVariables false
set_option linter.unusedSimpArgs false
set_option maxRecDepth 100000

structure S_batch_Batch where
  width : Int
  row : (List Int)
  in_ : (List (Int × Bool))
  deriving DecidableEq

def S_batch_Batch.hp (b : Nat) (x : S_batch_Batch) : HP := Ex fun v1 : Value => Ex fun v2 : Nat => Sep (Sep (B b [.int .i64 x.width, v1, .map (some v2)] 52) (Own (pInt .i64) 3 v1 x.row)) (Mp (ekI .i64) (HV vf1 pBool) v2 x.in_)

def S_batch_Batch.vp : VP S_batch_Batch 3 := ⟨fun cs x => Ex fun v1 : Value => Ex fun v2 : Nat => Sep (Sep (Pu (cs = [.int .i64 x.width, v1, .map (some v2)] ∧ ([.int .i64 x.width, v1, .map (some v2)] : List Value).all (·.oneCell') = true)) (Own (pInt .i64) 3 v1 x.row)) (Mp (ekI .i64) (HV vf1 pBool) v2 x.in_),
  fun h => by obtain ⟨_, ⟨_, ⟨_, _, _, ⟨_, _, _, ⟨_, e, h1⟩, _⟩, _⟩⟩⟩ := h; rw [e]; rfl,
  fun h v hv => by obtain ⟨_, ⟨_, ⟨_, _, _, ⟨_, _, _, ⟨_, e, h1⟩, _⟩, _⟩⟩⟩ := h; rw [e] at hv; exact List.all_eq_true.1 h1 v hv⟩

structure S_ref22_Member where
  ID : Int
  In : Bool
  deriving DecidableEq

def S_ref22_Member.pr : PR S_ref22_Member 2 := pC (fun x => [.int .i64 x.ID, .bool x.In]) (fun _ => rfl) (fun _ => rfl)

structure S_ref22_Batch where
  Width : Int
  L : (List S_ref22_Member)
  deriving DecidableEq

def S_ref22_Batch.hp (b : Nat) (x : S_ref22_Batch) : HP := Ex fun v1 : Value => Sep (B b [.int .i64 x.Width, v1] 42) (Own S_ref22_Member.pr 57 v1 x.L)

def S_ref22_Batch.vp : VP S_ref22_Batch 2 := ⟨fun cs x => Ex fun v1 : Value => Sep (Pu (cs = [.int .i64 x.Width, v1] ∧ ([.int .i64 x.Width, v1] : List Value).all (·.oneCell') = true)) (Own S_ref22_Member.pr 57 v1 x.L),
  fun h => by obtain ⟨_, ⟨_, _, _, ⟨_, e, h1⟩, _⟩⟩ := h; rw [e]; rfl,
  fun h v hv => by obtain ⟨_, ⟨_, _, _, ⟨_, e, h1⟩, _⟩⟩ := h; rw [e] at hv; exact List.all_eq_true.1 h1 v hv⟩

structure S_law22_Act where
  Kind : Int
  N : Int
  Ids : (List Int)
  deriving DecidableEq

def S_law22_Act.pr : PR S_law22_Act 3 := pMap (fun x : S_law22_Act => (x.Kind, x.N, x.Ids)) (pSeq (pInt .i64) (pSeq (pInt .i64) (pRo (pInt .i64))))

theorem S_law22_Act.op {w : World} {l : List HP} {cs : List Value} {x : S_law22_Act} (h : Ctx w (Hold S_law22_Act.pr cs x :: l)) : ∃ a2 q2, cs = [.int .i64 x.Kind, .int .i64 x.N, .slice a2 x.Ids.length q2] ∧ Ctx w (Hold (pRo (pInt .i64)) [.slice a2 x.Ids.length q2] x.Ids :: l) := by
  obtain ⟨R, Ss, hc⟩ := h
  match Ss, hc with
  | S :: Ss, hc =>
    obtain ⟨⟨rfl, ⟨_, _, rfl, rfl, ⟨_, _, rfl, rfl, ⟨_, rfl, a2, q2, rfl, hc2, hr2⟩⟩⟩⟩, h3⟩ := hc.all
    exact ⟨a2, q2, rfl, R, [] :: Ss, ⟨⟨rfl, _, rfl, a2, q2, rfl, hc2, hr2⟩, h3⟩, by simpa using hc.nodup, by simpa using hc.own, hc.fz⟩
theorem S_law22_Act.cl {w : World} {l : List HP} {z0 : Int} {z1 : Int} {z2 : (List Int)} {v2 : Value} (h : Ctx w (Hold (pRo (pInt .i64)) [v2] z2 :: l)) : Ctx w (Hold S_law22_Act.pr [.int .i64 z0, .int .i64 z1, v2] (⟨z0, z1, z2⟩ : S_law22_Act) :: l) := by
  obtain ⟨R, Ss, hc⟩ := h
  match Ss, hc with
  | S2 :: Ss, hc =>
    obtain ⟨⟨rfl, _, e2, hr2⟩, h3⟩ := hc.all
    injection e2 with e2; subst e2
    exact ⟨R, [] :: Ss, ⟨⟨rfl, ⟨_, _, rfl, rfl, ⟨_, _, rfl, rfl, ⟨_, rfl, hr2⟩⟩⟩⟩, h3⟩, by simpa using hc.nodup, by simpa using hc.own, hc.fz⟩
  | [], hc => exact hc.all.elim

-- FN slices.Index[[]int,int]
def slices_Index_s_int_int.L1 (x0 : (List Int)) (x1 : Int) : Nat → Int → Option (Int)
  | 0, _ => none
  | m1 + 1, j1 =>
    if j1 < ((x0.length : Nat) : Int) then
      (idx x0 j1).bind fun y4 =>
      if x1 = y4 then
        some j1
      else
        (slices_Index_s_int_int.L1 x0 x1 m1) (IntKind.i64.wrap (j1 + 1))
    else
      some (-1)

def slices_Index_s_int_int (N : Nat) (x0 : (List Int)) (x1 : Int) : Option (Int) :=
  slices_Index_s_int_int.L1 x0 x1 N 0

set_option maxHeartbeats 8000000 in
theorem slices_Index_s_int_int_any {N : Nat} {x0 : (List Int)} {ax0 : Option Addr} {nx0 : Nat} {qx0 : Nat} {P0 : HP} {x1 : Int} {Fr : List HP} {w : World} {r : Int} {K : Value → World → Prop} (hrd0 : Reads P0 (pInt .i64) (.slice ax0 nx0 qx0) x0) (hc : Ctx w (P0 :: Fr)) (hp : slices_Index_s_int_int N x0 x1 = some r)
    (k : ∀ w', Ctx w' (P0 :: Fr) → K (.int .i64 r) w') : Calls Try.prog 30 #[.slice ax0 nx0 qx0, .int .i64 x1] w (Ret K) := by
 unfold slices_Index_s_int_int at hp
 refine Center (args := [.slice ax0 nx0 qx0, .int .i64 x1]) (l := [(0, .slice ax0 nx0 qx0), (1, .int .i64 x1)]) Try.func30 Try.ntmps30 rfl rfl rfl ?_
 obtain ⟨hn0, _⟩ := Ctx.rdLen hc (k := 0) rfl rfl hrd0; subst hn0
 refine Wseq ?_
 refine Wreg ?_
 refine rs (v := .int .i64 0) (av (v := .int .i64 0) rfl) rfl ?_
 refine rn ?_
 refine qn ?_
 refine Wseq ?_
 refine Wseq ?_
 refine Wreg ?_
 refine rs (v := .slice ax0 x0.length qx0) (mv (v := .slice ax0 x0.length qx0) rfl) rfl ?_
 refine rs (v := .int .i64 ((x0.length : Nat) : Int)) (ln rfl Try.underlying22) rfl ?_
 refine rs (v := .int .i64 0) (mv (v := .int .i64 0) rfl) rfl ?_
 refine rn ?_
 refine qn ?_
 refine Wblk ?_
 refine Wloop [4, 5, 8, 9, 10, 11, 12, 13, 14, 15, 16, 17, 18] [8] (fun m vs w' => ∃ j1 : Int, vs = [.int .i64 j1] ∧ slices_Index_s_int_int.L1 x0 x1 m j1 = some r ∧ Ctx w' (P0 :: Fr)) N ?_ ?_
 · exact ⟨0, rfl, hp, hc⟩
 · clear hp hc; intro m vs u w2 hJ
   obtain ⟨j1, rfl, hp, hc⟩ := hJ
   rcases m with _ | m1
   · cases (show none = some r from hp)
   rw [slices_Index_s_int_int.L1] at hp
   refine Wseq ?_
   refine Wreg ?_
   refine rs (v := .bool (decide (j1 < ((x0.length : Nat) : Int)))) (lt' rfl rfl) rfl ?_
   refine rn ?_
   refine qn ?_
   refine Wseq ?_
   cases hb3 : (decide (j1 < ((x0.length : Nat) : Int)))
   · replace hp := gneg hp (of_decide_eq_false hb3)
     refine Wcf rfl ?_
     refine Wexit ?_
     refine qx ?_
     refine qx ?_
     refine be ?_
     refine qn ?_
     refine Wseq ?_
     refine Wreg ?_
     refine rs (v := .int .i64 (-1)) (av (v := .int .i64 (-1)) rfl) rfl ?_
     refine rn ?_
     refine qn ?_
     refine Wret ?_
     injection hp with hp; subst hp
     refine f1 (v := .int .i64 (-1)) Try.results30 Try.ntmps30 rfl ?_
     exact ⟨_, rfl, k _ hc⟩
   · replace hp := gpos hp (of_decide_eq_true hb3)
     refine Wct rfl ?_
     refine Wskip ?_
     refine qn ?_
     refine Wseq ?_
     refine Wblk ?_
     refine Wseq ?_
     refine Wreg ?_
     refine rs (v := .int .i64 j1) (mv (v := .int .i64 j1) rfl) rfl ?_
     refine rs (v := .int .i64 j1) (av (v := .int .i64 j1) rfl) rfl ?_
     refine rn ?_
     refine qn ?_
     refine Wseq ?_
     refine Wreg ?_
     refine rs (v := .int .i64 x1) (mv (v := .int .i64 x1) rfl) rfl ?_
     refine rs (v := .slice ax0 x0.length qx0) (mv (v := .slice ax0 x0.length qx0) rfl) rfl ?_
     refine rs (v := .int .i64 j1) (mv (v := .int .i64 j1) rfl) rfl ?_
     replace hp := bind_some hp; obtain ⟨y4, hy4, hp⟩ := hp
     obtain ⟨b7, o8, u9, hi5, hi6⟩ := Ctx.rdAt hc (k := 0) rfl rfl hrd0 hy4
     subst u9
     refine rs (v := .pointer (some ⟨b7, o8 + (j1).toNat * 1, none⟩)) (ixx rfl rfl Try.underlying22 Try.sizeOf3 hi5 hi6 rfl) rfl ?_
     replace hc := Ctx.rdCell hc (k := 0) rfl rfl hrd0 hy4; obtain ⟨cs10, hc, hcell11⟩ := hc
     replace hc := Ctx.holdC hc; obtain ⟨u12, hc⟩ := hc; subst u12
     refine rs (v := .int .i64 y4) (ld rfl Try.isAgg3 (hcell11 0 _ rfl)) rfl ?_
     refine rs (v := .bool (decide (x1 = y4))) (eqd rfl rfl) rfl ?_
     refine rn ?_
     refine qn ?_
     cases hb13 : (decide (x1 = y4))
     · replace hp := gneg hp (of_decide_eq_false hb13)
       refine Wcf rfl ?_
       refine Wskip ?_
       refine bn ?_
       refine qn ?_
       refine Wreg ?_
       refine rs (v := .int .i64 (IntKind.i64.wrap (j1 + 1))) (adw rfl rfl) rfl ?_
       refine rs (v := .int .i64 (IntKind.i64.wrap (j1 + 1))) (mv (v := .int .i64 (IntKind.i64.wrap (j1 + 1))) rfl) rfl ?_
       refine rn ?_
       refine qn ?_
       exact ⟨m1, Nat.lt_succ_self _, ⟨(IntKind.i64.wrap (j1 + 1)), rfl, hp, hc⟩, (kl rfl k0)⟩
     · replace hp := gpos hp (of_decide_eq_true hb13)
       refine Wct rfl ?_
       refine Wseq ?_
       refine Wreg ?_
       refine rs (v := .int .i64 j1) (mv (v := .int .i64 j1) rfl) rfl ?_
       refine rs (v := .int .i64 j1) (av (v := .int .i64 j1) rfl) rfl ?_
       refine rn ?_
       refine qn ?_
       refine Wret ?_
       refine br ?_
       refine qr ?_
       refine qr ?_
       refine br ?_
       refine qr ?_
       injection hp with hp; subst hp
       refine f1 (v := .int .i64 j1) Try.results30 Try.ntmps30 rfl ?_
       exact ⟨_, rfl, k _ hc⟩

-- FN slices.Contains[[]int,int]
def slices_Contains_s_int_int (N : Nat) (x0 : (List Int)) (x1 : Int) : Option (Bool) :=
  (slices_Index_s_int_int N x0 x1).bind fun r1 =>
  some (decide (r1 ≥ 0))

set_option maxHeartbeats 8000000 in
theorem slices_Contains_s_int_int_any {N : Nat} {x0 : (List Int)} {ax0 : Option Addr} {nx0 : Nat} {qx0 : Nat} {P0 : HP} {x1 : Int} {Fr : List HP} {w : World} {r : Bool} {K : Value → World → Prop} (hrd0 : Reads P0 (pInt .i64) (.slice ax0 nx0 qx0) x0) (hc : Ctx w (P0 :: Fr)) (hp : slices_Contains_s_int_int N x0 x1 = some r)
    (k : ∀ w', Ctx w' (P0 :: Fr) → K (.bool r) w') : Calls Try.prog 24 #[.slice ax0 nx0 qx0, .int .i64 x1] w (Ret K) := by
 unfold slices_Contains_s_int_int at hp
 refine Center (args := [.slice ax0 nx0 qx0, .int .i64 x1]) (l := [(0, .slice ax0 nx0 qx0), (1, .int .i64 x1)]) Try.func24 Try.ntmps24 rfl rfl rfl ?_
 obtain ⟨hn0, _⟩ := Ctx.rdLen hc (k := 0) rfl rfl hrd0; subst hn0
 refine Wseq ?_
 refine Wreg ?_
 refine rs (v := .bool false) (av (v := .bool false) rfl) rfl ?_
 refine rn ?_
 refine qn ?_
 refine Wseq ?_
 refine Wreg ?_
 refine rs (v := .slice ax0 x0.length qx0) (mv (v := .slice ax0 x0.length qx0) rfl) rfl ?_
 refine rs (v := .int .i64 x1) (mv (v := .int .i64 x1) rfl) rfl ?_
 replace hp := bind_some hp; obtain ⟨r1, hr1, hp⟩ := hp
 refine rc (cl Try.call30 rfl rfl) rfl ?_
 refine slices_Index_s_int_int_any hrd0 hc hr1 ?_
 clear hc; intro w2 hc
 refine rs (v := .bool (decide (r1 ≥ 0))) (ge' rfl rfl) rfl ?_
 refine rs (v := .bool (decide (r1 ≥ 0))) (av (v := .bool (decide (r1 ≥ 0))) rfl) rfl ?_
 refine rn ?_
 refine qn ?_
 refine Wret ?_
 injection hp with hp; subst hp
 refine f1 (v := .bool (decide (r1 ≥ 0))) Try.results24 Try.ntmps24 rfl ?_
 exact ⟨_, rfl, k _ hc⟩

-- FN slices.Clone[[]int,int]
def slices_Clone_s_int_int (x0 : (List Int)) : Option ((List Int)) :=
  (app ([]) x0).bind fun z3 =>
  some z3

set_option maxHeartbeats 8000000 in
theorem slices_Clone_s_int_int_any {x0 : (List Int)} {ax0 : Option Addr} {nx0 : Nat} {qx0 : Nat} {P0 : HP} {Fr : List HP} {w : World} {r : (List Int)} {K : Value → World → Prop} (hrd0 : Reads P0 (pInt .i64) (.slice ax0 nx0 qx0) x0) (hc : Ctx w (P0 :: Fr)) (hp : slices_Clone_s_int_int x0 = some r)
    (k : ∀ (a9 : Option Addr) (n10 : Nat) (q11 : Nat) w', Ctx w' (Own (pInt .i64) 3 (.slice a9 n10 q11) r :: P0 :: Fr) → K (.slice a9 n10 q11) w') : Calls Try.prog 27 #[.slice ax0 nx0 qx0] w (Ret K) := by
 unfold slices_Clone_s_int_int at hp
 refine Center (args := [.slice ax0 nx0 qx0]) (l := [(0, .slice ax0 nx0 qx0)]) Try.func27 Try.ntmps27 rfl rfl rfl ?_
 obtain ⟨hn0, _⟩ := Ctx.rdLen hc (k := 0) rfl rfl hrd0; subst hn0
 rcases ax0 with _ | ax0
 · have hx := Ctx.nilRows hc (k := 0) rfl rfl hrd0; subst hx
   replace hp := bind_some hp; obtain ⟨z, hz, hp⟩ := hp
   injection hp with hp; subst hp; obtain ⟨_, hz⟩ := app_some hz; subst hz
   refine Wseq ?_
   refine Wreg ?_
   refine rs (v := .slice none 0 0) (av (v := .slice none 0 0) rfl) rfl ?_
   refine rn ?_
   refine qn ?_
   refine Wseq ?_
   refine Wseq ?_
   refine Wreg ?_
   refine rs (v := .slice none (([] : List Int).length) qx0) (mv (v := .slice none (([] : List Int).length) qx0) rfl) rfl ?_
   refine rs (v := .bool true) (esnT Try.underlying22 rfl rfl) rfl ?_
   refine rn ?_
   refine qn ?_
   refine Wct rfl ?_
   refine Wseq ?_
   refine Wreg ?_
   refine rs (v := .slice none 0 0) (av (v := .slice none 0 0) rfl) rfl ?_
   refine rn ?_
   refine qn ?_
   refine Wret ?_
   refine qr ?_
   replace hc := hc.nilOwn (pInt .i64) 3
   refine f1 (v := .slice none 0 0) Try.results27 Try.ntmps27 rfl ?_
   exact ⟨_, rfl, k _ _ _ _ hc⟩
 · refine Wseq ?_
   refine Wreg ?_
   refine rs (v := .slice none 0 0) (av (v := .slice none 0 0) rfl) rfl ?_
   refine rn ?_
   refine qn ?_
   refine Wseq ?_
   refine Wseq ?_
   refine Wreg ?_
   refine rs (v := .slice (some ax0) x0.length qx0) (mv (v := .slice (some ax0) x0.length qx0) rfl) rfl ?_
   refine rs (v := .bool false) (esnF Try.underlying22 rfl rfl) rfl ?_
   refine rn ?_
   refine qn ?_
   refine Wcf rfl ?_
   refine Wskip ?_
   refine qn ?_
   refine Wseq ?_
   refine Wreg ?_
   refine rsE (Ctx.builtOp (css := []) (xs := ([] : List Int)) (E := (pInt .i64)) hc Try.underlying22 Try.sizeOf3 Try.zeroValue3 rfl rfl rfl rfl rfl rfl rfl rfl) rfl ?_
   clear hc; rintro _ w2 ⟨a1, rfl, hc⟩
   refine rs (v := .slice (some ax0) x0.length qx0) (mv (v := .slice (some ax0) x0.length qx0) rfl) rfl ?_
   replace hp := bind_some hp; obtain ⟨z3, hz3, hp⟩ := hp
   obtain ⟨hg4, e5⟩ := app_some hz3
   refine rsE (Ctx.append hc (k := 0) rfl rfl (k2 := 1) rfl rfl hrd0 Try.underlying22 (i := Try.t3) rfl rfl rfl rfl rfl rfl rfl rfl hg4) rfl ?_
   clear hc; rintro _ w8 ⟨a6, q7, rfl, hc⟩
   rw [← e5] at hc ⊢
   refine rs (v := .slice a6 z3.length q7) (av (v := .slice a6 z3.length q7) rfl) rfl ?_
   refine rn ?_
   refine qn ?_
   refine Wret ?_
   injection hp with hp; subst hp
   refine f1 (v := .slice a6 z3.length q7) Try.results27 Try.ntmps27 rfl ?_
   exact ⟨_, rfl, k _ _ _ _ hc⟩

-- FN slices.IndexFunc[[]int,int]
def slices_IndexFunc_s_int_int.L1 (x0 : (List Int)) (x1 : (Int → Option Bool)) : Nat → Int → Option (Int)
  | 0, _ => none
  | m1 + 1, j1 =>
    if j1 < ((x0.length : Nat) : Int) then
      (idx x0 j1).bind fun y4 =>
      (x1 y4).bind fun r13 =>
      if r13 = true then
        some j1
      else
        (slices_IndexFunc_s_int_int.L1 x0 x1 m1) (IntKind.i64.wrap (j1 + 1))
    else
      some (-1)

def slices_IndexFunc_s_int_int (N : Nat) (x0 : (List Int)) (x1 : (Int → Option Bool)) : Option (Int) :=
  slices_IndexFunc_s_int_int.L1 x0 x1 N 0

set_option maxHeartbeats 8000000 in
theorem slices_IndexFunc_s_int_int_any {N : Nat} {x0 : (List Int)} {ax0 : Option Addr} {nx0 : Nat} {qx0 : Nat} {P0 : HP} {x1 : (Int → Option Bool)} {fid1 : FuncId} {cap1 : List Value} {Fr : List HP} {w : World} {r : Int} {K : Value → World → Prop} (hrd0 : Reads P0 (pInt .i64) (.slice ax0 nx0 qx0) x0) (hcl1 : ∀ a w, (callFunc fid1 a).run Try.prog w = .ok (.enter fid1 a) w) (hf1 : ∀ (y0 : Int) (Qs : List HP) (w : World) (r : Bool) (K : Value → World → Prop), Ctx w ((Qs ++ Fr)) → x1 y0 = some r → (∀ w', Ctx w' (Qs ++ Fr) → K (.bool r) w') → Calls Try.prog fid1 (([.int .i64 y0] : List Value) ++ cap1).toArray w (Ret K)) (hc : Ctx w (P0 :: Fr)) (hp : slices_IndexFunc_s_int_int N x0 x1 = some r)
    (k : ∀ w', Ctx w' (P0 :: Fr) → K (.int .i64 r) w') : Calls Try.prog 31 #[.slice ax0 nx0 qx0, .func (.func fid1) #[] cap1.toArray] w (Ret K) := by
 unfold slices_IndexFunc_s_int_int at hp
 refine Center (args := [.slice ax0 nx0 qx0, .func (.func fid1) #[] cap1.toArray]) (l := [(0, .slice ax0 nx0 qx0), (1, .func (.func fid1) #[] cap1.toArray)]) Try.func31 Try.ntmps31 rfl rfl rfl ?_
 obtain ⟨hn0, _⟩ := Ctx.rdLen hc (k := 0) rfl rfl hrd0; subst hn0
 refine Wseq ?_
 refine Wreg ?_
 refine rs (v := .int .i64 0) (av (v := .int .i64 0) rfl) rfl ?_
 refine rn ?_
 refine qn ?_
 refine Wseq ?_
 refine Wseq ?_
 refine Wreg ?_
 refine rs (v := .slice ax0 x0.length qx0) (mv (v := .slice ax0 x0.length qx0) rfl) rfl ?_
 refine rs (v := .int .i64 ((x0.length : Nat) : Int)) (ln rfl Try.underlying22) rfl ?_
 refine rs (v := .int .i64 0) (mv (v := .int .i64 0) rfl) rfl ?_
 refine rn ?_
 refine qn ?_
 refine Wblk ?_
 refine Wloop [4, 5, 8, 9, 10, 11, 12, 13, 14, 15, 16, 17, 18] [8] (fun m vs w' => ∃ j1 : Int, vs = [.int .i64 j1] ∧ slices_IndexFunc_s_int_int.L1 x0 x1 m j1 = some r ∧ Ctx w' (P0 :: Fr)) N ?_ ?_
 · exact ⟨0, rfl, hp, hc⟩
 · clear hp hc; intro m vs u w2 hJ
   obtain ⟨j1, rfl, hp, hc⟩ := hJ
   rcases m with _ | m1
   · cases (show none = some r from hp)
   rw [slices_IndexFunc_s_int_int.L1] at hp
   refine Wseq ?_
   refine Wreg ?_
   refine rs (v := .bool (decide (j1 < ((x0.length : Nat) : Int)))) (lt' rfl rfl) rfl ?_
   refine rn ?_
   refine qn ?_
   refine Wseq ?_
   cases hb3 : (decide (j1 < ((x0.length : Nat) : Int)))
   · replace hp := gneg hp (of_decide_eq_false hb3)
     refine Wcf rfl ?_
     refine Wexit ?_
     refine qx ?_
     refine qx ?_
     refine be ?_
     refine qn ?_
     refine Wseq ?_
     refine Wreg ?_
     refine rs (v := .int .i64 (-1)) (av (v := .int .i64 (-1)) rfl) rfl ?_
     refine rn ?_
     refine qn ?_
     refine Wret ?_
     injection hp with hp; subst hp
     refine f1 (v := .int .i64 (-1)) Try.results31 Try.ntmps31 rfl ?_
     exact ⟨_, rfl, k _ hc⟩
   · replace hp := gpos hp (of_decide_eq_true hb3)
     refine Wct rfl ?_
     refine Wskip ?_
     refine qn ?_
     refine Wseq ?_
     refine Wblk ?_
     refine Wseq ?_
     refine Wreg ?_
     refine rs (v := .int .i64 j1) (mv (v := .int .i64 j1) rfl) rfl ?_
     refine rs (v := .int .i64 j1) (av (v := .int .i64 j1) rfl) rfl ?_
     refine rn ?_
     refine qn ?_
     refine Wseq ?_
     refine Wreg ?_
     refine rs (v := .func (.func fid1) #[] cap1.toArray) (mv (v := .func (.func fid1) #[] cap1.toArray) rfl) rfl ?_
     refine rs (v := .slice ax0 x0.length qx0) (mv (v := .slice ax0 x0.length qx0) rfl) rfl ?_
     refine rs (v := .int .i64 j1) (mv (v := .int .i64 j1) rfl) rfl ?_
     replace hp := bind_some hp; obtain ⟨y4, hy4, hp⟩ := hp
     obtain ⟨b7, o8, u9, hi5, hi6⟩ := Ctx.rdAt hc (k := 0) rfl rfl hrd0 hy4
     subst u9
     refine rs (v := .pointer (some ⟨b7, o8 + (j1).toNat * 1, none⟩)) (ixx rfl rfl Try.underlying22 Try.sizeOf3 hi5 hi6 rfl) rfl ?_
     replace hc := Ctx.rdCell hc (k := 0) rfl rfl hrd0 hy4; obtain ⟨cs10, hc, hcell11⟩ := hc
     replace hc := Ctx.holdC hc; obtain ⟨u12, hc⟩ := hc; subst u12
     refine rs (v := .int .i64 y4) (ld rfl Try.isAgg3 (hcell11 0 _ rfl)) rfl ?_
     replace hp := bind_some hp; obtain ⟨r13, hr13, hp⟩ := hp
     refine rc (cv (fi := []) (ca := cap1) (vs := ([.int .i64 y4] : List Value) ++ cap1) hcl1 rfl rfl) rfl ?_
     refine hf1 _ [P0] _ _ _ hc hr13 ?_
     clear hc; intro w14 hc
     replace hc : Ctx w14 (P0 :: Fr) := hc
     refine rn ?_
     refine qn ?_
     cases hb15 : r13
     · replace hp := gneg hp (by rw [hb15]; exact Bool.false_ne_true)
       subst hb15
       refine Wcf rfl ?_
       refine Wskip ?_
       refine bn ?_
       refine qn ?_
       refine Wreg ?_
       refine rs (v := .int .i64 (IntKind.i64.wrap (j1 + 1))) (adw rfl rfl) rfl ?_
       refine rs (v := .int .i64 (IntKind.i64.wrap (j1 + 1))) (mv (v := .int .i64 (IntKind.i64.wrap (j1 + 1))) rfl) rfl ?_
       refine rn ?_
       refine qn ?_
       exact ⟨m1, Nat.lt_succ_self _, ⟨(IntKind.i64.wrap (j1 + 1)), rfl, hp, hc⟩, (kl rfl k0)⟩
     · replace hp := gpos hp hb15
       subst hb15
       refine Wct rfl ?_
       refine Wseq ?_
       refine Wreg ?_
       refine rs (v := .int .i64 j1) (mv (v := .int .i64 j1) rfl) rfl ?_
       refine rs (v := .int .i64 j1) (av (v := .int .i64 j1) rfl) rfl ?_
       refine rn ?_
       refine qn ?_
       refine Wret ?_
       refine br ?_
       refine qr ?_
       refine qr ?_
       refine br ?_
       refine qr ?_
       injection hp with hp; subst hp
       refine f1 (v := .int .i64 j1) Try.results31 Try.ntmps31 rfl ?_
       exact ⟨_, rfl, k _ hc⟩

-- FN slices.DeleteFunc[[]int,int]
def slices_DeleteFunc_s_int_int.J2 (j10 : Int) (k1 : (List Int) → Int → Int → Option ((List Int))) (j22 : (List Int)) (j26 : Int) : Option ((List Int)) :=
  k1 j22 j26 (IntKind.i64.wrap (j10 + 1))

def slices_DeleteFunc_s_int_int.J3 (j5 : (List Int)) (j9 : Int) (j10 : Int) (y27 : Int) (k1 : (List Int) → Int → Int → Option ((List Int))) (j36 : Bool) : Option ((List Int)) :=
  if j36 = true then
    (idx j5 j9).bind fun y42 =>
    slices_DeleteFunc_s_int_int.J2 j10 k1 (j5.set (j9).toNat y27) (IntKind.i64.wrap (j9 + 1))
  else
    slices_DeleteFunc_s_int_int.J2 j10 k1 j5 j9

def slices_DeleteFunc_s_int_int.L1 (x0 : (List Int)) (x1 : (Int → Option Bool)) : Nat → (List Int) → Int → Int → Option ((List Int))
  | 0, _, _, _ => none
  | m1 + 1, j5, j9, j10 =>
    if j10 < ((x0.length : Nat) : Int) then
      (idx j5 j10).bind fun y27 =>
      (x1 y27).bind fun r37 =>
      if r37 = true then
        slices_DeleteFunc_s_int_int.J3 j5 j9 j10 y27 (slices_DeleteFunc_s_int_int.L1 x0 x1 m1) false
      else
        slices_DeleteFunc_s_int_int.J3 j5 j9 j10 y27 (slices_DeleteFunc_s_int_int.L1 x0 x1 m1) true
    else
      chk (0 ≤ j9 ∧ j9 ≤ ((x0.length : Nat) : Int) ∧ ((x0.length : Nat) : Int) ≤ ((x0.length : Nat) : Int)) <|
      chk (0 ≤ j9 ∧ j9 ≤ ((x0.length : Nat) : Int)) <|
      some ((j5.take (j9).toNat ++ List.replicate (x0.length - (j9).toNat) 0).take (j9).toNat)

def slices_DeleteFunc_s_int_int (N : Nat) (x0 : (List Int)) (x1 : (Int → Option Bool)) : Option ((List Int)) :=
  (slices_IndexFunc_s_int_int N x0 x1).bind fun r2 =>
  if r2 = (-1) then
    some x0
  else
    slices_DeleteFunc_s_int_int.L1 x0 x1 N x0 r2 (IntKind.i64.wrap (r2 + 1))

set_option maxHeartbeats 8000000 in
theorem slices_DeleteFunc_s_int_int_any {N : Nat} {x0 : (List Int)} {ax0 : Option Addr} {nx0 : Nat} {qx0 : Nat} {x1 : (Int → Option Bool)} {fid1 : FuncId} {cap1 : List Value} {Fr : List HP} {w : World} {r : (List Int)} {K : Value → World → Prop} (hcl1 : ∀ a w, (callFunc fid1 a).run Try.prog w = .ok (.enter fid1 a) w) (hf1 : ∀ (y0 : Int) (Qs : List HP) (w : World) (r : Bool) (K : Value → World → Prop), Ctx w ((Qs ++ Fr)) → x1 y0 = some r → (∀ w', Ctx w' (Qs ++ Fr) → K (.bool r) w') → Calls Try.prog fid1 (([.int .i64 y0] : List Value) ++ cap1).toArray w (Ret K)) (hc : Ctx w (Own (pInt .i64) 3 (.slice ax0 nx0 qx0) x0 :: Fr)) (hp : slices_DeleteFunc_s_int_int N x0 x1 = some r)
    (k : ∀ (a50 : Option Addr) (n51 : Nat) (q52 : Nat) w', Ctx w' (Own (pInt .i64) 3 (.slice a50 n51 q52) r :: Fr) → K (.slice a50 n51 q52) w') : Calls Try.prog 25 #[.slice ax0 nx0 qx0, .func (.func fid1) #[] cap1.toArray] w (Ret K) := by
 unfold slices_DeleteFunc_s_int_int at hp
 refine Center (args := [.slice ax0 nx0 qx0, .func (.func fid1) #[] cap1.toArray]) (l := [(0, .slice ax0 nx0 qx0), (1, .func (.func fid1) #[] cap1.toArray)]) Try.func25 Try.ntmps25 rfl rfl rfl ?_
 obtain ⟨hn0, _⟩ := Ctx.rdLen hc (k := 0) rfl rfl reads_own; subst hn0
 refine Wseq ?_
 refine Wreg ?_
 refine rs (v := .slice none 0 0) (av (v := .slice none 0 0) rfl) rfl ?_
 refine rn ?_
 refine qn ?_
 refine Wseq ?_
 refine Wreg ?_
 refine rs (v := .slice ax0 x0.length qx0) (mv (v := .slice ax0 x0.length qx0) rfl) rfl ?_
 refine rs (v := .func (.func fid1) #[] cap1.toArray) (mv (v := .func (.func fid1) #[] cap1.toArray) rfl) rfl ?_
 have hf1 : ∀ (y0 : Int) (Qs : List HP) (w : World) (r : Bool) (K : Value → World → Prop), Ctx w ((Qs ++ (Fr))) → x1 y0 = some r → (∀ w', Ctx w' (Qs ++ (Fr)) → K (.bool r) w') → Calls Try.prog fid1 (([.int .i64 y0] : List Value) ++ cap1).toArray w (Ret K) := by
   intro z0 Qs w r K hc hp k
   refine hf1 z0 (Qs ++ []) w r K (by rw [List.append_assoc]; exact hc) hp (fun w' hc' => k w' (by rw [List.append_assoc] at hc'; exact hc'))
 replace hp := bind_some hp; obtain ⟨r2, hr2, hp⟩ := hp
 refine rc (cl Try.call31 rfl rfl) rfl ?_
 refine slices_IndexFunc_s_int_int_any reads_own hcl1 hf1 hc hr2 ?_
 clear hc; intro w3 hc
 refine rs (v := .int .i64 r2) (av (v := .int .i64 r2) rfl) rfl ?_
 refine rn ?_
 refine qn ?_
 refine Wseq ?_
 refine Wseq ?_
 refine Wreg ?_
 refine rs (v := .int .i64 r2) (mv (v := .int .i64 r2) rfl) rfl ?_
 refine rs (v := .bool (decide (r2 = (-1)))) (eqd rfl rfl) rfl ?_
 refine rn ?_
 refine qn ?_
 cases hb4 : (decide (r2 = (-1)))
 · replace hp := gneg hp (of_decide_eq_false hb4)
   refine Wcf rfl ?_
   refine Wskip ?_
   refine qn ?_
   refine Wseq ?_
   refine Wseq ?_
   refine Wreg ?_
   refine rs (v := .int .i64 r2) (mv (v := .int .i64 r2) rfl) rfl ?_
   refine rs (v := .int .i64 (IntKind.i64.wrap (r2 + 1))) (adw rfl rfl) rfl ?_
   refine rs (v := .int .i64 (IntKind.i64.wrap (r2 + 1))) (av (v := .int .i64 (IntKind.i64.wrap (r2 + 1))) rfl) rfl ?_
   refine rn ?_
   refine qn ?_
   refine Wblk ?_
   refine Wloop [5, 6, 7, 16, 17, 18, 19, 20, 21, 22, 23, 24, 25, 26, 27, 28, 29, 30, 31, 32, 33, 34, 35] [5, 6] (fun m vs w' => ∃ j5 : (List Int), ∃ j9 : Int, ∃ j10 : Int, vs = [.int .i64 j9, .int .i64 j10] ∧ slices_DeleteFunc_s_int_int.L1 x0 x1 m j5 j9 j10 = some r ∧ Ctx w' (Own (pInt .i64) 3 (.slice ax0 x0.length qx0) j5 :: Fr)) N ?_ ?_
   · exact ⟨x0, r2, (IntKind.i64.wrap (r2 + 1)), rfl, hp, hc⟩
   · clear hp hc; intro m vs u w11 hJ
     obtain ⟨j5, j9, j10, rfl, hp, hc⟩ := hJ
     rcases m with _ | m1
     · cases (show none = some r from hp)
     rw [slices_DeleteFunc_s_int_int.L1] at hp
     refine Wseq ?_
     refine Wseq ?_
     refine Wreg ?_
     refine rs (v := .int .i64 j10) (mv (v := .int .i64 j10) rfl) rfl ?_
     refine rs (v := .slice ax0 x0.length qx0) (mv (v := .slice ax0 x0.length qx0) rfl) rfl ?_
     refine rs (v := .int .i64 ((x0.length : Nat) : Int)) (ln rfl Try.underlying22) rfl ?_
     refine rs (v := .bool (decide (j10 < ((x0.length : Nat) : Int)))) (lt' rfl rfl) rfl ?_
     refine rn ?_
     refine qn ?_
     cases hb12 : (decide (j10 < ((x0.length : Nat) : Int)))
     · replace hp := gneg hp (of_decide_eq_false hb12)
       refine Wcf rfl ?_
       refine Wexit ?_
       refine qx ?_
       refine qx ?_
       refine be ?_
       refine qn ?_
       refine Wseq ?_
       refine Wreg ?_
       refine rs (v := .slice ax0 x0.length qx0) (mv (v := .slice ax0 x0.length qx0) rfl) rfl ?_
       refine rs (v := .int .i64 j9) (mv (v := .int .i64 j9) rfl) rfl ?_
       replace hp := chk_some hp; obtain ⟨hg13, hp⟩ := hp
       refine rsE (Ctx.subOp (li := some j9) (hi' := none) hc (k := 0) rfl rfl reads_own rfl ⟨_, rfl⟩ trivial Try.underlying22 Try.sizeOf3 hg13) rfl ?_
       rintro _ _ ⟨rfl, a14, q15, rfl, rd16, ea17, eq18⟩
       replace rd16 : Reads (Own (pInt .i64) 3 (.slice ax0 x0.length qx0) j5) (pInt .i64) (.slice a14 ((((x0.length : Nat) : Int)).toNat - (j9).toNat) q15) ((j5.take (((x0.length : Nat) : Int)).toNat).drop (j9).toNat) := rd16
       subst ea17 eq18
       refine rvE (Ctx.clearFrom (x0 := 0) hc (k := 0) rfl rfl Try.underlying22 Try.zeroValue3 rfl rfl (fun _ _ => rfl) (j9).toNat (by omega) rfl) rfl ?_
       clear hc; intro w19 hc
       refine rn ?_
       refine qn ?_
       refine Wseq ?_
       refine Wreg ?_
       refine rs (v := .slice ax0 x0.length qx0) (mv (v := .slice ax0 x0.length qx0) rfl) rfl ?_
       refine rs (v := .int .i64 j9) (mv (v := .int .i64 j9) rfl) rfl ?_
       replace hp := chk_some hp; obtain ⟨hg20, hp⟩ := hp
       refine rsE (Ctx.subOp0 (hv := j9) hc (k := 0) rfl rfl reads_own rfl ⟨_, rfl⟩ Try.underlying22 Try.sizeOf3 hg20) rfl ?_
       rintro _ _ ⟨rfl, rfl, rd21⟩
       refine rs (v := .slice ax0 ((j9).toNat) qx0) (av (v := .slice ax0 ((j9).toNat) qx0) rfl) rfl ?_
       refine rn ?_
       refine qn ?_
       refine Wret ?_
       replace hc := hc.ownTake (k := 0) rfl rfl (j9).toNat (by omega) rfl
       injection hp with hp; subst hp
       refine f1 (v := .slice ax0 ((j9).toNat) qx0) Try.results25 Try.ntmps25 rfl ?_
       exact ⟨_, rfl, k _ _ _ _ hc⟩
     · replace hp := gpos hp (of_decide_eq_true hb12)
       refine Wct rfl ?_
       refine Wskip ?_
       refine qn ?_
       refine Wseqm [5, 7, 22, 23, 24, 25, 26, 27, 28, 29, 30, 31, 32, 33, 34, 35] [5] (fun vs w' => ∃ j22 : (List Int), ∃ j26 : Int, vs = [.int .i64 j26] ∧ slices_DeleteFunc_s_int_int.J2 j10 (slices_DeleteFunc_s_int_int.L1 x0 x1 m1) j22 j26 = some r ∧ Ctx w' (Own (pInt .i64) 3 (.slice ax0 x0.length qx0) j22 :: Fr)) ?_ ?_
       · refine Wblk ?_
         refine Wseq ?_
         refine Wreg ?_
         refine rs (v := .slice ax0 x0.length qx0) (mv (v := .slice ax0 x0.length qx0) rfl) rfl ?_
         refine rs (v := .int .i64 j10) (mv (v := .int .i64 j10) rfl) rfl ?_
         replace hp := bind_some hp; obtain ⟨y27, hy27, hp⟩ := hp
         obtain ⟨b30, o31, u32, hi28, hi29⟩ := Ctx.rdAt hc (k := 0) rfl rfl reads_own hy27
         subst u32
         refine rs (v := .pointer (some ⟨b30, o31 + (j10).toNat * 1, none⟩)) (ixx rfl rfl Try.underlying22 Try.sizeOf3 hi28 hi29 rfl) rfl ?_
         replace hc := Ctx.rdCell hc (k := 0) rfl rfl reads_own hy27; obtain ⟨cs33, hc, hcell34⟩ := hc
         replace hc := Ctx.holdC hc; obtain ⟨u35, hc⟩ := hc; subst u35
         refine rs (v := .int .i64 y27) (ld rfl Try.isAgg3 (hcell34 0 _ rfl)) rfl ?_
         refine rs (v := .int .i64 y27) (av (v := .int .i64 y27) rfl) rfl ?_
         refine rn ?_
         refine qn ?_
         refine Wseqm [26, 27, 28, 29] [29] (fun vs w' => ∃ j36 : Bool, vs = [.bool j36] ∧ slices_DeleteFunc_s_int_int.J3 j5 j9 j10 y27 (slices_DeleteFunc_s_int_int.L1 x0 x1 m1) j36 = some r ∧ Ctx w' (Own (pInt .i64) 3 (.slice (some ⟨b30, o31, none⟩) x0.length qx0) j5 :: Fr)) ?_ ?_
         · refine Wreg ?_
           refine rs (v := .func (.func fid1) #[] cap1.toArray) (mv (v := .func (.func fid1) #[] cap1.toArray) rfl) rfl ?_
           refine rs (v := .int .i64 y27) (mv (v := .int .i64 y27) rfl) rfl ?_
           replace hp := bind_some hp; obtain ⟨r37, hr37, hp⟩ := hp
           refine rc (cv (fi := []) (ca := cap1) (vs := ([.int .i64 y27] : List Value) ++ cap1) hcl1 rfl rfl) rfl ?_
           refine hf1 _ [Own (pInt .i64) 3 (.slice (some ⟨b30, o31, none⟩) x0.length qx0) j5] _ _ _ hc hr37 ?_
           clear hc; intro w38 hc
           replace hc : Ctx w38 (Own (pInt .i64) 3 (.slice (some ⟨b30, o31, none⟩) x0.length qx0) j5 :: Fr) := hc
           cases hb39 : r37
           · replace hp := gneg hp (by rw [hb39]; exact Bool.false_ne_true)
             subst hb39
             refine rs (v := .bool true) (ntf rfl) rfl ?_
             refine rn ?_
             refine qn ?_
             exact ⟨⟨true, rfl, hp, hc⟩, (kl rfl kb)⟩
           · replace hp := gpos hp hb39
             subst hb39
             refine rs (v := .bool false) (ntt rfl) rfl ?_
             refine rn ?_
             refine qn ?_
             exact ⟨⟨false, rfl, hp, hc⟩, (kl rfl kb)⟩
         · clear hp hc; intro vs u w40 hJ
           obtain ⟨j36, rfl, hp, hc⟩ := hJ
           unfold slices_DeleteFunc_s_int_int.J3 at hp
           cases hb41 : j36
           · replace hp := gneg hp (by rw [hb41]; exact Bool.false_ne_true)
             subst hb41
             refine Wcf rfl ?_
             refine Wskip ?_
             refine bn ?_
             refine qn ?_
             exact ⟨⟨j5, j9, rfl, hp, hc⟩, (kl rfl (km rfl (kl rfl kb)))⟩
           · replace hp := gpos hp hb41
             subst hb41
             refine Wct rfl ?_
             refine Wseq ?_
             refine Wreg ?_
             refine rs (v := .slice (some ⟨b30, o31, none⟩) x0.length qx0) (mv (v := .slice (some ⟨b30, o31, none⟩) x0.length qx0) rfl) rfl ?_
             refine rs (v := .int .i64 j9) (mv (v := .int .i64 j9) rfl) rfl ?_
             refine rs (v := .int .i64 y27) (mv (v := .int .i64 y27) rfl) rfl ?_
             replace hp := bind_some hp; obtain ⟨y42, hy42, hp⟩ := hp
             obtain ⟨b45, o46, u47, hi43, hi44⟩ := Ctx.rdAt hc (k := 0) rfl rfl reads_own hy42
             clear u47
             refine rs (v := .pointer (some ⟨b30, o31 + (j9).toNat * 1, none⟩)) (ixx rfl rfl Try.underlying22 Try.sizeOf3 hi43 hi44 rfl) rfl ?_
             refine ruE (A := fun w' => Ctx w' (Own (pInt .i64) 3 (.slice (some ⟨b30, o31, none⟩) x0.length qx0) (j5.set (j9).toNat y27) :: Fr)) (Ctx.ownPutOp hc (k := 0) rfl rfl (z := y42) (z' := y27) hy42 0 rfl (u := .int .i64 y27) rfl rfl rfl Try.sizeOf3 (fun _ _ _ h => by cases h; rfl) rfl) rfl ?_
             clear hc; rintro w48 hc
             refine rn ?_
             refine qn ?_
             refine Wreg ?_
             refine rs (v := .int .i64 j9) (mv (v := .int .i64 j9) rfl) rfl ?_
             refine rs (v := .int .i64 (IntKind.i64.wrap (j9 + 1))) (adw rfl rfl) rfl ?_
             refine rs (v := .int .i64 (IntKind.i64.wrap (j9 + 1))) (av (v := .int .i64 (IntKind.i64.wrap (j9 + 1))) rfl) rfl ?_
             refine rn ?_
             refine bn ?_
             refine qn ?_
             exact ⟨⟨(j5.set (j9).toNat y27), (IntKind.i64.wrap (j9 + 1)), rfl, hp, hc⟩, (kl rfl (km rfl (kl rfl kb)))⟩
       · clear hp hc; intro vs u w49 hJ
         obtain ⟨j22, j26, rfl, hp, hc⟩ := hJ
         unfold slices_DeleteFunc_s_int_int.J2 at hp
         refine Wreg ?_
         refine rs (v := .int .i64 j10) (mv (v := .int .i64 j10) rfl) rfl ?_
         refine rs (v := .int .i64 (IntKind.i64.wrap (j10 + 1))) (adw rfl rfl) rfl ?_
         refine rs (v := .int .i64 (IntKind.i64.wrap (j10 + 1))) (av (v := .int .i64 (IntKind.i64.wrap (j10 + 1))) rfl) rfl ?_
         refine rn ?_
         refine qn ?_
         exact ⟨m1, Nat.lt_succ_self _, ⟨j22, j26, (IntKind.i64.wrap (j10 + 1)), rfl, hp, hc⟩, (kl rfl (km rfl (kl rfl k0)))⟩
 · replace hp := gpos hp (of_decide_eq_true hb4)
   refine Wct rfl ?_
   refine Wseq ?_
   refine Wreg ?_
   refine rs (v := .slice ax0 x0.length qx0) (mv (v := .slice ax0 x0.length qx0) rfl) rfl ?_
   refine rs (v := .slice ax0 x0.length qx0) (av (v := .slice ax0 x0.length qx0) rfl) rfl ?_
   refine rn ?_
   refine qn ?_
   refine Wret ?_
   refine qr ?_
   injection hp with hp; subst hp
   refine f1 (v := .slice ax0 x0.length qx0) Try.results25 Try.ntmps25 rfl ?_
   exact ⟨_, rfl, k _ _ _ _ hc⟩

-- FN (*peloton/batch.Batch).Room
def batch_Batch_Room (x0 : S_batch_Batch) : Option (Int) :=
  some (IntKind.i64.wrap (x0.width - ((x0.row.length : Nat) : Int)))

set_option maxHeartbeats 8000000 in
theorem batch_Batch_Room_any {b0 : Nat} {x0 : S_batch_Batch} {Fr : List HP} {w : World} {r : Int} {K : Value → World → Prop}  (hc : Ctx w (S_batch_Batch.hp b0 x0 :: Fr)) (hp : batch_Batch_Room x0 = some r)
    (k : ∀ w', Ctx w' (S_batch_Batch.hp b0 x0 :: Fr) → K (.int .i64 r) w') : Calls Try.prog 16 #[.pointer (some ⟨b0, 0, none⟩)] w (Ret K) := by
 unfold batch_Batch_Room at hp
 refine Center (args := [.pointer (some ⟨b0, 0, none⟩)]) (l := [(0, .pointer (some ⟨b0, 0, none⟩))]) Try.func16 Try.ntmps16 rfl rfl rfl ?_
 refine Wseq ?_
 refine Wreg ?_
 refine rs (v := .int .i64 0) (av (v := .int .i64 0) rfl) rfl ?_
 refine rn ?_
 refine qn ?_
 refine Wseq ?_
 replace hc := Ctx.exF hc; obtain ⟨v1, hc⟩ := hc
 replace hc := Ctx.exF hc; obtain ⟨v2, hc⟩ := hc
 replace hc := Ctx.sepF hc
 replace hc := Ctx.sepF hc
 obtain ⟨a3, q4, u5⟩ := hc.rd (k := 1) rfl rfl reads_own; subst u5
 replace hc := hc.drew
 refine Wdrw (fun _ w' => w' = World.drew w) [0, 1, 3, 7, 0, 16, 48, 112, 240, 511, 1023] 0 0 rfl (by kernel_rfl) (fun _ _ => rfl) ?_
 generalize hw : World.drew w = w6 at *
 clear hw
 refine ds (v := .pointer (some ⟨b0, 0, none⟩)) rfl (fun w' hF => by subst hF; exact mv (v := .pointer (some ⟨b0, 0, none⟩)) rfl) rfl ?_
 refine ds (v := .pointer (some ⟨b0, 0, none⟩)) rfl (fun w' hF => by subst hF; exact nl rfl) rfl ?_
 refine ds (v := .pointer (some ⟨b0, 0, none⟩)) rfl (fun w' hF => by subst hF; exact fax 0 rfl Try.underlying52 rfl Try.sizeOf3 rfl rfl rfl) rfl ?_
 refine ds (v := .int .i64 x0.width) rfl (fun w' hF => by subst hF; exact ld rfl Try.isAgg3 (Ctx.cell hc (k := 0) rfl rfl rfl)) rfl ?_
 refine ds (v := .pointer (some ⟨b0, 0, none⟩)) rfl (fun w' hF => by subst hF; exact mv (v := .pointer (some ⟨b0, 0, none⟩)) rfl) rfl ?_
 refine ds (v := .pointer (some ⟨b0, 0, none⟩)) rfl (fun w' hF => by subst hF; exact nl rfl) rfl ?_
 refine ds (v := .pointer (some ⟨b0, 1, none⟩)) rfl (fun w' hF => by subst hF; exact fax 1 rfl Try.underlying52 rfl Try.sizeOf22 rfl rfl rfl) rfl ?_
 refine ds (v := .slice a3 x0.row.length q4) rfl (fun w' hF => by subst hF; exact ld rfl Try.isAgg22 (Ctx.cell hc (k := 0) rfl rfl rfl)) rfl ?_
 refine ds (v := .int .i64 ((x0.row.length : Nat) : Int)) rfl (fun w' hF => by subst hF; exact ln rfl Try.underlying22) rfl ?_
 refine ds (v := .int .i64 (IntKind.i64.wrap (x0.width - ((x0.row.length : Nat) : Int)))) rfl (fun w' hF => by subst hF; exact sbw rfl rfl) rfl ?_
 refine ds (v := .int .i64 (IntKind.i64.wrap (x0.width - ((x0.row.length : Nat) : Int)))) rfl (fun w' hF => av (v := .int .i64 (IntKind.i64.wrap (x0.width - ((x0.row.length : Nat) : Int)))) rfl) rfl ?_
 refine dn ?_
 refine qn ?_
 refine Wret ?_
 replace hc := hc.pull 2 rfl rfl
 replace hc := hc.pull 2 rfl rfl
 replace hc := hc.pull 2 rfl rfl
 replace hc : Ctx w6 (S_batch_Batch.hp b0 x0 :: Fr) := Ctx.exB _ _ (Ctx.exB _ _ (Ctx.sepB (Ctx.sepB hc)))
 injection hp with hp; subst hp
 refine f1 (v := .int .i64 (IntKind.i64.wrap (x0.width - ((x0.row.length : Nat) : Int)))) Try.results16 Try.ntmps16 rfl ?_
 exact ⟨_, rfl, k _ hc⟩

-- FN peloton/batch.New
theorem bd_52_0_2 {ρ : Operand → Value} {w : World} {dst : Option Nat} {ty : TypeId} {pos : String} {after : Array Edge} {g : Option (Nat × Bool)} {x0 x2 : Operand} {k0 : IntKind} {a0 : Int} {a2 : Option Nat} (h0 : ρ x0 = (.int k0 a0)) (h2 : ρ x2 = (.map a2)) :
    (execOp ρ ⟨dst, .build 52 #[(0, x0), (2, x2)], ty, pos, after, g⟩).run Try.prog w = .ok (.value (.agg #[(.int k0 a0), (.slice none 0 0), (.map a2)])) w := by
  simp [execOp, Instr.build, Instr.fill, Try.zeroValue52, Try.runUnderlying52, Try.sizeOf22, Try.sizeOf3, Try.sizeOf50, h0, h2, Value.cells]

def batch_New (x0 : Int) : Option ((Option S_batch_Batch) × Int) :=
  if x0 < 1 then
    some (none, 2)
  else
    if x0 > 256 then
      some (none, 2)
    else
      some ((some (⟨x0, [], []⟩ : S_batch_Batch)), 0)

set_option maxHeartbeats 8000000 in
theorem batch_New_any {x0 : Int} {Fr : List HP} {w : World} {r : (Option S_batch_Batch) × Int} {K : Value → World → Prop}  (hc : Ctx w (Fr)) (hp : batch_New x0 = some r)
    (k : ∀ (v8 : Value) w', Ctx w' (PtO S_batch_Batch.hp v8 r.1 :: Fr) → K (.tuple #[v8, .int .i64 r.2]) w') : Calls Try.prog 7 #[.int .i64 x0] w (Ret K) := by
 unfold batch_New at hp
 refine Center (args := [.int .i64 x0]) (l := [(0, .int .i64 x0)]) Try.func7 Try.ntmps7 rfl rfl rfl ?_
 refine Wseq ?_
 refine Wreg ?_
 refine rs (v := .pointer none) (av (v := .pointer none) rfl) rfl ?_
 refine rs (v := .int .i64 0) (av (v := .int .i64 0) rfl) rfl ?_
 refine rn ?_
 refine qn ?_
 refine Wseq ?_
 refine Wseq ?_
 refine Wreg ?_
 refine rs (v := .int .i64 x0) (mv (v := .int .i64 x0) rfl) rfl ?_
 refine rs (v := .bool (decide (x0 < 1))) (lt' rfl rfl) rfl ?_
 refine rs (v := .bool (decide (x0 < 1))) (mv (v := .bool (decide (x0 < 1))) rfl) rfl ?_
 cases hb1 : (decide (x0 < 1))
 · replace hp := gneg hp (of_decide_eq_false hb1)
   refine rs (v := .int .i64 x0) (mv (v := .int .i64 x0) rfl) rfl ?_
   refine rs (v := .bool (decide (x0 > 256))) (gt' rfl rfl) rfl ?_
   refine rs (v := .bool (decide (x0 > 256))) (pkf (v := .bool (decide (x0 > 256))) rfl rfl) rfl ?_
   refine rn ?_
   refine qn ?_
   cases hb2 : (decide (x0 > 256))
   · replace hp := gneg hp (of_decide_eq_false hb2)
     refine Wcf rfl ?_
     refine Wskip ?_
     refine qn ?_
     refine Wseq ?_
     refine Wreg ?_
     refine rs (v := .int .i64 x0) (mv (v := .int .i64 x0) rfl) rfl ?_
     refine rsE (Ctx.mpMake (ekI .i64) (HV vf1 pBool) hc) rfl ?_
     clear hc; rintro _ w4 ⟨b3, rfl, hc⟩
     refine rs (v := .agg #[.int .i64 x0, .slice none 0 0, .map (some b3)]) (bd_52_0_2 rfl rfl) rfl ?_
     refine rsE (Ctx.boxOp (cs := [.int .i64 x0, .slice none 0 0, .map (some b3)]) (v := .agg #[.int .i64 x0, .slice none 0 0, .map (some b3)]) hc rfl rfl) rfl ?_
     clear hc; rintro _ w7 ⟨b5, rfl, hc⟩
     refine rs (v := .pointer (some ⟨b5, 0, none⟩)) (av (v := .pointer (some ⟨b5, 0, none⟩)) rfl) rfl ?_
     refine rs (v := .int .i64 0) (av (v := .int .i64 0) rfl) rfl ?_
     refine rn ?_
     refine qn ?_
     refine Wret ?_
     replace hc := hc.nilOwn (pInt .i64) 3
     replace hc := hc.pull 2 rfl rfl
     replace hc := hc.pull 1 rfl rfl
     replace hc := hc.pull 2 rfl rfl
     replace hc : Ctx w7 (S_batch_Batch.hp b5 (⟨x0, [], []⟩ : S_batch_Batch) :: Fr) := Ctx.exB _ _ (Ctx.exB _ _ (Ctx.sepB (Ctx.sepB hc)))
     replace hc := Ctx.ptoSB S_batch_Batch.hp hc
     injection hp with hp; subst hp
     refine f2 (v := .pointer (some ⟨b5, 0, none⟩)) (u := .int .i64 0) Try.results7 Try.ntmps7 rfl rfl ?_
     exact ⟨_, rfl, k _ _ hc⟩
   · replace hp := gpos hp (of_decide_eq_true hb2)
     refine Wct rfl ?_
     refine Wseq ?_
     refine Wreg ?_
     refine rs (v := .pointer none) (av (v := .pointer none) rfl) rfl ?_
     refine rs (v := .int .i64 2) (av (v := .int .i64 2) rfl) rfl ?_
     refine rn ?_
     refine qn ?_
     refine Wret ?_
     refine qr ?_
     replace hc := Ctx.ptoNB S_batch_Batch.hp hc
     injection hp with hp; subst hp
     refine f2 (v := .pointer none) (u := .int .i64 2) Try.results7 Try.ntmps7 rfl rfl ?_
     exact ⟨_, rfl, k _ _ hc⟩
 · replace hp := gpos hp (of_decide_eq_true hb1)
   refine r0 rfl ?_
   refine r0 rfl ?_
   refine rs (v := .bool true) (pkt (v := .bool true) rfl rfl) rfl ?_
   refine rn ?_
   refine qn ?_
   refine Wct rfl ?_
   refine Wseq ?_
   refine Wreg ?_
   refine rs (v := .pointer none) (av (v := .pointer none) rfl) rfl ?_
   refine rs (v := .int .i64 2) (av (v := .int .i64 2) rfl) rfl ?_
   refine rn ?_
   refine qn ?_
   refine Wret ?_
   refine qr ?_
   replace hc := Ctx.ptoNB S_batch_Batch.hp hc
   injection hp with hp; subst hp
   refine f2 (v := .pointer none) (u := .int .i64 2) Try.results7 Try.ntmps7 rfl rfl ?_
   exact ⟨_, rfl, k _ _ hc⟩

-- FN (*peloton/batch.Batch).Add
def batch_Batch_Add.L1 (N : Nat) (x0 : S_batch_Batch) (x1 : (List Int)) : Nat → Int → Option (Int × S_batch_Batch)
  | 0, _ => none
  | m1 + 1, j1 =>
    if j1 < ((x1.length : Nat) : Int) then
      (idx x1 j1).bind fun y19 =>
      (slices_Contains_s_int_int N x0.row y19).bind fun r33 =>
      if r33 = true then
        some (210, x0)
      else
        chk (0 ≤ j1 ∧ j1 ≤ ((x1.length : Nat) : Int)) <|
        (slices_Contains_s_int_int N (x1.take (j1).toNat) y19).bind fun r38 =>
        if r38 = true then
          some (210, x0)
        else
          (batch_Batch_Add.L1 N x0 x1 m1) (IntKind.i64.wrap (j1 + 1))
    else
      (batch_Batch_Room x0).bind fun r4 =>
      if ((x1.length : Nat) : Int) > r4 then
        some (80, x0)
      else
        (app x0.row x1).bind fun z12 =>
        some (0, (⟨x0.width, z12, x0.in_⟩ : S_batch_Batch))

def batch_Batch_Add (N : Nat) (x0 : S_batch_Batch) (x1 : (List Int)) : Option (Int × S_batch_Batch) :=
  batch_Batch_Add.L1 N x0 x1 N 0

set_option maxHeartbeats 8000000 in
theorem batch_Batch_Add_any {N : Nat} {b0 : Nat} {x0 : S_batch_Batch} {x1 : (List Int)} {ax1 : Option Addr} {nx1 : Nat} {qx1 : Nat} {P1 : HP} {Fr : List HP} {w : World} {r : Int × S_batch_Batch} {K : Value → World → Prop} (hrd1 : Reads P1 (pInt .i64) (.slice ax1 nx1 qx1) x1) (hc : Ctx w (S_batch_Batch.hp b0 x0 :: P1 :: Fr)) (hp : batch_Batch_Add N x0 x1 = some r)
    (k : ∀ w', Ctx w' (S_batch_Batch.hp b0 r.2 :: P1 :: Fr) → K (.int .i64 r.1) w') : Calls Try.prog 8 #[.pointer (some ⟨b0, 0, none⟩), .slice ax1 nx1 qx1] w (Ret K) := by
 unfold batch_Batch_Add at hp
 refine Center (args := [.pointer (some ⟨b0, 0, none⟩), .slice ax1 nx1 qx1]) (l := [(0, .pointer (some ⟨b0, 0, none⟩)), (1, .slice ax1 nx1 qx1)]) Try.func8 Try.ntmps8 rfl rfl rfl ?_
 obtain ⟨hn1, _⟩ := Ctx.rdLen hc (k := 1) rfl rfl hrd1; subst hn1
 refine Wseq ?_
 refine Wreg ?_
 refine rs (v := .int .i64 0) (av (v := .int .i64 0) rfl) rfl ?_
 refine rn ?_
 refine qn ?_
 refine Wseq ?_
 refine Wseq ?_
 refine Wreg ?_
 refine rs (v := .slice ax1 x1.length qx1) (mv (v := .slice ax1 x1.length qx1) rfl) rfl ?_
 refine rs (v := .int .i64 ((x1.length : Nat) : Int)) (ln rfl Try.underlying22) rfl ?_
 refine rs (v := .int .i64 0) (mv (v := .int .i64 0) rfl) rfl ?_
 refine rn ?_
 refine qn ?_
 refine Wblk ?_
 refine Wloop [4, 5, 6, 9, 10, 11, 12, 13, 14, 15, 16, 17, 18, 19, 20, 21, 22, 23, 24, 25, 26, 27] [9] (fun m vs w' => ∃ j1 : Int, vs = [.int .i64 j1] ∧ batch_Batch_Add.L1 N x0 x1 m j1 = some r ∧ Ctx w' (S_batch_Batch.hp b0 x0 :: P1 :: Fr)) N ?_ ?_
 · exact ⟨0, rfl, hp, hc⟩
 · clear hp hc; intro m vs u w2 hJ
   obtain ⟨j1, rfl, hp, hc⟩ := hJ
   rcases m with _ | m1
   · cases (show none = some r from hp)
   rw [batch_Batch_Add.L1] at hp
   refine Wseq ?_
   refine Wreg ?_
   refine rs (v := .bool (decide (j1 < ((x1.length : Nat) : Int)))) (lt' rfl rfl) rfl ?_
   refine rn ?_
   refine qn ?_
   refine Wseq ?_
   cases hb3 : (decide (j1 < ((x1.length : Nat) : Int)))
   · replace hp := gneg hp (of_decide_eq_false hb3)
     refine Wcf rfl ?_
     refine Wexit ?_
     refine qx ?_
     refine qx ?_
     refine be ?_
     refine qn ?_
     refine Wseq ?_
     refine Wseq ?_
     refine Wreg ?_
     refine rs (v := .slice ax1 x1.length qx1) (mv (v := .slice ax1 x1.length qx1) rfl) rfl ?_
     refine rs (v := .int .i64 ((x1.length : Nat) : Int)) (ln rfl Try.underlying22) rfl ?_
     refine rs (v := .pointer (some ⟨b0, 0, none⟩)) (mv (v := .pointer (some ⟨b0, 0, none⟩)) rfl) rfl ?_
     replace hp := bind_some hp; obtain ⟨r4, hr4, hp⟩ := hp
     refine rc (cl Try.call16 rfl rfl) rfl ?_
     refine batch_Batch_Room_any hc hr4 ?_
     clear hc; intro w5 hc
     refine rs (v := .bool (decide (((x1.length : Nat) : Int) > r4))) (gt' rfl rfl) rfl ?_
     refine rn ?_
     refine qn ?_
     cases hb6 : (decide (((x1.length : Nat) : Int) > r4))
     · replace hp := gneg hp (of_decide_eq_false hb6)
       refine Wcf rfl ?_
       refine Wskip ?_
       refine qn ?_
       refine Wseq ?_
       refine Wreg ?_
       refine rs (v := .pointer (some ⟨b0, 0, none⟩)) (mv (v := .pointer (some ⟨b0, 0, none⟩)) rfl) rfl ?_
       refine rs (v := .pointer (some ⟨b0, 0, none⟩)) (mv (v := .pointer (some ⟨b0, 0, none⟩)) rfl) rfl ?_
       refine rs (v := .pointer (some ⟨b0, 0, none⟩)) (nl rfl) rfl ?_
       refine rs (v := .pointer (some ⟨b0, 1, none⟩)) (fax 1 rfl Try.underlying52 rfl Try.sizeOf22 rfl rfl rfl) rfl ?_
       replace hc := Ctx.exF hc; obtain ⟨v7, hc⟩ := hc
       replace hc := Ctx.exF hc; obtain ⟨v8, hc⟩ := hc
       replace hc := Ctx.sepF hc
       replace hc := Ctx.sepF hc
       obtain ⟨a9, q10, u11⟩ := hc.rd (k := 1) rfl rfl reads_own; subst u11
       refine rs (v := .slice a9 x0.row.length q10) (ld rfl Try.isAgg22 (Ctx.cell hc (k := 0) rfl rfl rfl)) rfl ?_
       refine rs (v := .slice ax1 x1.length qx1) (mv (v := .slice ax1 x1.length qx1) rfl) rfl ?_
       replace hp := bind_some hp; obtain ⟨z12, hz12, hp⟩ := hp
       obtain ⟨hg13, e14⟩ := app_some hz12
       refine rsE (Ctx.append hc (k := 1) rfl rfl (k2 := 3) rfl rfl hrd1 Try.underlying22 (i := Try.t3) rfl rfl rfl rfl rfl rfl rfl rfl hg13) rfl ?_
       clear hc; rintro _ w17 ⟨a15, q16, rfl, hc⟩
       rw [← e14] at hc ⊢
       refine rs (v := .pointer (some ⟨b0, 0, none⟩)) (nl rfl) rfl ?_
       refine rs (v := .pointer (some ⟨b0, 1, none⟩)) (fax 1 rfl Try.underlying52 rfl Try.sizeOf22 rfl rfl rfl) rfl ?_
       refine ruE (A := fun w' => Ctx w' (B b0 [.int .i64 x0.width, .slice a15 z12.length q16, .map (some v8)] 52 :: Own (pInt .i64) 3 (.slice a15 z12.length q16) z12 :: Mp (ekI .i64) (HV vf1 pBool) v8 x0.in_ :: P1 :: Fr)) (Ctx.putOp hc (k := 0) rfl rfl (v := .slice a15 z12.length q16) rfl rfl rfl Try.sizeOf22 rfl rfl rfl) rfl ?_
       clear hc; rintro w18 hc
       refine rn ?_
       refine qn ?_
       refine Wseq ?_
       refine Wreg ?_
       refine rs (v := .int .i64 0) (av (v := .int .i64 0) rfl) rfl ?_
       refine rn ?_
       refine qn ?_
       refine Wret ?_
       replace hc := hc.pull 2 rfl rfl
       replace hc := hc.pull 2 rfl rfl
       replace hc := hc.pull 2 rfl rfl
       replace hc : Ctx w18 (S_batch_Batch.hp b0 (⟨x0.width, z12, x0.in_⟩ : S_batch_Batch) :: P1 :: Fr) := Ctx.exB _ _ (Ctx.exB _ _ (Ctx.sepB (Ctx.sepB hc)))
       injection hp with hp; subst hp
       refine f1 (v := .int .i64 0) Try.results8 Try.ntmps8 rfl ?_
       exact ⟨_, rfl, k _ hc⟩
     · replace hp := gpos hp (of_decide_eq_true hb6)
       refine Wct rfl ?_
       refine Wseq ?_
       refine Wreg ?_
       refine rs (v := .int .i64 80) (av (v := .int .i64 80) rfl) rfl ?_
       refine rn ?_
       refine qn ?_
       refine Wret ?_
       refine qr ?_
       injection hp with hp; subst hp
       refine f1 (v := .int .i64 80) Try.results8 Try.ntmps8 rfl ?_
       exact ⟨_, rfl, k _ hc⟩
   · replace hp := gpos hp (of_decide_eq_true hb3)
     refine Wct rfl ?_
     refine Wskip ?_
     refine qn ?_
     refine Wseq ?_
     refine Wblk ?_
     refine Wseq ?_
     refine Wreg ?_
     refine rs (v := .int .i64 j1) (mv (v := .int .i64 j1) rfl) rfl ?_
     replace hp := bind_some hp; obtain ⟨y19, hy19, hp⟩ := hp
     obtain ⟨b22, o23, u24, hi20, hi21⟩ := Ctx.rdAt hc (k := 1) rfl rfl hrd1 hy19
     subst u24
     refine rs (v := .pointer (some ⟨b22, o23 + (j1).toNat * 1, none⟩)) (ixx rfl rfl Try.underlying22 Try.sizeOf3 hi20 hi21 rfl) rfl ?_
     replace hc := Ctx.rdCell hc (k := 1) rfl rfl hrd1 hy19; obtain ⟨cs25, hc, hcell26⟩ := hc
     replace hc := Ctx.holdC hc; obtain ⟨u27, hc⟩ := hc; subst u27
     refine rs (v := .int .i64 y19) (ld rfl Try.isAgg3 (hcell26 0 _ rfl)) rfl ?_
     refine rs (v := .int .i64 j1) (av (v := .int .i64 j1) rfl) rfl ?_
     refine rs (v := .int .i64 y19) (av (v := .int .i64 y19) rfl) rfl ?_
     refine rn ?_
     refine qn ?_
     refine Wseq ?_
     refine Wreg ?_
     refine rs (v := .pointer (some ⟨b0, 0, none⟩)) (mv (v := .pointer (some ⟨b0, 0, none⟩)) rfl) rfl ?_
     refine rs (v := .pointer (some ⟨b0, 0, none⟩)) (nl rfl) rfl ?_
     refine rs (v := .pointer (some ⟨b0, 1, none⟩)) (fax 1 rfl Try.underlying52 rfl Try.sizeOf22 rfl rfl rfl) rfl ?_
     replace hc := Ctx.exF hc; obtain ⟨v28, hc⟩ := hc
     replace hc := Ctx.exF hc; obtain ⟨v29, hc⟩ := hc
     replace hc := Ctx.sepF hc
     replace hc := Ctx.sepF hc
     obtain ⟨a30, q31, u32⟩ := hc.rd (k := 1) rfl rfl reads_own; subst u32
     refine rs (v := .slice a30 x0.row.length q31) (ld rfl Try.isAgg22 (Ctx.cell hc (k := 0) rfl rfl rfl)) rfl ?_
     refine rs (v := .int .i64 y19) (mv (v := .int .i64 y19) rfl) rfl ?_
     replace hp := bind_some hp; obtain ⟨r33, hr33, hp⟩ := hp
     replace hc := hc.pull 1 rfl rfl
     refine rc (cl Try.call24 rfl rfl) rfl ?_
     refine slices_Contains_s_int_int_any reads_own hc hr33 ?_
     clear hc; intro w34 hc
     refine rs (v := .bool r33) (mv (v := .bool r33) rfl) rfl ?_
     cases hb35 : r33
     · replace hp := gneg hp (by rw [hb35]; exact Bool.false_ne_true)
       subst hb35
       refine rs (v := .slice (some ⟨b22, o23, none⟩) x1.length qx1) (mv (v := .slice (some ⟨b22, o23, none⟩) x1.length qx1) rfl) rfl ?_
       refine rs (v := .int .i64 j1) (mv (v := .int .i64 j1) rfl) rfl ?_
       replace hp := chk_some hp; obtain ⟨hg36, hp⟩ := hp
       refine rsE (Ctx.subOp0 (hv := j1) hc (k := 3) rfl rfl hrd1 rfl ⟨_, rfl⟩ Try.underlying22 Try.sizeOf3 hg36) rfl ?_
       rintro _ _ ⟨rfl, rfl, rd37⟩
       refine rs (v := .int .i64 y19) (mv (v := .int .i64 y19) rfl) rfl ?_
       replace hp := bind_some hp; obtain ⟨r38, hr38, hp⟩ := hp
       replace hc := hc.pull 3 rfl rfl
       refine rc (cl Try.call24 rfl rfl) rfl ?_
       refine slices_Contains_s_int_int_any rd37 hc hr38 ?_
       clear hc; intro w39 hc
       refine rs (v := .bool r38) (pkf (v := .bool r38) rfl rfl) rfl ?_
       refine rn ?_
       refine qn ?_
       cases hb40 : r38
       · replace hp := gneg hp (by rw [hb40]; exact Bool.false_ne_true)
         subst hb40
         refine Wcf rfl ?_
         refine Wskip ?_
         refine bn ?_
         refine qn ?_
         refine Wreg ?_
         refine rs (v := .int .i64 (IntKind.i64.wrap (j1 + 1))) (adw rfl rfl) rfl ?_
         refine rs (v := .int .i64 (IntKind.i64.wrap (j1 + 1))) (mv (v := .int .i64 (IntKind.i64.wrap (j1 + 1))) rfl) rfl ?_
         refine rn ?_
         refine qn ?_
         replace hc := hc.pull 3 rfl rfl
         replace hc := hc.pull 2 rfl rfl
         replace hc := hc.pull 3 rfl rfl
         replace hc : Ctx w39 (S_batch_Batch.hp b0 x0 :: P1 :: Fr) := Ctx.exB _ _ (Ctx.exB _ _ (Ctx.sepB (Ctx.sepB hc)))
         exact ⟨m1, Nat.lt_succ_self _, ⟨(IntKind.i64.wrap (j1 + 1)), rfl, hp, hc⟩, (kl rfl k0)⟩
       · replace hp := gpos hp hb40
         subst hb40
         refine Wct rfl ?_
         refine Wseq ?_
         refine Wreg ?_
         refine rs (v := .int .i64 210) (av (v := .int .i64 210) rfl) rfl ?_
         refine rn ?_
         refine qn ?_
         refine Wret ?_
         refine br ?_
         refine qr ?_
         refine qr ?_
         refine br ?_
         refine qr ?_
         replace hc := hc.pull 3 rfl rfl
         replace hc := hc.pull 2 rfl rfl
         replace hc := hc.pull 3 rfl rfl
         replace hc : Ctx w39 (S_batch_Batch.hp b0 x0 :: P1 :: Fr) := Ctx.exB _ _ (Ctx.exB _ _ (Ctx.sepB (Ctx.sepB hc)))
         injection hp with hp; subst hp
         refine f1 (v := .int .i64 210) Try.results8 Try.ntmps8 rfl ?_
         exact ⟨_, rfl, k _ hc⟩
     · replace hp := gpos hp hb35
       subst hb35
       refine r0 rfl ?_
       refine r0 rfl ?_
       refine r0 rfl ?_
       refine r0 rfl ?_
       refine r0 rfl ?_
       refine rs (v := .bool true) (pkt (v := .bool true) rfl rfl) rfl ?_
       refine rn ?_
       refine qn ?_
       refine Wct rfl ?_
       refine Wseq ?_
       refine Wreg ?_
       refine rs (v := .int .i64 210) (av (v := .int .i64 210) rfl) rfl ?_
       refine rn ?_
       refine qn ?_
       refine Wret ?_
       refine br ?_
       refine qr ?_
       refine qr ?_
       refine br ?_
       refine qr ?_
       replace hc := hc.pull 2 rfl rfl
       replace hc := hc.pull 1 rfl rfl
       replace hc := hc.pull 2 rfl rfl
       replace hc : Ctx w34 (S_batch_Batch.hp b0 x0 :: P1 :: Fr) := Ctx.exB _ _ (Ctx.exB _ _ (Ctx.sepB (Ctx.sepB hc)))
       injection hp with hp; subst hp
       refine f1 (v := .int .i64 210) Try.results8 Try.ntmps8 rfl ?_
       exact ⟨_, rfl, k _ hc⟩

-- FN (*peloton/batch.Batch).Remove
def batch_Batch_Remove.L1 (x0 : S_batch_Batch) (x1 : (List Int)) : Nat → S_batch_Batch → Int → Option (Int × S_batch_Batch)
  | 0, _, _ => none
  | m1 + 1, j20, j21 =>
    if j21 < ((x1.length : Nat) : Int) then
      (idx x1 j21).bind fun y30 =>
      (batch_Batch_Remove.L1 x0 x1 m1) (⟨j20.width, j20.row, (mdel j20.in_ y30)⟩ : S_batch_Batch) (IntKind.i64.wrap (j21 + 1))
    else
      (some (IntKind.i64.wrap (((x0.row.length : Nat) : Int) - ((j20.row.length : Nat) : Int)))).bind fun e29 =>
      some (e29, j20)

def batch_Batch_Remove (N : Nat) (x0 : S_batch_Batch) (x1 : (List Int)) : Option (Int × S_batch_Batch) :=
  (slices_DeleteFunc_s_int_int N x0.row (fun (y10 : Int) =>
    (slices_Contains_s_int_int N x1 y10).bind fun r11 =>
    some r11)).bind fun r13 =>
  batch_Batch_Remove.L1 x0 x1 N (⟨x0.width, r13, x0.in_⟩ : S_batch_Batch) 0

set_option maxHeartbeats 8000000 in
theorem batch_Batch_Remove_any {N : Nat} {b0 : Nat} {x0 : S_batch_Batch} {x1 : (List Int)} {ax1 : Option Addr} {nx1 : Nat} {qx1 : Nat} {P1 : HP} {Fr : List HP} {w : World} {r : Int × S_batch_Batch} {K : Value → World → Prop} (hrd1 : Reads P1 (pInt .i64) (.slice ax1 nx1 qx1) x1) (hc : Ctx w (S_batch_Batch.hp b0 x0 :: P1 :: Fr)) (hp : batch_Batch_Remove N x0 x1 = some r)
    (k : ∀ w', Ctx w' (S_batch_Batch.hp b0 r.2 :: P1 :: Fr) → K (.int .i64 r.1) w') : Calls Try.prog 15 #[.pointer (some ⟨b0, 0, none⟩), .slice ax1 nx1 qx1] w (Ret K) := by
 unfold batch_Batch_Remove at hp
 refine Center (args := [.pointer (some ⟨b0, 0, none⟩), .slice ax1 nx1 qx1]) (l := [(0, .pointer (some ⟨b0, 0, none⟩)), (1, .slice ax1 nx1 qx1)]) Try.func15 Try.ntmps15 rfl rfl rfl ?_
 obtain ⟨hn1, _⟩ := Ctx.rdLen hc (k := 1) rfl rfl hrd1; subst hn1
 refine Wseq ?_
 refine Wreg ?_
 refine rsE (Ctx.boxOp (cs := [.slice ax1 x1.length qx1]) (v := .slice ax1 x1.length qx1) hc rfl rfl) rfl ?_
 clear hc; rintro _ w3 ⟨b1, rfl, hc⟩
 refine rs (v := .int .i64 0) (av (v := .int .i64 0) rfl) rfl ?_
 refine rn ?_
 refine qn ?_
 refine Wseq ?_
 refine Wreg ?_
 refine rs (v := .pointer (some ⟨b0, 0, none⟩)) (mv (v := .pointer (some ⟨b0, 0, none⟩)) rfl) rfl ?_
 refine rs (v := .pointer (some ⟨b0, 0, none⟩)) (nl rfl) rfl ?_
 refine rs (v := .pointer (some ⟨b0, 1, none⟩)) (fax 1 rfl Try.underlying52 rfl Try.sizeOf22 rfl rfl rfl) rfl ?_
 replace hc := hc.pull 1 rfl rfl
 replace hc := Ctx.exF hc; obtain ⟨v4, hc⟩ := hc
 replace hc := Ctx.exF hc; obtain ⟨v5, hc⟩ := hc
 replace hc := Ctx.sepF hc
 replace hc := Ctx.sepF hc
 obtain ⟨a6, q7, u8⟩ := hc.rd (k := 1) rfl rfl reads_own; subst u8
 refine rs (v := .slice a6 x0.row.length q7) (ld rfl Try.isAgg22 (Ctx.cell hc (k := 0) rfl rfl rfl)) rfl ?_
 refine rs (v := .int .i64 ((x0.row.length : Nat) : Int)) (ln rfl Try.underlying22) rfl ?_
 refine rs (v := .int .i64 ((x0.row.length : Nat) : Int)) (av (v := .int .i64 ((x0.row.length : Nat) : Int)) rfl) rfl ?_
 refine rn ?_
 refine qn ?_
 refine Wseq ?_
 refine Wreg ?_
 refine rs (v := .pointer (some ⟨b0, 0, none⟩)) (mv (v := .pointer (some ⟨b0, 0, none⟩)) rfl) rfl ?_
 refine rs (v := .pointer (some ⟨b0, 0, none⟩)) (mv (v := .pointer (some ⟨b0, 0, none⟩)) rfl) rfl ?_
 refine rs (v := .pointer (some ⟨b0, 0, none⟩)) (nl rfl) rfl ?_
 refine rs (v := .pointer (some ⟨b0, 1, none⟩)) (fax 1 rfl Try.underlying52 rfl Try.sizeOf22 rfl rfl rfl) rfl ?_
 refine rs (v := .slice a6 x0.row.length q7) (ld rfl Try.isAgg22 (Ctx.cell hc (k := 0) rfl rfl rfl)) rfl ?_
 refine rs (v := .func (.func 28) #[] #[.pointer (some ⟨b1, 0, none⟩)]) (mkf rfl rfl) rfl ?_
 replace hc := hc.pull 1 rfl rfl
 have hf9 : ∀ (y0 : Int) (Qs : List HP) (w : World) (r : Bool) (K : Value → World → Prop), Ctx w ((Qs ++ (B b0 [.int .i64 x0.width, .slice a6 x0.row.length q7, .map (some v5)] 52 :: Mp (ekI .i64) (HV vf1 pBool) v5 x0.in_ :: B b1 [.slice ax1 x1.length qx1] 22 :: P1 :: Fr))) → (fun (y10 : Int) =>
          (slices_Contains_s_int_int N x1 y10).bind fun r11 =>
          some r11) y0 = some r → (∀ w', Ctx w' (Qs ++ (B b0 [.int .i64 x0.width, .slice a6 x0.row.length q7, .map (some v5)] 52 :: Mp (ekI .i64) (HV vf1 pBool) v5 x0.in_ :: B b1 [.slice ax1 x1.length qx1] 22 :: P1 :: Fr)) → K (.bool r) w') → Calls Try.prog 28 (([.int .i64 y0] : List Value) ++ ([.pointer (some ⟨b1, 0, none⟩)] : List Value)).toArray w (Ret K) := by
  intro y10 Qs w r K hc hp k
  replace hc : Ctx w (B b0 [.int .i64 x0.width, .slice a6 x0.row.length q7, .map (some v5)] 52 :: Mp (ekI .i64) (HV vf1 pBool) v5 x0.in_ :: B b1 [.slice ax1 x1.length qx1] 22 :: P1 :: (Qs ++ Fr)) := Ctx.front (As := [B b0 [.int .i64 x0.width, .slice a6 x0.row.length q7, .map (some v5)] 52, Mp (ekI .i64) (HV vf1 pBool) v5 x0.in_, B b1 [.slice ax1 x1.length qx1] 22, P1]) (Qs := Qs) hc
  refine Center (args := [.int .i64 y10, .pointer (some ⟨b1, 0, none⟩)]) (l := [(0, .int .i64 y10), (1, .pointer (some ⟨b1, 0, none⟩))]) Try.func28 Try.ntmps28 rfl rfl rfl ?_
  refine Wseq ?_
  refine Wreg ?_
  refine rs (v := .bool false) (av (v := .bool false) rfl) rfl ?_
  refine rn ?_
  refine qn ?_
  refine Wseq ?_
  refine Wreg ?_
  refine rs (v := .slice ax1 x1.length qx1) (ld rfl Try.isAgg22 (Ctx.cell hc (k := 2) rfl rfl rfl)) rfl ?_
  refine rs (v := .int .i64 y10) (mv (v := .int .i64 y10) rfl) rfl ?_
  replace hp := bind_some hp; obtain ⟨r11, hr11, hp⟩ := hp
  replace hc := hc.pull 3 rfl rfl
  refine rc (cl Try.call24 rfl rfl) rfl ?_
  refine slices_Contains_s_int_int_any hrd1 hc hr11 ?_
  clear hc; intro w12 hc
  refine rs (v := .bool r11) (av (v := .bool r11) rfl) rfl ?_
  refine rn ?_
  refine qn ?_
  refine Wret ?_
  replace hc := hc.pull 3 rfl rfl
  replace hc := hc.pull 3 rfl rfl
  replace hc := hc.pull 3 rfl rfl
  injection hp with hp; subst hp
  replace hc : Ctx w12 (Qs ++ (B b0 [.int .i64 x0.width, .slice a6 x0.row.length q7, .map (some v5)] 52 :: Mp (ekI .i64) (HV vf1 pBool) v5 x0.in_ :: B b1 [.slice ax1 x1.length qx1] 22 :: P1 :: Fr)) := Ctx.front (Qs := [B b0 [.int .i64 x0.width, .slice a6 x0.row.length q7, .map (some v5)] 52, Mp (ekI .i64) (HV vf1 pBool) v5 x0.in_, B b1 [.slice ax1 x1.length qx1] 22, P1]) (As := Qs) hc
  refine f1 (v := .bool r11) Try.results28 Try.ntmps28 rfl ?_
  exact ⟨_, rfl, k _ hc⟩
 replace hp := bind_some hp; obtain ⟨r13, hr13, hp⟩ := hp
 refine rc (cl Try.call25 rfl rfl) rfl ?_
 refine slices_DeleteFunc_s_int_int_any Try.call28 hf9 hc hr13 ?_
 clear hc; intro a14 n15 q16 w17 hc
 obtain ⟨u18, _⟩ := Ctx.rdLen hc (k := 0) rfl rfl reads_own; subst u18
 refine rs (v := .pointer (some ⟨b0, 0, none⟩)) (nl rfl) rfl ?_
 refine rs (v := .pointer (some ⟨b0, 1, none⟩)) (fax 1 rfl Try.underlying52 rfl Try.sizeOf22 rfl rfl rfl) rfl ?_
 refine ruE (A := fun w' => Ctx w' (Own (pInt .i64) 3 (.slice a14 r13.length q16) r13 :: B b0 [.int .i64 x0.width, .slice a14 r13.length q16, .map (some v5)] 52 :: Mp (ekI .i64) (HV vf1 pBool) v5 x0.in_ :: B b1 [.slice ax1 x1.length qx1] 22 :: P1 :: Fr)) (Ctx.putOp hc (k := 1) rfl rfl (v := .slice a14 r13.length q16) rfl rfl rfl Try.sizeOf22 rfl rfl rfl) rfl ?_
 clear hc; rintro w19 hc
 refine rn ?_
 refine qn ?_
 refine Wseq ?_
 refine Wseq ?_
 refine Wreg ?_
 refine rs (v := .slice ax1 x1.length qx1) (ld rfl Try.isAgg22 (Ctx.cell hc (k := 3) rfl rfl rfl)) rfl ?_
 refine rs (v := .int .i64 ((x1.length : Nat) : Int)) (ln rfl Try.underlying22) rfl ?_
 refine rs (v := .int .i64 0) (mv (v := .int .i64 0) rfl) rfl ?_
 refine rn ?_
 refine qn ?_
 refine Wblk ?_
 replace hc := hc.pull 2 rfl rfl
 replace hc := hc.pull 1 rfl rfl
 replace hc := hc.pull 2 rfl rfl
 replace hc : Ctx w19 (S_batch_Batch.hp b0 (⟨x0.width, r13, x0.in_⟩ : S_batch_Batch) :: B b1 [.slice ax1 x1.length qx1] 22 :: P1 :: Fr) := Ctx.exB _ _ (Ctx.exB _ _ (Ctx.sepB (Ctx.sepB hc)))
 replace hc := hc.rem 1 rfl rfl
 refine Wloop [7, 24, 25, 26, 27, 28, 29, 30, 31, 32, 33] [24] (fun m vs w' => ∃ j20 : S_batch_Batch, ∃ j21 : Int, vs = [.int .i64 j21] ∧ batch_Batch_Remove.L1 x0 x1 m j20 j21 = some r ∧ Ctx w' (S_batch_Batch.hp b0 j20 :: P1 :: Fr)) N ?_ ?_
 · exact ⟨(⟨x0.width, r13, x0.in_⟩ : S_batch_Batch), 0, rfl, hp, hc⟩
 · clear hp hc; intro m vs u w22 hJ
   obtain ⟨j20, j21, rfl, hp, hc⟩ := hJ
   rcases m with _ | m1
   · cases (show none = some r from hp)
   rw [batch_Batch_Remove.L1] at hp
   refine Wseq ?_
   refine Wreg ?_
   refine rs (v := .bool (decide (j21 < ((x1.length : Nat) : Int)))) (lt' rfl rfl) rfl ?_
   refine rn ?_
   refine qn ?_
   refine Wseq ?_
   cases hb23 : (decide (j21 < ((x1.length : Nat) : Int)))
   · replace hp := gneg hp (of_decide_eq_false hb23)
     refine Wcf rfl ?_
     refine Wexit ?_
     refine qx ?_
     refine qx ?_
     refine be ?_
     refine qn ?_
     refine Wseq ?_
     refine Wreg ?_
     refine rs (v := .int .i64 ((x0.row.length : Nat) : Int)) (mv (v := .int .i64 ((x0.row.length : Nat) : Int)) rfl) rfl ?_
     refine rs (v := .pointer (some ⟨b0, 0, none⟩)) (mv (v := .pointer (some ⟨b0, 0, none⟩)) rfl) rfl ?_
     refine rs (v := .pointer (some ⟨b0, 0, none⟩)) (nl rfl) rfl ?_
     refine rs (v := .pointer (some ⟨b0, 1, none⟩)) (fax 1 rfl Try.underlying52 rfl Try.sizeOf22 rfl rfl rfl) rfl ?_
     replace hc := Ctx.exF hc; obtain ⟨v24, hc⟩ := hc
     replace hc := Ctx.exF hc; obtain ⟨v25, hc⟩ := hc
     replace hc := Ctx.sepF hc
     replace hc := Ctx.sepF hc
     obtain ⟨a26, q27, u28⟩ := hc.rd (k := 1) rfl rfl reads_own; subst u28
     refine rs (v := .slice a26 j20.row.length q27) (ld rfl Try.isAgg22 (Ctx.cell hc (k := 0) rfl rfl rfl)) rfl ?_
     refine rs (v := .int .i64 ((j20.row.length : Nat) : Int)) (ln rfl Try.underlying22) rfl ?_
     refine rs (v := .int .i64 (IntKind.i64.wrap (((x0.row.length : Nat) : Int) - ((j20.row.length : Nat) : Int)))) (sbw rfl rfl) rfl ?_
     replace hp := bind_some hp; obtain ⟨e29, he29, hp⟩ := hp
     injection he29 with he29
     refine rs (v := .int .i64 e29) (av (v := .int .i64 e29) (by rw [← he29]; rfl)) rfl ?_
     refine rn ?_
     refine qn ?_
     refine Wret ?_
     replace hc := hc.pull 2 rfl rfl
     replace hc := hc.pull 2 rfl rfl
     replace hc := hc.pull 2 rfl rfl
     replace hc : Ctx w22 (S_batch_Batch.hp b0 j20 :: P1 :: Fr) := Ctx.exB _ _ (Ctx.exB _ _ (Ctx.sepB (Ctx.sepB hc)))
     injection hp with hp; subst hp
     refine f1 (v := .int .i64 e29) Try.results15 Try.ntmps15 rfl ?_
     exact ⟨_, rfl, k _ hc⟩
   · replace hp := gpos hp (of_decide_eq_true hb23)
     refine Wct rfl ?_
     refine Wskip ?_
     refine qn ?_
     refine Wseq ?_
     refine Wblk ?_
     refine Wseq ?_
     refine Wreg ?_
     replace hp := bind_some hp; obtain ⟨y30, hy30, hp⟩ := hp
     obtain ⟨b33, o34, u35, hi31, hi32⟩ := Ctx.rdAt hc (k := 1) rfl rfl hrd1 hy30
     subst u35
     refine rs (v := .pointer (some ⟨b33, o34 + (j21).toNat * 1, none⟩)) (ixx rfl rfl Try.underlying22 Try.sizeOf3 hi31 hi32 rfl) rfl ?_
     replace hc := Ctx.rdCell hc (k := 1) rfl rfl hrd1 hy30; obtain ⟨cs36, hc, hcell37⟩ := hc
     replace hc := Ctx.holdC hc; obtain ⟨u38, hc⟩ := hc; subst u38
     refine rs (v := .int .i64 y30) (ld rfl Try.isAgg3 (hcell37 0 _ rfl)) rfl ?_
     refine rs (v := .int .i64 y30) (av (v := .int .i64 y30) rfl) rfl ?_
     refine rn ?_
     refine qn ?_
     refine Wreg ?_
     refine rs (v := .pointer (some ⟨b0, 0, none⟩)) (mv (v := .pointer (some ⟨b0, 0, none⟩)) rfl) rfl ?_
     refine rs (v := .pointer (some ⟨b0, 0, none⟩)) (nl rfl) rfl ?_
     refine rs (v := .pointer (some ⟨b0, 2, none⟩)) (fax 2 rfl Try.underlying52 rfl Try.sizeOf50 rfl rfl rfl) rfl ?_
     replace hc := Ctx.exF hc; obtain ⟨v39, hc⟩ := hc
     replace hc := Ctx.exF hc; obtain ⟨v40, hc⟩ := hc
     replace hc := Ctx.sepF hc
     replace hc := Ctx.sepF hc
     obtain ⟨a41, q42, u43⟩ := hc.rd (k := 1) rfl rfl reads_own; subst u43
     refine rs (v := .map (some v40)) (ld rfl Try.isAgg50 (Ctx.cell hc (k := 0) rfl rfl rfl)) rfl ?_
     refine rs (v := .int .i64 y30) (mv (v := .int .i64 y30) rfl) rfl ?_
     refine rvE (Ctx.mpDel (keyL_int Try.underlying3) hc (i := 2) rfl rfl Try.underlying50 rfl rfl) rfl ?_
     clear hc; intro w44 hc
     refine rn ?_
     refine bn ?_
     refine qn ?_
     refine Wreg ?_
     refine rs (v := .int .i64 (IntKind.i64.wrap (j21 + 1))) (adw rfl rfl) rfl ?_
     refine rs (v := .int .i64 (IntKind.i64.wrap (j21 + 1))) (mv (v := .int .i64 (IntKind.i64.wrap (j21 + 1))) rfl) rfl ?_
     refine rn ?_
     refine qn ?_
     replace hc := hc.pull 2 rfl rfl
     replace hc := hc.pull 2 rfl rfl
     replace hc := hc.pull 2 rfl rfl
     replace hc : Ctx w44 (S_batch_Batch.hp b0 (⟨j20.width, j20.row, (mdel j20.in_ y30)⟩ : S_batch_Batch) :: P1 :: Fr) := Ctx.exB _ _ (Ctx.exB _ _ (Ctx.sepB (Ctx.sepB hc)))
     exact ⟨m1, Nat.lt_succ_self _, ⟨(⟨j20.width, j20.row, (mdel j20.in_ y30)⟩ : S_batch_Batch), (IntKind.i64.wrap (j21 + 1)), rfl, hp, hc⟩, (kl rfl k0)⟩

-- FN (*peloton/batch.Batch).Pick
def batch_Batch_Pick.J2 (j15 : Int) (k1 : (List (Int × Bool)) → (List Int) → (List Int) → Int → Option ((List Int) × S_batch_Batch)) (j27 : (List (Int × Bool))) (j28 : (List Int)) (j32 : (List Int)) : Option ((List Int) × S_batch_Batch) :=
  k1 j27 j28 j32 (IntKind.i64.wrap (j15 + 1))

def batch_Batch_Pick.J3 (j6 : (List (Int × Bool))) (j7 : (List Int)) (j11 : (List Int)) (j15 : Int) (y36 : Int) (k1 : (List (Int × Bool)) → (List Int) → (List Int) → Int → Option ((List Int) × S_batch_Batch)) (j45 : Bool) : Option ((List Int) × S_batch_Batch) :=
  if j45 = true then
    (app j7 ([y36])).bind fun z60 =>
    batch_Batch_Pick.J2 j15 k1 (mset j6 y36 true) z60 j11
  else
    (app j11 ([y36])).bind fun z51 =>
    batch_Batch_Pick.J2 j15 k1 j6 j7 z51

def batch_Batch_Pick.L1 (x0 : S_batch_Batch) (x1 : Int) : Nat → (List (Int × Bool)) → (List Int) → (List Int) → Int → Option ((List Int) × S_batch_Batch)
  | 0, _, _, _, _ => none
  | m1 + 1, j6, j7, j11, j15 =>
    if j15 < ((x0.row.length : Nat) : Int) then
      (idx x0.row j15).bind fun y36 =>
      if ((mget j6 y36).getD false) = true then
        batch_Batch_Pick.J3 j6 j7 j11 j15 y36 (batch_Batch_Pick.L1 x0 x1 m1) false
      else
        batch_Batch_Pick.J3 j6 j7 j11 j15 y36 (batch_Batch_Pick.L1 x0 x1 m1) (decide (((j7.length : Nat) : Int) < x1))
    else
      (app j11 j7).bind fun z20 =>
      some (j7, (⟨x0.width, z20, j6⟩ : S_batch_Batch))

def batch_Batch_Pick (N : Nat) (x0 : S_batch_Batch) (x1 : Int) : Option ((List Int) × S_batch_Batch) :=
  batch_Batch_Pick.L1 x0 x1 N x0.in_ ([]) ([]) 0

set_option maxHeartbeats 8000000 in
theorem batch_Batch_Pick_any {N : Nat} {b0 : Nat} {x0 : S_batch_Batch} {x1 : Int} {Fr : List HP} {w : World} {r : (List Int) × S_batch_Batch} {K : Value → World → Prop}  (hc : Ctx w (S_batch_Batch.hp b0 x0 :: Fr)) (hp : batch_Batch_Pick N x0 x1 = some r)
    (k : ∀ (a69 : Option Addr) (n70 : Nat) (q71 : Nat) w', Ctx w' (Own (pInt .i64) 3 (.slice a69 n70 q71) r.1 :: S_batch_Batch.hp b0 r.2 :: Fr) → K (.slice a69 n70 q71) w') : Calls Try.prog 10 #[.pointer (some ⟨b0, 0, none⟩), .int .i64 x1] w (Ret K) := by
 unfold batch_Batch_Pick at hp
 refine Center (args := [.pointer (some ⟨b0, 0, none⟩), .int .i64 x1]) (l := [(0, .pointer (some ⟨b0, 0, none⟩)), (1, .int .i64 x1)]) Try.func10 Try.ntmps10 rfl rfl rfl ?_
 refine Wseq ?_
 refine Wreg ?_
 refine rs (v := .slice none 0 0) (av (v := .slice none 0 0) rfl) rfl ?_
 refine rn ?_
 refine qn ?_
 refine Wseq ?_
 refine Wreg ?_
 refine rs (v := .slice none 0 0) (av (v := .slice none 0 0) rfl) rfl ?_
 refine rs (v := .slice none 0 0) (av (v := .slice none 0 0) rfl) rfl ?_
 refine rn ?_
 refine qn ?_
 refine Wseq ?_
 refine Wseq ?_
 refine Wreg ?_
 refine rs (v := .pointer (some ⟨b0, 0, none⟩)) (mv (v := .pointer (some ⟨b0, 0, none⟩)) rfl) rfl ?_
 refine rs (v := .pointer (some ⟨b0, 0, none⟩)) (nl rfl) rfl ?_
 refine rs (v := .pointer (some ⟨b0, 1, none⟩)) (fax 1 rfl Try.underlying52 rfl Try.sizeOf22 rfl rfl rfl) rfl ?_
 replace hc := Ctx.exF hc; obtain ⟨v1, hc⟩ := hc
 replace hc := Ctx.exF hc; obtain ⟨v2, hc⟩ := hc
 replace hc := Ctx.sepF hc
 replace hc := Ctx.sepF hc
 obtain ⟨a3, q4, u5⟩ := hc.rd (k := 1) rfl rfl reads_own; subst u5
 refine rs (v := .slice a3 x0.row.length q4) (ld rfl Try.isAgg22 (Ctx.cell hc (k := 0) rfl rfl rfl)) rfl ?_
 refine rs (v := .int .i64 ((x0.row.length : Nat) : Int)) (ln rfl Try.underlying22) rfl ?_
 refine rs (v := .int .i64 0) (mv (v := .int .i64 0) rfl) rfl ?_
 refine rn ?_
 refine qn ?_
 refine Wblk ?_
 replace hc := hc.nilOwn (pInt .i64) 3
 replace hc := hc.nilOwn (pInt .i64) 3
 replace hc := hc.pull 1 rfl rfl
 replace hc := hc.pull 4 rfl rfl
 replace hc := hc.pull 4 rfl rfl
 replace hc := hc.pull 4 rfl rfl
 refine Wloop [5, 6, 8, 14, 15, 16, 17, 18, 19, 20, 21, 22, 23, 24, 25, 26, 27, 28, 29, 30, 31, 32, 33, 34, 35, 36, 37, 38, 39, 40, 41, 42, 43, 44] [5, 6, 14] (fun m vs w' => ∃ j6 : (List (Int × Bool)), ∃ j7 : (List Int), ∃ j11 : (List Int), ∃ j15 : Int, ∃ a8 : Option Addr, ∃ n9 : Nat, ∃ q10 : Nat, ∃ a12 : Option Addr, ∃ n13 : Nat, ∃ q14 : Nat, vs = [.slice a8 n9 q10, .slice a12 n13 q14, .int .i64 j15] ∧ batch_Batch_Pick.L1 x0 x1 m j6 j7 j11 j15 = some r ∧ Ctx w' (B b0 [.int .i64 x0.width, .slice a3 x0.row.length q4, .map (some v2)] 52 :: Own (pInt .i64) 3 (.slice a3 x0.row.length q4) x0.row :: Mp (ekI .i64) (HV vf1 pBool) v2 j6 :: Own (pInt .i64) 3 (.slice a8 n9 q10) j7 :: Own (pInt .i64) 3 (.slice a12 n13 q14) j11 :: Fr)) N ?_ ?_
 · exact ⟨x0.in_, [], [], 0, none, 0, 0, none, 0, 0, rfl, hp, hc⟩
 · clear hp hc; intro m vs u w16 hJ
   obtain ⟨j6, j7, j11, j15, a8, n9, q10, a12, n13, q14, rfl, hp, hc⟩ := hJ
   obtain ⟨u17, _⟩ := Ctx.rdLen hc (k := 3) rfl rfl reads_own; subst u17
   obtain ⟨u18, _⟩ := Ctx.rdLen hc (k := 4) rfl rfl reads_own; subst u18
   rcases m with _ | m1
   · cases (show none = some r from hp)
   rw [batch_Batch_Pick.L1] at hp
   refine Wseq ?_
   refine Wreg ?_
   refine rs (v := .bool (decide (j15 < ((x0.row.length : Nat) : Int)))) (lt' rfl rfl) rfl ?_
   refine rn ?_
   refine qn ?_
   refine Wseq ?_
   cases hb19 : (decide (j15 < ((x0.row.length : Nat) : Int)))
   · replace hp := gneg hp (of_decide_eq_false hb19)
     refine Wcf rfl ?_
     refine Wexit ?_
     refine qx ?_
     refine qx ?_
     refine be ?_
     refine qn ?_
     refine Wseq ?_
     refine Wreg ?_
     refine rs (v := .pointer (some ⟨b0, 0, none⟩)) (mv (v := .pointer (some ⟨b0, 0, none⟩)) rfl) rfl ?_
     refine rs (v := .slice a12 j11.length q14) (mv (v := .slice a12 j11.length q14) rfl) rfl ?_
     refine rs (v := .slice a8 j7.length q10) (mv (v := .slice a8 j7.length q10) rfl) rfl ?_
     replace hp := bind_some hp; obtain ⟨z20, hz20, hp⟩ := hp
     obtain ⟨hg21, e22⟩ := app_some hz20
     refine rsE (Ctx.append hc (k := 4) rfl rfl (k2 := 3) rfl rfl reads_own Try.underlying22 (i := Try.t3) rfl rfl rfl rfl rfl rfl rfl rfl hg21) rfl ?_
     clear hc; rintro _ w25 ⟨a23, q24, rfl, hc⟩
     rw [← e22] at hc ⊢
     refine rs (v := .pointer (some ⟨b0, 0, none⟩)) (nl rfl) rfl ?_
     refine rs (v := .pointer (some ⟨b0, 1, none⟩)) (fax 1 rfl Try.underlying52 rfl Try.sizeOf22 rfl rfl rfl) rfl ?_
     refine ruE (A := fun w' => Ctx w' (B b0 [.int .i64 x0.width, .slice a23 z20.length q24, .map (some v2)] 52 :: Own (pInt .i64) 3 (.slice a3 x0.row.length q4) x0.row :: Mp (ekI .i64) (HV vf1 pBool) v2 j6 :: Own (pInt .i64) 3 (.slice a8 j7.length q10) j7 :: Own (pInt .i64) 3 (.slice a23 z20.length q24) z20 :: Fr)) (Ctx.putOp hc (k := 0) rfl rfl (v := .slice a23 z20.length q24) rfl rfl rfl Try.sizeOf22 rfl rfl rfl) rfl ?_
     clear hc; rintro w26 hc
     refine rn ?_
     refine qn ?_
     refine Wseq ?_
     refine Wreg ?_
     refine rs (v := .slice a8 j7.length q10) (mv (v := .slice a8 j7.length q10) rfl) rfl ?_
     refine rs (v := .slice a8 j7.length q10) (av (v := .slice a8 j7.length q10) rfl) rfl ?_
     refine rn ?_
     refine qn ?_
     refine Wret ?_
     replace hc := hc.pull 2 rfl rfl
     replace hc := hc.pull 4 rfl rfl
     replace hc := hc.pull 2 rfl rfl
     replace hc : Ctx w26 (S_batch_Batch.hp b0 (⟨x0.width, z20, j6⟩ : S_batch_Batch) :: Own (pInt .i64) 3 (.slice a3 x0.row.length q4) x0.row :: Own (pInt .i64) 3 (.slice a8 j7.length q10) j7 :: Fr) := Ctx.exB _ _ (Ctx.exB _ _ (Ctx.sepB (Ctx.sepB hc)))
     replace hc := hc.rem 1 rfl rfl
     replace hc := hc.pull 1 rfl rfl
     injection hp with hp; subst hp
     refine f1 (v := .slice a8 j7.length q10) Try.results10 Try.ntmps10 rfl ?_
     exact ⟨_, rfl, k _ _ _ _ hc⟩
   · replace hp := gpos hp (of_decide_eq_true hb19)
     refine Wct rfl ?_
     refine Wskip ?_
     refine qn ?_
     refine Wseqm [5, 6, 8, 16, 17, 18, 19, 20, 21, 22, 23, 24, 25, 26, 27, 28, 29, 30, 31, 32, 33, 34, 35, 36, 37, 38, 39, 40, 41, 42, 43] [5, 6] (fun vs w' => ∃ j27 : (List (Int × Bool)), ∃ j28 : (List Int), ∃ j32 : (List Int), ∃ a29 : Option Addr, ∃ n30 : Nat, ∃ q31 : Nat, ∃ a33 : Option Addr, ∃ n34 : Nat, ∃ q35 : Nat, vs = [.slice a29 n30 q31, .slice a33 n34 q35] ∧ batch_Batch_Pick.J2 j15 (batch_Batch_Pick.L1 x0 x1 m1) j27 j28 j32 = some r ∧ Ctx w' (B b0 [.int .i64 x0.width, .slice a3 x0.row.length q4, .map (some v2)] 52 :: Own (pInt .i64) 3 (.slice a3 x0.row.length q4) x0.row :: Mp (ekI .i64) (HV vf1 pBool) v2 j27 :: Own (pInt .i64) 3 (.slice a29 n30 q31) j28 :: Own (pInt .i64) 3 (.slice a33 n34 q35) j32 :: Fr)) ?_ ?_
     · refine Wblk ?_
       refine Wseq ?_
       refine Wreg ?_
       replace hp := bind_some hp; obtain ⟨y36, hy36, hp⟩ := hp
       obtain ⟨b39, o40, u41, hi37, hi38⟩ := Ctx.rdAt hc (k := 1) rfl rfl reads_own hy36
       subst u41
       refine rs (v := .pointer (some ⟨b39, o40 + (j15).toNat * 1, none⟩)) (ixx rfl rfl Try.underlying22 Try.sizeOf3 hi37 hi38 rfl) rfl ?_
       replace hc := Ctx.rdCell hc (k := 1) rfl rfl reads_own hy36; obtain ⟨cs42, hc, hcell43⟩ := hc
       replace hc := Ctx.holdC hc; obtain ⟨u44, hc⟩ := hc; subst u44
       refine rs (v := .int .i64 y36) (ld rfl Try.isAgg3 (hcell43 0 _ rfl)) rfl ?_
       refine rs (v := .int .i64 y36) (av (v := .int .i64 y36) rfl) rfl ?_
       refine rn ?_
       refine qn ?_
       refine Wseqm [18, 19, 20, 21, 22, 23, 24, 25, 26, 27, 28, 29, 30] [30] (fun vs w' => ∃ j45 : Bool, vs = [.bool j45] ∧ batch_Batch_Pick.J3 j6 j7 j11 j15 y36 (batch_Batch_Pick.L1 x0 x1 m1) j45 = some r ∧ Ctx w' (B b0 [.int .i64 x0.width, .slice (some ⟨b39, o40, none⟩) x0.row.length q4, .map (some v2)] 52 :: Own (pInt .i64) 3 (.slice (some ⟨b39, o40, none⟩) x0.row.length q4) x0.row :: Mp (ekI .i64) (HV vf1 pBool) v2 j6 :: Own (pInt .i64) 3 (.slice a8 j7.length q10) j7 :: Own (pInt .i64) 3 (.slice a12 j11.length q14) j11 :: Fr)) ?_ ?_
       · refine Wreg ?_
         refine rs (v := .pointer (some ⟨b0, 0, none⟩)) (mv (v := .pointer (some ⟨b0, 0, none⟩)) rfl) rfl ?_
         refine rs (v := .pointer (some ⟨b0, 0, none⟩)) (nl rfl) rfl ?_
         refine rs (v := .pointer (some ⟨b0, 2, none⟩)) (fax 2 rfl Try.underlying52 rfl Try.sizeOf50 rfl rfl rfl) rfl ?_
         refine rs (v := .map (some v2)) (ld rfl Try.isAgg50 (Ctx.cell hc (k := 0) rfl rfl rfl)) rfl ?_
         refine rs (v := .int .i64 y36) (mv (v := .int .i64 y36) rfl) rfl ?_
         refine rs (v := .bool ((mget j6 y36).getD false)) (Ctx.mpGetC (f := fun x => [.bool x]) (fun _ _ _ _ h => h) (keyL_int Try.underlying3) hc (i := 2) rfl rfl Try.underlying50 rfl rfl Try.zeroValue4 rfl (fun _ _ => rfl) rfl) rfl ?_
         cases hb46 : ((mget j6 y36).getD false)
         · replace hp := gneg hp (by rw [hb46]; exact Bool.false_ne_true)
           refine rs (v := .bool true) (ntf rfl) rfl ?_
           refine rs (v := .bool true) (mv (v := .bool true) rfl) rfl ?_
           refine rs (v := .slice a8 j7.length q10) (mv (v := .slice a8 j7.length q10) rfl) rfl ?_
           refine rs (v := .int .i64 ((j7.length : Nat) : Int)) (ln rfl Try.underlying22) rfl ?_
           refine rs (v := .int .i64 x1) (mv (v := .int .i64 x1) rfl) rfl ?_
           refine rs (v := .bool (decide (((j7.length : Nat) : Int) < x1))) (lt' rfl rfl) rfl ?_
           refine rs (v := .bool (decide (((j7.length : Nat) : Int) < x1))) (pkt (v := .bool (decide (((j7.length : Nat) : Int) < x1))) rfl rfl) rfl ?_
           refine rn ?_
           refine qn ?_
           exact ⟨⟨decide (((j7.length : Nat) : Int) < x1), rfl, hp, hc⟩, (kl rfl kb)⟩
         · replace hp := gpos hp hb46
           refine rs (v := .bool false) (ntt rfl) rfl ?_
           refine rs (v := .bool false) (mv (v := .bool false) rfl) rfl ?_
           refine r0 rfl ?_
           refine r0 rfl ?_
           refine r0 rfl ?_
           refine r0 rfl ?_
           refine rs (v := .bool false) (pkf (v := .bool false) rfl rfl) rfl ?_
           refine rn ?_
           refine qn ?_
           exact ⟨⟨false, rfl, hp, hc⟩, (kl rfl kb)⟩
       · clear hp hc; intro vs u w47 hJ
         obtain ⟨j45, rfl, hp, hc⟩ := hJ
         unfold batch_Batch_Pick.J3 at hp
         cases hb48 : j45
         · replace hp := gneg hp (by rw [hb48]; exact Bool.false_ne_true)
           subst hb48
           refine Wcf rfl ?_
           refine Wreg ?_
           refine rs (v := .slice a12 j11.length q14) (mv (v := .slice a12 j11.length q14) rfl) rfl ?_
           refine rs (v := .int .i64 y36) (mv (v := .int .i64 y36) rfl) rfl ?_
           replace hc : Ctx w47 (Hold (pInt .i64) [.int .i64 y36] y36 :: B b0 [.int .i64 x0.width, .slice (some ⟨b39, o40, none⟩) x0.row.length q4, .map (some v2)] 52 :: Own (pInt .i64) 3 (.slice (some ⟨b39, o40, none⟩) x0.row.length q4) x0.row :: Mp (ekI .i64) (HV vf1 pBool) v2 j6 :: Own (pInt .i64) 3 (.slice a8 j7.length q10) j7 :: Own (pInt .i64) 3 (.slice a12 j11.length q14) j11 :: Fr) := hc.add _ fun _ _ _ => ⟨rfl, rfl⟩
           refine rsE (Ctx.builtOp (css := [[.int .i64 y36]]) (xs := ([y36] : List Int)) (E := (pInt .i64)) hc Try.underlying22 Try.sizeOf3 Try.zeroValue3 rfl rfl rfl rfl rfl rfl rfl rfl) rfl ?_
           clear hc; rintro _ w50 ⟨a49, rfl, hc⟩
           replace hp := bind_some hp; obtain ⟨z51, hz51, hp⟩ := hp
           obtain ⟨hg52, e53⟩ := app_some hz51
           refine rsE (Ctx.append hc (k := 5) rfl rfl (k2 := 0) rfl rfl reads_own Try.underlying22 (i := Try.t3) rfl rfl rfl rfl rfl rfl rfl rfl hg52) rfl ?_
           clear hc; rintro _ w56 ⟨a54, q55, rfl, hc⟩
           rw [← e53] at hc ⊢
           refine rs (v := .slice a54 z51.length q55) (av (v := .slice a54 z51.length q55) rfl) rfl ?_
           refine rn ?_
           refine bn ?_
           refine qn ?_
           replace hc := hc.rem 0 rfl rfl
           exact ⟨⟨j6, j7, z51, a8, j7.length, q10, a54, z51.length, q55, rfl, hp, hc⟩, (kl rfl (km rfl (kl rfl kb)))⟩
         · replace hp := gpos hp hb48
           subst hb48
           refine Wct rfl ?_
           refine Wseq ?_
           refine Wreg ?_
           refine rs (v := .pointer (some ⟨b0, 0, none⟩)) (mv (v := .pointer (some ⟨b0, 0, none⟩)) rfl) rfl ?_
           refine rs (v := .pointer (some ⟨b0, 0, none⟩)) (nl rfl) rfl ?_
           refine rs (v := .pointer (some ⟨b0, 2, none⟩)) (fax 2 rfl Try.underlying52 rfl Try.sizeOf50 rfl rfl rfl) rfl ?_
           refine rs (v := .map (some v2)) (ld rfl Try.isAgg50 (Ctx.cell hc (k := 0) rfl rfl rfl)) rfl ?_
           refine rs (v := .int .i64 y36) (mv (v := .int .i64 y36) rfl) rfl ?_
           replace hc : Ctx w47 (Hold pBool [.bool true] true :: B b0 [.int .i64 x0.width, .slice (some ⟨b39, o40, none⟩) x0.row.length q4, .map (some v2)] 52 :: Own (pInt .i64) 3 (.slice (some ⟨b39, o40, none⟩) x0.row.length q4) x0.row :: Mp (ekI .i64) (HV vf1 pBool) v2 j6 :: Own (pInt .i64) 3 (.slice a8 j7.length q10) j7 :: Own (pInt .i64) 3 (.slice a12 j11.length q14) j11 :: Fr) := hc.add _ fun _ _ _ => ⟨rfl, rfl⟩
           refine ruE (A := fun w' => Ctx w' (B b0 [.int .i64 x0.width, .slice (some ⟨b39, o40, none⟩) x0.row.length q4, .map (some v2)] 52 :: Own (pInt .i64) 3 (.slice (some ⟨b39, o40, none⟩) x0.row.length q4) x0.row :: Mp (ekI .i64) (HV vf1 pBool) v2 (mset j6 y36 true) :: Own (pInt .i64) 3 (.slice a8 j7.length q10) j7 :: Own (pInt .i64) 3 (.slice a12 j11.length q14) j11 :: Fr)) (Ctx.mpSet (keyL_int Try.underlying3) hc (i := 2) rfl rfl Try.underlying50 rfl rfl rfl) rfl ?_
           clear hc; rintro w57 hc
           refine rn ?_
           refine qn ?_
           refine Wreg ?_
           refine rs (v := .slice a8 j7.length q10) (mv (v := .slice a8 j7.length q10) rfl) rfl ?_
           refine rs (v := .int .i64 y36) (mv (v := .int .i64 y36) rfl) rfl ?_
           replace hc : Ctx w57 (Hold (pInt .i64) [.int .i64 y36] y36 :: B b0 [.int .i64 x0.width, .slice (some ⟨b39, o40, none⟩) x0.row.length q4, .map (some v2)] 52 :: Own (pInt .i64) 3 (.slice (some ⟨b39, o40, none⟩) x0.row.length q4) x0.row :: Mp (ekI .i64) (HV vf1 pBool) v2 (mset j6 y36 true) :: Own (pInt .i64) 3 (.slice a8 j7.length q10) j7 :: Own (pInt .i64) 3 (.slice a12 j11.length q14) j11 :: Fr) := hc.add _ fun _ _ _ => ⟨rfl, rfl⟩
           refine rsE (Ctx.builtOp (css := [[.int .i64 y36]]) (xs := ([y36] : List Int)) (E := (pInt .i64)) hc Try.underlying22 Try.sizeOf3 Try.zeroValue3 rfl rfl rfl rfl rfl rfl rfl rfl) rfl ?_
           clear hc; rintro _ w59 ⟨a58, rfl, hc⟩
           replace hp := bind_some hp; obtain ⟨z60, hz60, hp⟩ := hp
           obtain ⟨hg61, e62⟩ := app_some hz60
           refine rsE (Ctx.append hc (k := 4) rfl rfl (k2 := 0) rfl rfl reads_own Try.underlying22 (i := Try.t3) rfl rfl rfl rfl rfl rfl rfl rfl hg61) rfl ?_
           clear hc; rintro _ w65 ⟨a63, q64, rfl, hc⟩
           rw [← e62] at hc ⊢
           refine rs (v := .slice a63 z60.length q64) (av (v := .slice a63 z60.length q64) rfl) rfl ?_
           refine rn ?_
           refine bn ?_
           refine qn ?_
           replace hc := hc.rem 0 rfl rfl
           exact ⟨⟨(mset j6 y36 true), z60, j11, a63, z60.length, q64, a12, j11.length, q14, rfl, hp, hc⟩, (kl rfl (km rfl (kl rfl kb)))⟩
     · clear hp hc; intro vs u w66 hJ
       obtain ⟨j27, j28, j32, a29, n30, q31, a33, n34, q35, rfl, hp, hc⟩ := hJ
       obtain ⟨u67, _⟩ := Ctx.rdLen hc (k := 3) rfl rfl reads_own; subst u67
       obtain ⟨u68, _⟩ := Ctx.rdLen hc (k := 4) rfl rfl reads_own; subst u68
       unfold batch_Batch_Pick.J2 at hp
       refine Wreg ?_
       refine rs (v := .int .i64 (IntKind.i64.wrap (j15 + 1))) (adw rfl rfl) rfl ?_
       refine rs (v := .int .i64 (IntKind.i64.wrap (j15 + 1))) (mv (v := .int .i64 (IntKind.i64.wrap (j15 + 1))) rfl) rfl ?_
       refine rn ?_
       refine qn ?_
       exact ⟨m1, Nat.lt_succ_self _, ⟨j27, j28, j32, (IntKind.i64.wrap (j15 + 1)), a29, j28.length, q31, a33, j32.length, q35, rfl, hp, hc⟩, (kl rfl (km rfl (kl rfl k0)))⟩

-- FN (*peloton/batch.Batch).Back
def batch_Batch_Back.J2 (j3 : Int) (k1 : S_batch_Batch → Int → Int → Option (Int × S_batch_Batch)) (j6 : S_batch_Batch) (j7 : Int) : Option (Int × S_batch_Batch) :=
  k1 j6 j7 (IntKind.i64.wrap (j3 + 1))

def batch_Batch_Back.L1 (x1 : (List Int)) : Nat → S_batch_Batch → Int → Int → Option (Int × S_batch_Batch)
  | 0, _, _, _ => none
  | m1 + 1, j1, j2, j3 =>
    if j3 < ((x1.length : Nat) : Int) then
      (idx x1 j3).bind fun y8 =>
      if ((mget j1.in_ y8).getD false) = true then
        batch_Batch_Back.J2 j3 (batch_Batch_Back.L1 x1 m1) (⟨j1.width, j1.row, (mdel j1.in_ y8)⟩ : S_batch_Batch) (IntKind.i64.wrap (j2 + 1))
      else
        batch_Batch_Back.J2 j3 (batch_Batch_Back.L1 x1 m1) j1 j2
    else
      some (j2, j1)

def batch_Batch_Back (N : Nat) (x0 : S_batch_Batch) (x1 : (List Int)) : Option (Int × S_batch_Batch) :=
  batch_Batch_Back.L1 x1 N x0 0 0

set_option maxHeartbeats 8000000 in
theorem batch_Batch_Back_any {N : Nat} {b0 : Nat} {x0 : S_batch_Batch} {x1 : (List Int)} {ax1 : Option Addr} {nx1 : Nat} {qx1 : Nat} {P1 : HP} {Fr : List HP} {w : World} {r : Int × S_batch_Batch} {K : Value → World → Prop} (hrd1 : Reads P1 (pInt .i64) (.slice ax1 nx1 qx1) x1) (hc : Ctx w (S_batch_Batch.hp b0 x0 :: P1 :: Fr)) (hp : batch_Batch_Back N x0 x1 = some r)
    (k : ∀ w', Ctx w' (S_batch_Batch.hp b0 r.2 :: P1 :: Fr) → K (.int .i64 r.1) w') : Calls Try.prog 12 #[.pointer (some ⟨b0, 0, none⟩), .slice ax1 nx1 qx1] w (Ret K) := by
 unfold batch_Batch_Back at hp
 refine Center (args := [.pointer (some ⟨b0, 0, none⟩), .slice ax1 nx1 qx1]) (l := [(0, .pointer (some ⟨b0, 0, none⟩)), (1, .slice ax1 nx1 qx1)]) Try.func12 Try.ntmps12 rfl rfl rfl ?_
 obtain ⟨hn1, _⟩ := Ctx.rdLen hc (k := 1) rfl rfl hrd1; subst hn1
 refine Wseq ?_
 refine Wreg ?_
 refine rs (v := .int .i64 0) (av (v := .int .i64 0) rfl) rfl ?_
 refine rn ?_
 refine qn ?_
 refine Wseq ?_
 refine Wreg ?_
 refine rs (v := .int .i64 0) (av (v := .int .i64 0) rfl) rfl ?_
 refine rn ?_
 refine qn ?_
 refine Wseq ?_
 refine Wseq ?_
 refine Wreg ?_
 refine rs (v := .slice ax1 x1.length qx1) (mv (v := .slice ax1 x1.length qx1) rfl) rfl ?_
 refine rs (v := .int .i64 ((x1.length : Nat) : Int)) (ln rfl Try.underlying22) rfl ?_
 refine rs (v := .int .i64 0) (mv (v := .int .i64 0) rfl) rfl ?_
 refine rn ?_
 refine qn ?_
 refine Wblk ?_
 refine Wloop [5, 7, 10, 11, 12, 13, 14, 15, 16, 17, 18, 19, 20, 21, 22, 23, 24, 25, 26, 27] [5, 10] (fun m vs w' => ∃ j1 : S_batch_Batch, ∃ j2 : Int, ∃ j3 : Int, vs = [.int .i64 j2, .int .i64 j3] ∧ batch_Batch_Back.L1 x1 m j1 j2 j3 = some r ∧ Ctx w' (S_batch_Batch.hp b0 j1 :: P1 :: Fr)) N ?_ ?_
 · exact ⟨x0, 0, 0, rfl, hp, hc⟩
 · clear hp hc; intro m vs u w4 hJ
   obtain ⟨j1, j2, j3, rfl, hp, hc⟩ := hJ
   rcases m with _ | m1
   · cases (show none = some r from hp)
   rw [batch_Batch_Back.L1] at hp
   refine Wseq ?_
   refine Wreg ?_
   refine rs (v := .bool (decide (j3 < ((x1.length : Nat) : Int)))) (lt' rfl rfl) rfl ?_
   refine rn ?_
   refine qn ?_
   refine Wseq ?_
   cases hb5 : (decide (j3 < ((x1.length : Nat) : Int)))
   · replace hp := gneg hp (of_decide_eq_false hb5)
     refine Wcf rfl ?_
     refine Wexit ?_
     refine qx ?_
     refine qx ?_
     refine be ?_
     refine qn ?_
     refine Wseq ?_
     refine Wreg ?_
     refine rs (v := .int .i64 j2) (mv (v := .int .i64 j2) rfl) rfl ?_
     refine rs (v := .int .i64 j2) (av (v := .int .i64 j2) rfl) rfl ?_
     refine rn ?_
     refine qn ?_
     refine Wret ?_
     injection hp with hp; subst hp
     refine f1 (v := .int .i64 j2) Try.results12 Try.ntmps12 rfl ?_
     exact ⟨_, rfl, k _ hc⟩
   · replace hp := gpos hp (of_decide_eq_true hb5)
     refine Wct rfl ?_
     refine Wskip ?_
     refine qn ?_
     refine Wseqm [5, 7, 12, 13, 14, 15, 16, 17, 18, 19, 20, 21, 22, 23, 24, 25, 26] [5] (fun vs w' => ∃ j6 : S_batch_Batch, ∃ j7 : Int, vs = [.int .i64 j7] ∧ batch_Batch_Back.J2 j3 (batch_Batch_Back.L1 x1 m1) j6 j7 = some r ∧ Ctx w' (S_batch_Batch.hp b0 j6 :: P1 :: Fr)) ?_ ?_
     · refine Wblk ?_
       refine Wseq ?_
       refine Wreg ?_
       replace hp := bind_some hp; obtain ⟨y8, hy8, hp⟩ := hp
       obtain ⟨b11, o12, u13, hi9, hi10⟩ := Ctx.rdAt hc (k := 1) rfl rfl hrd1 hy8
       subst u13
       refine rs (v := .pointer (some ⟨b11, o12 + (j3).toNat * 1, none⟩)) (ixx rfl rfl Try.underlying22 Try.sizeOf3 hi9 hi10 rfl) rfl ?_
       replace hc := Ctx.rdCell hc (k := 1) rfl rfl hrd1 hy8; obtain ⟨cs14, hc, hcell15⟩ := hc
       replace hc := Ctx.holdC hc; obtain ⟨u16, hc⟩ := hc; subst u16
       refine rs (v := .int .i64 y8) (ld rfl Try.isAgg3 (hcell15 0 _ rfl)) rfl ?_
       refine rs (v := .int .i64 y8) (av (v := .int .i64 y8) rfl) rfl ?_
       refine rn ?_
       refine qn ?_
       refine Wseq ?_
       refine Wreg ?_
       refine rs (v := .pointer (some ⟨b0, 0, none⟩)) (mv (v := .pointer (some ⟨b0, 0, none⟩)) rfl) rfl ?_
       refine rs (v := .pointer (some ⟨b0, 0, none⟩)) (nl rfl) rfl ?_
       refine rs (v := .pointer (some ⟨b0, 2, none⟩)) (fax 2 rfl Try.underlying52 rfl Try.sizeOf50 rfl rfl rfl) rfl ?_
       replace hc := Ctx.exF hc; obtain ⟨v17, hc⟩ := hc
       replace hc := Ctx.exF hc; obtain ⟨v18, hc⟩ := hc
       replace hc := Ctx.sepF hc
       replace hc := Ctx.sepF hc
       obtain ⟨a19, q20, u21⟩ := hc.rd (k := 1) rfl rfl reads_own; subst u21
       refine rs (v := .map (some v18)) (ld rfl Try.isAgg50 (Ctx.cell hc (k := 0) rfl rfl rfl)) rfl ?_
       refine rs (v := .int .i64 y8) (mv (v := .int .i64 y8) rfl) rfl ?_
       refine rs (v := .bool ((mget j1.in_ y8).getD false)) (Ctx.mpGetC (f := fun x => [.bool x]) (fun _ _ _ _ h => h) (keyL_int Try.underlying3) hc (i := 2) rfl rfl Try.underlying50 rfl rfl Try.zeroValue4 rfl (fun _ _ => rfl) rfl) rfl ?_
       refine rn ?_
       refine qn ?_
       cases hb22 : ((mget j1.in_ y8).getD false)
       · replace hp := gneg hp (by rw [hb22]; exact Bool.false_ne_true)
         refine Wcf rfl ?_
         refine Wskip ?_
         refine bn ?_
         refine qn ?_
         replace hc := hc.pull 2 rfl rfl
         replace hc := hc.pull 2 rfl rfl
         replace hc := hc.pull 2 rfl rfl
         replace hc : Ctx w4 (S_batch_Batch.hp b0 j1 :: P1 :: Fr) := Ctx.exB _ _ (Ctx.exB _ _ (Ctx.sepB (Ctx.sepB hc)))
         exact ⟨⟨j1, j2, rfl, hp, hc⟩, (kl rfl kb)⟩
       · replace hp := gpos hp hb22
         refine Wct rfl ?_
         refine Wseq ?_
         refine Wreg ?_
         refine rs (v := .pointer (some ⟨b0, 0, none⟩)) (mv (v := .pointer (some ⟨b0, 0, none⟩)) rfl) rfl ?_
         refine rs (v := .pointer (some ⟨b0, 0, none⟩)) (nl rfl) rfl ?_
         refine rs (v := .pointer (some ⟨b0, 2, none⟩)) (fax 2 rfl Try.underlying52 rfl Try.sizeOf50 rfl rfl rfl) rfl ?_
         refine rs (v := .map (some v18)) (ld rfl Try.isAgg50 (Ctx.cell hc (k := 0) rfl rfl rfl)) rfl ?_
         refine rs (v := .int .i64 y8) (mv (v := .int .i64 y8) rfl) rfl ?_
         refine rvE (Ctx.mpDel (keyL_int Try.underlying3) hc (i := 2) rfl rfl Try.underlying50 rfl rfl) rfl ?_
         clear hc; intro w23 hc
         refine rn ?_
         refine qn ?_
         refine Wreg ?_
         refine rs (v := .int .i64 j2) (mv (v := .int .i64 j2) rfl) rfl ?_
         refine rs (v := .int .i64 (IntKind.i64.wrap (j2 + 1))) (adw rfl rfl) rfl ?_
         refine rs (v := .int .i64 (IntKind.i64.wrap (j2 + 1))) (av (v := .int .i64 (IntKind.i64.wrap (j2 + 1))) rfl) rfl ?_
         refine rn ?_
         refine bn ?_
         refine qn ?_
         replace hc := hc.pull 2 rfl rfl
         replace hc := hc.pull 2 rfl rfl
         replace hc := hc.pull 2 rfl rfl
         replace hc : Ctx w23 (S_batch_Batch.hp b0 (⟨j1.width, j1.row, (mdel j1.in_ y8)⟩ : S_batch_Batch) :: P1 :: Fr) := Ctx.exB _ _ (Ctx.exB _ _ (Ctx.sepB (Ctx.sepB hc)))
         exact ⟨⟨(⟨j1.width, j1.row, (mdel j1.in_ y8)⟩ : S_batch_Batch), (IntKind.i64.wrap (j2 + 1)), rfl, hp, hc⟩, (kl rfl kb)⟩
     · clear hp hc; intro vs u w24 hJ
       obtain ⟨j6, j7, rfl, hp, hc⟩ := hJ
       unfold batch_Batch_Back.J2 at hp
       refine Wreg ?_
       refine rs (v := .int .i64 (IntKind.i64.wrap (j3 + 1))) (adw rfl rfl) rfl ?_
       refine rs (v := .int .i64 (IntKind.i64.wrap (j3 + 1))) (mv (v := .int .i64 (IntKind.i64.wrap (j3 + 1))) rfl) rfl ?_
       refine rn ?_
       refine qn ?_
       exact ⟨m1, Nat.lt_succ_self _, ⟨j6, j7, (IntKind.i64.wrap (j3 + 1)), rfl, hp, hc⟩, (kl rfl (km rfl (kl rfl k0)))⟩

-- FN (*peloton/batch.Batch).Rewind
def batch_Batch_Rewind (x0 : S_batch_Batch) : Option (S_batch_Batch) :=
  some (⟨x0.width, x0.row, []⟩ : S_batch_Batch)

set_option maxHeartbeats 8000000 in
theorem batch_Batch_Rewind_any {b0 : Nat} {x0 : S_batch_Batch} {Fr : List HP} {w : World} {r : S_batch_Batch} {K : Value → World → Prop}  (hc : Ctx w (S_batch_Batch.hp b0 x0 :: Fr)) (hp : batch_Batch_Rewind x0 = some r)
    (k : ∀ w', Ctx w' (S_batch_Batch.hp b0 r :: Fr) → K (.tuple #[]) w') : Calls Try.prog 21 #[.pointer (some ⟨b0, 0, none⟩)] w (Ret K) := by
 unfold batch_Batch_Rewind at hp
 refine Center (args := [.pointer (some ⟨b0, 0, none⟩)]) (l := [(0, .pointer (some ⟨b0, 0, none⟩))]) Try.func21 Try.ntmps21 rfl rfl rfl ?_
 refine Wreg ?_
 refine rs (v := .pointer (some ⟨b0, 0, none⟩)) (mv (v := .pointer (some ⟨b0, 0, none⟩)) rfl) rfl ?_
 refine rs (v := .pointer (some ⟨b0, 0, none⟩)) (nl rfl) rfl ?_
 refine rs (v := .pointer (some ⟨b0, 2, none⟩)) (fax 2 rfl Try.underlying52 rfl Try.sizeOf50 rfl rfl rfl) rfl ?_
 replace hc := Ctx.exF hc; obtain ⟨v1, hc⟩ := hc
 replace hc := Ctx.exF hc; obtain ⟨v2, hc⟩ := hc
 replace hc := Ctx.sepF hc
 replace hc := Ctx.sepF hc
 obtain ⟨a3, q4, u5⟩ := hc.rd (k := 1) rfl rfl reads_own; subst u5
 refine rs (v := .map (some v2)) (ld rfl Try.isAgg50 (Ctx.cell hc (k := 0) rfl rfl rfl)) rfl ?_
 refine rvE (Ctx.mpClear hc (i := 2) rfl rfl Try.underlying50 rfl) rfl ?_
 clear hc; intro w6 hc
 refine rn ?_
 refine f0n Try.results21 ?_
 replace hc := hc.pull 2 rfl rfl
 replace hc := hc.pull 2 rfl rfl
 replace hc := hc.pull 2 rfl rfl
 replace hc : Ctx w6 (S_batch_Batch.hp b0 (⟨x0.width, x0.row, []⟩ : S_batch_Batch) :: Fr) := Ctx.exB _ _ (Ctx.exB _ _ (Ctx.sepB (Ctx.sepB hc)))
 injection hp with hp; subst hp
 exact ⟨_, rfl, k _ hc⟩

-- FN (*peloton/batch.Batch).Members
def batch_Batch_Members (x0 : S_batch_Batch) : Option ((List Int)) :=
  (slices_Clone_s_int_int x0.row).bind fun r6 =>
  some r6

set_option maxHeartbeats 8000000 in
theorem batch_Batch_Members_any {b0 : Nat} {x0 : S_batch_Batch} {Fr : List HP} {w : World} {r : (List Int)} {K : Value → World → Prop}  (hc : Ctx w (S_batch_Batch.hp b0 x0 :: Fr)) (hp : batch_Batch_Members x0 = some r)
    (k : ∀ (a12 : Option Addr) (n13 : Nat) (q14 : Nat) w', Ctx w' (Own (pInt .i64) 3 (.slice a12 n13 q14) r :: S_batch_Batch.hp b0 x0 :: Fr) → K (.slice a12 n13 q14) w') : Calls Try.prog 13 #[.pointer (some ⟨b0, 0, none⟩)] w (Ret K) := by
 unfold batch_Batch_Members at hp
 refine Center (args := [.pointer (some ⟨b0, 0, none⟩)]) (l := [(0, .pointer (some ⟨b0, 0, none⟩))]) Try.func13 Try.ntmps13 rfl rfl rfl ?_
 refine Wseq ?_
 refine Wreg ?_
 refine rs (v := .slice none 0 0) (av (v := .slice none 0 0) rfl) rfl ?_
 refine rn ?_
 refine qn ?_
 refine Wseq ?_
 refine Wreg ?_
 refine rs (v := .pointer (some ⟨b0, 0, none⟩)) (mv (v := .pointer (some ⟨b0, 0, none⟩)) rfl) rfl ?_
 refine rs (v := .pointer (some ⟨b0, 0, none⟩)) (nl rfl) rfl ?_
 refine rs (v := .pointer (some ⟨b0, 1, none⟩)) (fax 1 rfl Try.underlying52 rfl Try.sizeOf22 rfl rfl rfl) rfl ?_
 replace hc := Ctx.exF hc; obtain ⟨v1, hc⟩ := hc
 replace hc := Ctx.exF hc; obtain ⟨v2, hc⟩ := hc
 replace hc := Ctx.sepF hc
 replace hc := Ctx.sepF hc
 obtain ⟨a3, q4, u5⟩ := hc.rd (k := 1) rfl rfl reads_own; subst u5
 refine rs (v := .slice a3 x0.row.length q4) (ld rfl Try.isAgg22 (Ctx.cell hc (k := 0) rfl rfl rfl)) rfl ?_
 replace hp := bind_some hp; obtain ⟨r6, hr6, hp⟩ := hp
 replace hc := hc.pull 1 rfl rfl
 refine rc (cl Try.call27 rfl rfl) rfl ?_
 refine slices_Clone_s_int_int_any reads_own hc hr6 ?_
 clear hc; intro a7 n8 q9 w10 hc
 obtain ⟨u11, _⟩ := Ctx.rdLen hc (k := 0) rfl rfl reads_own; subst u11
 refine rs (v := .slice a7 r6.length q9) (av (v := .slice a7 r6.length q9) rfl) rfl ?_
 refine rn ?_
 refine qn ?_
 refine Wret ?_
 replace hc := hc.pull 3 rfl rfl
 replace hc := hc.pull 2 rfl rfl
 replace hc := hc.pull 3 rfl rfl
 replace hc : Ctx w10 (S_batch_Batch.hp b0 x0 :: Own (pInt .i64) 3 (.slice a7 r6.length q9) r6 :: Fr) := Ctx.exB _ _ (Ctx.exB _ _ (Ctx.sepB (Ctx.sepB hc)))
 replace hc := hc.pull 1 rfl rfl
 injection hp with hp; subst hp
 refine f1 (v := .slice a7 r6.length q9) Try.results13 Try.ntmps13 rfl ?_
 exact ⟨_, rfl, k _ _ _ _ hc⟩

-- FN (*peloton/batch.Batch).In
def batch_Batch_In (N : Nat) (x0 : S_batch_Batch) : Option ((List Int)) :=
  (batch_Batch_Members x0).bind fun r4 =>
  (slices_DeleteFunc_s_int_int N r4 (fun (y11 : Int) =>
    if ((mget x0.in_ y11).getD false) = true then
      some false
    else
      some true)).bind fun r18 =>
  some r18

set_option maxHeartbeats 8000000 in
theorem batch_Batch_In_any {N : Nat} {b0 : Nat} {x0 : S_batch_Batch} {Fr : List HP} {w : World} {r : (List Int)} {K : Value → World → Prop}  (hc : Ctx w (S_batch_Batch.hp b0 x0 :: Fr)) (hp : batch_Batch_In N x0 = some r)
    (k : ∀ (a24 : Option Addr) (n25 : Nat) (q26 : Nat) w', Ctx w' (Own (pInt .i64) 3 (.slice a24 n25 q26) r :: S_batch_Batch.hp b0 x0 :: Fr) → K (.slice a24 n25 q26) w') : Calls Try.prog 9 #[.pointer (some ⟨b0, 0, none⟩)] w (Ret K) := by
 unfold batch_Batch_In at hp
 refine Center (args := [.pointer (some ⟨b0, 0, none⟩)]) (l := [(0, .pointer (some ⟨b0, 0, none⟩))]) Try.func9 Try.ntmps9 rfl rfl rfl ?_
 refine Wseq ?_
 refine Wreg ?_
 refine rsE (Ctx.boxOp (cs := [.pointer (some ⟨b0, 0, none⟩)]) (v := .pointer (some ⟨b0, 0, none⟩)) hc rfl rfl) rfl ?_
 clear hc; rintro _ w3 ⟨b1, rfl, hc⟩
 refine rs (v := .slice none 0 0) (av (v := .slice none 0 0) rfl) rfl ?_
 refine rn ?_
 refine qn ?_
 refine Wseq ?_
 refine Wreg ?_
 refine rs (v := .pointer (some ⟨b0, 0, none⟩)) (ld rfl Try.isAgg24 (Ctx.cell hc (k := 0) rfl rfl rfl)) rfl ?_
 replace hp := bind_some hp; obtain ⟨r4, hr4, hp⟩ := hp
 replace hc := hc.pull 1 rfl rfl
 refine rc (cl Try.call13 rfl rfl) rfl ?_
 refine batch_Batch_Members_any hc hr4 ?_
 clear hc; intro a5 n6 q7 w8 hc
 obtain ⟨u9, _⟩ := Ctx.rdLen hc (k := 0) rfl rfl reads_own; subst u9
 refine rs (v := .func (.func 26) #[] #[.pointer (some ⟨b1, 0, none⟩)]) (mkf rfl rfl) rfl ?_
 have hf10 : ∀ (y0 : Int) (Qs : List HP) (w : World) (r : Bool) (K : Value → World → Prop), Ctx w ((Qs ++ (S_batch_Batch.hp b0 x0 :: B b1 [.pointer (some ⟨b0, 0, none⟩)] 24 :: Fr))) → (fun (y11 : Int) =>
          if ((mget x0.in_ y11).getD false) = true then
            some false
          else
            some true) y0 = some r → (∀ w', Ctx w' (Qs ++ (S_batch_Batch.hp b0 x0 :: B b1 [.pointer (some ⟨b0, 0, none⟩)] 24 :: Fr)) → K (.bool r) w') → Calls Try.prog 26 (([.int .i64 y0] : List Value) ++ ([.pointer (some ⟨b1, 0, none⟩)] : List Value)).toArray w (Ret K) := by
  intro y11 Qs w r K hc hp k
  replace hc : Ctx w (S_batch_Batch.hp b0 x0 :: B b1 [.pointer (some ⟨b0, 0, none⟩)] 24 :: (Qs ++ Fr)) := Ctx.front (As := [S_batch_Batch.hp b0 x0, B b1 [.pointer (some ⟨b0, 0, none⟩)] 24]) (Qs := Qs) hc
  refine Center (args := [.int .i64 y11, .pointer (some ⟨b1, 0, none⟩)]) (l := [(0, .int .i64 y11), (1, .pointer (some ⟨b1, 0, none⟩))]) Try.func26 Try.ntmps26 rfl rfl rfl ?_
  refine Wseq ?_
  refine Wreg ?_
  refine rs (v := .bool false) (av (v := .bool false) rfl) rfl ?_
  refine rn ?_
  refine qn ?_
  refine Wseq ?_
  refine Wreg ?_
  refine rs (v := .pointer (some ⟨b0, 0, none⟩)) (ld rfl Try.isAgg24 (Ctx.cell hc (k := 1) rfl rfl rfl)) rfl ?_
  refine rs (v := .pointer (some ⟨b0, 0, none⟩)) (nl rfl) rfl ?_
  refine rs (v := .pointer (some ⟨b0, 2, none⟩)) (fax 2 rfl Try.underlying52 rfl Try.sizeOf50 rfl rfl rfl) rfl ?_
  replace hc := Ctx.exF hc; obtain ⟨v12, hc⟩ := hc
  replace hc := Ctx.exF hc; obtain ⟨v13, hc⟩ := hc
  replace hc := Ctx.sepF hc
  replace hc := Ctx.sepF hc
  obtain ⟨a14, q15, u16⟩ := hc.rd (k := 1) rfl rfl reads_own; subst u16
  refine rs (v := .map (some v13)) (ld rfl Try.isAgg50 (Ctx.cell hc (k := 0) rfl rfl rfl)) rfl ?_
  refine rs (v := .int .i64 y11) (mv (v := .int .i64 y11) rfl) rfl ?_
  refine rs (v := .bool ((mget x0.in_ y11).getD false)) (Ctx.mpGetC (f := fun x => [.bool x]) (fun _ _ _ _ h => h) (keyL_int Try.underlying3) hc (i := 2) rfl rfl Try.underlying50 rfl rfl Try.zeroValue4 rfl (fun _ _ => rfl) rfl) rfl ?_
  cases hb17 : ((mget x0.in_ y11).getD false)
  · replace hp := gneg hp (by rw [hb17]; exact Bool.false_ne_true)
    refine rs (v := .bool true) (ntf rfl) rfl ?_
    refine rs (v := .bool true) (av (v := .bool true) rfl) rfl ?_
    refine rn ?_
    refine qn ?_
    refine Wret ?_
    replace hc := hc.pull 2 rfl rfl
    replace hc := hc.pull 2 rfl rfl
    replace hc := hc.pull 2 rfl rfl
    replace hc : Ctx w (S_batch_Batch.hp b0 x0 :: B b1 [.pointer (some ⟨b0, 0, none⟩)] 24 :: (Qs ++ Fr)) := Ctx.exB _ _ (Ctx.exB _ _ (Ctx.sepB (Ctx.sepB hc)))
    injection hp with hp; subst hp
    replace hc : Ctx w (Qs ++ (S_batch_Batch.hp b0 x0 :: B b1 [.pointer (some ⟨b0, 0, none⟩)] 24 :: Fr)) := Ctx.front (Qs := [S_batch_Batch.hp b0 x0, B b1 [.pointer (some ⟨b0, 0, none⟩)] 24]) (As := Qs) hc
    refine f1 (v := .bool true) Try.results26 Try.ntmps26 rfl ?_
    exact ⟨_, rfl, k _ hc⟩
  · replace hp := gpos hp hb17
    refine rs (v := .bool false) (ntt rfl) rfl ?_
    refine rs (v := .bool false) (av (v := .bool false) rfl) rfl ?_
    refine rn ?_
    refine qn ?_
    refine Wret ?_
    replace hc := hc.pull 2 rfl rfl
    replace hc := hc.pull 2 rfl rfl
    replace hc := hc.pull 2 rfl rfl
    replace hc : Ctx w (S_batch_Batch.hp b0 x0 :: B b1 [.pointer (some ⟨b0, 0, none⟩)] 24 :: (Qs ++ Fr)) := Ctx.exB _ _ (Ctx.exB _ _ (Ctx.sepB (Ctx.sepB hc)))
    injection hp with hp; subst hp
    replace hc : Ctx w (Qs ++ (S_batch_Batch.hp b0 x0 :: B b1 [.pointer (some ⟨b0, 0, none⟩)] 24 :: Fr)) := Ctx.front (Qs := [S_batch_Batch.hp b0 x0, B b1 [.pointer (some ⟨b0, 0, none⟩)] 24]) (As := Qs) hc
    refine f1 (v := .bool false) Try.results26 Try.ntmps26 rfl ?_
    exact ⟨_, rfl, k _ hc⟩
 replace hp := bind_some hp; obtain ⟨r18, hr18, hp⟩ := hp
 refine rc (cl Try.call25 rfl rfl) rfl ?_
 refine slices_DeleteFunc_s_int_int_any Try.call26 hf10 hc hr18 ?_
 clear hc; intro a19 n20 q21 w22 hc
 obtain ⟨u23, _⟩ := Ctx.rdLen hc (k := 0) rfl rfl reads_own; subst u23
 refine rs (v := .slice a19 r18.length q21) (av (v := .slice a19 r18.length q21) rfl) rfl ?_
 refine rn ?_
 refine qn ?_
 refine Wret ?_
 replace hc := hc.rem 2 rfl rfl
 injection hp with hp; subst hp
 refine f1 (v := .slice a19 r18.length q21) Try.results9 Try.ntmps9 rfl ?_
 exact ⟨_, rfl, k _ _ _ _ hc⟩

-- FN peloton/pelotonref09.Ints
def ref09_Ints.L1 (x0 : (List Int)) (x1 : (List Int)) : Nat → Int → Option (Bool)
  | 0, _ => none
  | m1 + 1, j2 =>
    if j2 < ((x0.length : Nat) : Int) then
      (idx x0 j2).bind fun y6 =>
      (idx x1 j2).bind fun y15 =>
      if y6 ≠ y15 then
        some false
      else
        (ref09_Ints.L1 x0 x1 m1) (IntKind.i64.wrap (j2 + 1))
    else
      some true

def ref09_Ints (N : Nat) (x0 : (List Int)) (x1 : (List Int)) : Option (Bool) :=
  if ((x0.length : Nat) : Int) ≠ ((x1.length : Nat) : Int) then
    some false
  else
    ref09_Ints.L1 x0 x1 N 0

set_option maxHeartbeats 8000000 in
theorem ref09_Ints_any {N : Nat} {x0 : (List Int)} {ax0 : Option Addr} {nx0 : Nat} {qx0 : Nat} {P0 : HP} {x1 : (List Int)} {ax1 : Option Addr} {nx1 : Nat} {qx1 : Nat} {P1 : HP} {Fr : List HP} {w : World} {r : Bool} {K : Value → World → Prop} (hrd0 : Reads P0 (pInt .i64) (.slice ax0 nx0 qx0) x0) (hrd1 : Reads P1 (pInt .i64) (.slice ax1 nx1 qx1) x1) (hc : Ctx w (P0 :: P1 :: Fr)) (hp : ref09_Ints N x0 x1 = some r)
    (k : ∀ w', Ctx w' (P0 :: P1 :: Fr) → K (.bool r) w') : Calls Try.prog 14 #[.slice ax0 nx0 qx0, .slice ax1 nx1 qx1] w (Ret K) := by
 unfold ref09_Ints at hp
 refine Center (args := [.slice ax0 nx0 qx0, .slice ax1 nx1 qx1]) (l := [(0, .slice ax0 nx0 qx0), (1, .slice ax1 nx1 qx1)]) Try.func14 Try.ntmps14 rfl rfl rfl ?_
 obtain ⟨hn0, _⟩ := Ctx.rdLen hc (k := 0) rfl rfl hrd0; subst hn0
 obtain ⟨hn1, _⟩ := Ctx.rdLen hc (k := 1) rfl rfl hrd1; subst hn1
 refine Wseq ?_
 refine Wreg ?_
 refine rs (v := .bool false) (av (v := .bool false) rfl) rfl ?_
 refine rn ?_
 refine qn ?_
 refine Wseq ?_
 refine Wseq ?_
 refine Wreg ?_
 refine rs (v := .slice ax0 x0.length qx0) (mv (v := .slice ax0 x0.length qx0) rfl) rfl ?_
 refine rs (v := .int .i64 ((x0.length : Nat) : Int)) (ln rfl Try.underlying22) rfl ?_
 refine rs (v := .slice ax1 x1.length qx1) (mv (v := .slice ax1 x1.length qx1) rfl) rfl ?_
 refine rs (v := .int .i64 ((x1.length : Nat) : Int)) (ln rfl Try.underlying22) rfl ?_
 refine rs (v := .bool (decide (((x0.length : Nat) : Int) ≠ ((x1.length : Nat) : Int)))) (ned rfl rfl) rfl ?_
 refine rn ?_
 refine qn ?_
 cases hb1 : (decide (((x0.length : Nat) : Int) ≠ ((x1.length : Nat) : Int)))
 · replace hp := gneg hp (of_decide_eq_false hb1)
   refine Wcf rfl ?_
   refine Wskip ?_
   refine qn ?_
   refine Wseq ?_
   refine Wseq ?_
   refine Wreg ?_
   refine rs (v := .int .i64 0) (av (v := .int .i64 0) rfl) rfl ?_
   refine rn ?_
   refine qn ?_
   refine Wblk ?_
   refine Wloop [4, 5, 11, 12, 13, 14, 15, 16, 17, 18, 19, 20, 21, 22, 23, 24, 25] [5] (fun m vs w' => ∃ j2 : Int, vs = [.int .i64 j2] ∧ ref09_Ints.L1 x0 x1 m j2 = some r ∧ Ctx w' (P0 :: P1 :: Fr)) N ?_ ?_
   · exact ⟨0, rfl, hp, hc⟩
   · clear hp hc; intro m vs u w3 hJ
     obtain ⟨j2, rfl, hp, hc⟩ := hJ
     rcases m with _ | m1
     · cases (show none = some r from hp)
     rw [ref09_Ints.L1] at hp
     refine Wseq ?_
     refine Wseq ?_
     refine Wreg ?_
     refine rs (v := .int .i64 j2) (mv (v := .int .i64 j2) rfl) rfl ?_
     refine rs (v := .slice ax0 x0.length qx0) (mv (v := .slice ax0 x0.length qx0) rfl) rfl ?_
     refine rs (v := .int .i64 ((x0.length : Nat) : Int)) (ln rfl Try.underlying22) rfl ?_
     refine rs (v := .bool (decide (j2 < ((x0.length : Nat) : Int)))) (lt' rfl rfl) rfl ?_
     refine rn ?_
     refine qn ?_
     cases hb4 : (decide (j2 < ((x0.length : Nat) : Int)))
     · replace hp := gneg hp (of_decide_eq_false hb4)
       refine Wcf rfl ?_
       refine Wexit ?_
       refine qx ?_
       refine qx ?_
       refine be ?_
       refine qn ?_
       refine Wseq ?_
       refine Wreg ?_
       refine rs (v := .bool true) (av (v := .bool true) rfl) rfl ?_
       refine rn ?_
       refine qn ?_
       refine Wret ?_
       injection hp with hp; subst hp
       refine f1 (v := .bool true) Try.results14 Try.ntmps14 rfl ?_
       exact ⟨_, rfl, k _ hc⟩
     · replace hp := gpos hp (of_decide_eq_true hb4)
       refine Wct rfl ?_
       refine Wskip ?_
       refine qn ?_
       refine Wseq ?_
       refine Wblk ?_
       refine Wseq ?_
       replace hc := hc.drew
       refine Wdrw (fun _ w' => w' = World.drew w3) [0, 0, 3, 7, 0, 0, 48, 112, 255] 0 0 rfl (by kernel_rfl) (fun _ _ => rfl) ?_
       generalize hw : World.drew w3 = w5 at *
       clear hw
       refine ds (v := .slice ax0 x0.length qx0) rfl (fun w' hF => by subst hF; exact mv (v := .slice ax0 x0.length qx0) rfl) rfl ?_
       refine ds (v := .int .i64 j2) rfl (fun w' hF => by subst hF; exact mv (v := .int .i64 j2) rfl) rfl ?_
       replace hp := bind_some hp; obtain ⟨y6, hy6, hp⟩ := hp
       obtain ⟨b9, o10, u11, hi7, hi8⟩ := Ctx.rdAt hc (k := 0) rfl rfl hrd0 hy6
       subst u11
       refine ds (v := .pointer (some ⟨b9, o10 + (j2).toNat * 1, none⟩)) rfl (fun w' hF => by subst hF; exact ixx rfl rfl Try.underlying22 Try.sizeOf3 hi7 hi8 rfl) rfl ?_
       replace hc := Ctx.rdCell hc (k := 0) rfl rfl hrd0 hy6; obtain ⟨cs12, hc, hcell13⟩ := hc
       replace hc := Ctx.holdC hc; obtain ⟨u14, hc⟩ := hc; subst u14
       refine ds (v := .int .i64 y6) rfl (fun w' hF => by subst hF; exact ld rfl Try.isAgg3 (hcell13 0 _ rfl)) rfl ?_
       refine ds (v := .slice ax1 x1.length qx1) rfl (fun w' hF => by subst hF; exact mv (v := .slice ax1 x1.length qx1) rfl) rfl ?_
       refine ds (v := .int .i64 j2) rfl (fun w' hF => by subst hF; exact mv (v := .int .i64 j2) rfl) rfl ?_
       replace hp := bind_some hp; obtain ⟨y15, hy15, hp⟩ := hp
       obtain ⟨b18, o19, u20, hi16, hi17⟩ := Ctx.rdAt hc (k := 1) rfl rfl hrd1 hy15
       subst u20
       refine ds (v := .pointer (some ⟨b18, o19 + (j2).toNat * 1, none⟩)) rfl (fun w' hF => by subst hF; exact ixx rfl rfl Try.underlying22 Try.sizeOf3 hi16 hi17 rfl) rfl ?_
       replace hc := Ctx.rdCell hc (k := 1) rfl rfl hrd1 hy15; obtain ⟨cs21, hc, hcell22⟩ := hc
       replace hc := Ctx.holdC hc; obtain ⟨u23, hc⟩ := hc; subst u23
       refine ds (v := .int .i64 y15) rfl (fun w' hF => by subst hF; exact ld rfl Try.isAgg3 (hcell22 0 _ rfl)) rfl ?_
       refine ds (v := .bool (decide (y6 ≠ y15))) rfl (fun w' hF => by subst hF; exact ned rfl rfl) rfl ?_
       refine dn ?_
       refine qn ?_
       cases hb24 : (decide (y6 ≠ y15))
       · replace hp := gneg hp (of_decide_eq_false hb24)
         refine Wcf rfl ?_
         refine Wskip ?_
         refine bn ?_
         refine qn ?_
         refine Wreg ?_
         refine rs (v := .int .i64 j2) (mv (v := .int .i64 j2) rfl) rfl ?_
         refine rs (v := .int .i64 (IntKind.i64.wrap (j2 + 1))) (adw rfl rfl) rfl ?_
         refine rs (v := .int .i64 (IntKind.i64.wrap (j2 + 1))) (av (v := .int .i64 (IntKind.i64.wrap (j2 + 1))) rfl) rfl ?_
         refine rn ?_
         refine qn ?_
         exact ⟨m1, Nat.lt_succ_self _, ⟨(IntKind.i64.wrap (j2 + 1)), rfl, hp, hc⟩, (kl rfl k0)⟩
       · replace hp := gpos hp (of_decide_eq_true hb24)
         refine Wct rfl ?_
         refine Wseq ?_
         refine Wreg ?_
         refine rs (v := .bool false) (av (v := .bool false) rfl) rfl ?_
         refine rn ?_
         refine qn ?_
         refine Wret ?_
         refine br ?_
         refine qr ?_
         refine qr ?_
         refine br ?_
         refine qr ?_
         injection hp with hp; subst hp
         refine f1 (v := .bool false) Try.results14 Try.ntmps14 rfl ?_
         exact ⟨_, rfl, k _ hc⟩
 · replace hp := gpos hp (of_decide_eq_true hb1)
   refine Wct rfl ?_
   refine Wseq ?_
   refine Wreg ?_
   refine rs (v := .bool false) (av (v := .bool false) rfl) rfl ?_
   refine rn ?_
   refine qn ?_
   refine Wret ?_
   refine qr ?_
   injection hp with hp; subst hp
   refine f1 (v := .bool false) Try.results14 Try.ntmps14 rfl ?_
   exact ⟨_, rfl, k _ hc⟩

-- FN (*peloton/pelotonref22.Batch).Find
def ref22_Batch_Find.L1 (x0 : S_ref22_Batch) (x1 : Int) : Nat → Int → Option (Int)
  | 0, _ => none
  | m1 + 1, j1 =>
    if j1 < ((x0.L.length : Nat) : Int) then
      (idx x0.L j1).bind fun y8 =>
      if y8.ID = x1 then
        some j1
      else
        (ref22_Batch_Find.L1 x0 x1 m1) (IntKind.i64.wrap (j1 + 1))
    else
      some (-1)

def ref22_Batch_Find (N : Nat) (x0 : S_ref22_Batch) (x1 : Int) : Option (Int) :=
  ref22_Batch_Find.L1 x0 x1 N 0

set_option maxHeartbeats 8000000 in
theorem ref22_Batch_Find_any {N : Nat} {b0 : Nat} {x0 : S_ref22_Batch} {x1 : Int} {Fr : List HP} {w : World} {r : Int} {K : Value → World → Prop}  (hc : Ctx w (S_ref22_Batch.hp b0 x0 :: Fr)) (hp : ref22_Batch_Find N x0 x1 = some r)
    (k : ∀ w', Ctx w' (S_ref22_Batch.hp b0 x0 :: Fr) → K (.int .i64 r) w') : Calls Try.prog 29 #[.pointer (some ⟨b0, 0, none⟩), .int .i64 x1] w (Ret K) := by
 unfold ref22_Batch_Find at hp
 refine Center (args := [.pointer (some ⟨b0, 0, none⟩), .int .i64 x1]) (l := [(0, .pointer (some ⟨b0, 0, none⟩)), (1, .int .i64 x1)]) Try.func29 Try.ntmps29 rfl rfl rfl ?_
 refine Wseq ?_
 refine Wreg ?_
 refine rs (v := .int .i64 0) (av (v := .int .i64 0) rfl) rfl ?_
 refine rn ?_
 refine qn ?_
 refine Wseq ?_
 refine Wseq ?_
 refine Wreg ?_
 refine rs (v := .int .i64 0) (av (v := .int .i64 0) rfl) rfl ?_
 refine rn ?_
 refine qn ?_
 refine Wblk ?_
 refine Wloop [4, 5, 6, 7, 8, 9, 10, 11, 12, 13, 14, 15, 16, 17, 18, 19, 20, 21, 22, 23, 24, 25] [5] (fun m vs w' => ∃ j1 : Int, vs = [.int .i64 j1] ∧ ref22_Batch_Find.L1 x0 x1 m j1 = some r ∧ Ctx w' (S_ref22_Batch.hp b0 x0 :: Fr)) N ?_ ?_
 · exact ⟨0, rfl, hp, hc⟩
 · clear hp hc; intro m vs u w2 hJ
   obtain ⟨j1, rfl, hp, hc⟩ := hJ
   rcases m with _ | m1
   · cases (show none = some r from hp)
   rw [ref22_Batch_Find.L1] at hp
   refine Wseq ?_
   refine Wseq ?_
   refine Wreg ?_
   refine rs (v := .int .i64 j1) (mv (v := .int .i64 j1) rfl) rfl ?_
   refine rs (v := .pointer (some ⟨b0, 0, none⟩)) (mv (v := .pointer (some ⟨b0, 0, none⟩)) rfl) rfl ?_
   refine rs (v := .pointer (some ⟨b0, 0, none⟩)) (nl rfl) rfl ?_
   refine rs (v := .pointer (some ⟨b0, 1, none⟩)) (fax 1 rfl Try.underlying42 rfl Try.sizeOf40 rfl rfl rfl) rfl ?_
   replace hc := Ctx.exF hc; obtain ⟨v3, hc⟩ := hc
   replace hc := Ctx.sepF hc
   obtain ⟨a4, q5, u6⟩ := hc.rd (k := 1) rfl rfl reads_own; subst u6
   refine rs (v := .slice a4 x0.L.length q5) (ld rfl Try.isAgg40 (Ctx.cell hc (k := 0) rfl rfl rfl)) rfl ?_
   refine rs (v := .int .i64 ((x0.L.length : Nat) : Int)) (ln rfl Try.underlying40) rfl ?_
   refine rs (v := .bool (decide (j1 < ((x0.L.length : Nat) : Int)))) (lt' rfl rfl) rfl ?_
   refine rn ?_
   refine qn ?_
   cases hb7 : (decide (j1 < ((x0.L.length : Nat) : Int)))
   · replace hp := gneg hp (of_decide_eq_false hb7)
     refine Wcf rfl ?_
     refine Wexit ?_
     refine qx ?_
     refine qx ?_
     refine be ?_
     refine qn ?_
     refine Wseq ?_
     refine Wreg ?_
     refine rs (v := .int .i64 (-1)) (av (v := .int .i64 (-1)) rfl) rfl ?_
     refine rn ?_
     refine qn ?_
     refine Wret ?_
     replace hc := hc.pull 1 rfl rfl
     replace hc := hc.pull 1 rfl rfl
     replace hc : Ctx w2 (S_ref22_Batch.hp b0 x0 :: Fr) := Ctx.exB _ _ (Ctx.sepB hc)
     injection hp with hp; subst hp
     refine f1 (v := .int .i64 (-1)) Try.results29 Try.ntmps29 rfl ?_
     exact ⟨_, rfl, k _ hc⟩
   · replace hp := gpos hp (of_decide_eq_true hb7)
     refine Wct rfl ?_
     refine Wskip ?_
     refine qn ?_
     refine Wseq ?_
     refine Wblk ?_
     refine Wseq ?_
     refine Wreg ?_
     refine rs (v := .pointer (some ⟨b0, 0, none⟩)) (mv (v := .pointer (some ⟨b0, 0, none⟩)) rfl) rfl ?_
     refine rs (v := .pointer (some ⟨b0, 0, none⟩)) (nl rfl) rfl ?_
     refine rs (v := .pointer (some ⟨b0, 1, none⟩)) (fax 1 rfl Try.underlying42 rfl Try.sizeOf40 rfl rfl rfl) rfl ?_
     refine rs (v := .slice a4 x0.L.length q5) (ld rfl Try.isAgg40 (Ctx.cell hc (k := 0) rfl rfl rfl)) rfl ?_
     refine rs (v := .int .i64 j1) (mv (v := .int .i64 j1) rfl) rfl ?_
     replace hp := bind_some hp; obtain ⟨y8, hy8, hp⟩ := hp
     obtain ⟨b11, o12, u13, hi9, hi10⟩ := Ctx.rdAt hc (k := 1) rfl rfl reads_own hy8
     subst u13
     refine rs (v := .pointer (some ⟨b11, o12 + (j1).toNat * 2, none⟩)) (ixx rfl rfl Try.underlying40 Try.sizeOf57 hi9 hi10 rfl) rfl ?_
     refine rs (v := .pointer (some ⟨b11, o12 + (j1).toNat * 2 + 0, none⟩)) (fax 0 rfl Try.underlying57 rfl Try.sizeOf3 rfl rfl rfl) rfl ?_
     replace hc := Ctx.rdCell hc (k := 1) rfl rfl reads_own hy8; obtain ⟨cs14, hc, hcell15⟩ := hc
     replace hc := Ctx.holdC hc; obtain ⟨u16, hc⟩ := hc; subst u16
     refine rs (v := .int .i64 y8.ID) (ld rfl Try.isAgg3 (hcell15 0 _ rfl)) rfl ?_
     refine rs (v := .int .i64 x1) (mv (v := .int .i64 x1) rfl) rfl ?_
     refine rs (v := .bool (decide (y8.ID = x1))) (eqd rfl rfl) rfl ?_
     refine rn ?_
     refine qn ?_
     cases hb17 : (decide (y8.ID = x1))
     · replace hp := gneg hp (of_decide_eq_false hb17)
       refine Wcf rfl ?_
       refine Wskip ?_
       refine bn ?_
       refine qn ?_
       refine Wreg ?_
       refine rs (v := .int .i64 j1) (mv (v := .int .i64 j1) rfl) rfl ?_
       refine rs (v := .int .i64 (IntKind.i64.wrap (j1 + 1))) (adw rfl rfl) rfl ?_
       refine rs (v := .int .i64 (IntKind.i64.wrap (j1 + 1))) (av (v := .int .i64 (IntKind.i64.wrap (j1 + 1))) rfl) rfl ?_
       refine rn ?_
       refine qn ?_
       replace hc := hc.pull 1 rfl rfl
       replace hc := hc.pull 1 rfl rfl
       replace hc : Ctx w2 (S_ref22_Batch.hp b0 x0 :: Fr) := Ctx.exB _ _ (Ctx.sepB hc)
       exact ⟨m1, Nat.lt_succ_self _, ⟨(IntKind.i64.wrap (j1 + 1)), rfl, hp, hc⟩, (kl rfl k0)⟩
     · replace hp := gpos hp (of_decide_eq_true hb17)
       refine Wct rfl ?_
       refine Wseq ?_
       refine Wreg ?_
       refine rs (v := .int .i64 j1) (mv (v := .int .i64 j1) rfl) rfl ?_
       refine rs (v := .int .i64 j1) (av (v := .int .i64 j1) rfl) rfl ?_
       refine rn ?_
       refine qn ?_
       refine Wret ?_
       refine br ?_
       refine qr ?_
       refine qr ?_
       refine br ?_
       refine qr ?_
       replace hc := hc.pull 1 rfl rfl
       replace hc := hc.pull 1 rfl rfl
       replace hc : Ctx w2 (S_ref22_Batch.hp b0 x0 :: Fr) := Ctx.exB _ _ (Ctx.sepB hc)
       injection hp with hp; subst hp
       refine f1 (v := .int .i64 j1) Try.results29 Try.ntmps29 rfl ?_
       exact ⟨_, rfl, k _ hc⟩

-- FN (*peloton/pelotonref22.Batch).Add
theorem bd_57_0_1 {ρ : Operand → Value} {w : World} {dst : Option Nat} {ty : TypeId} {pos : String} {after : Array Edge} {g : Option (Nat × Bool)} {x0 x1 : Operand} {k0 : IntKind} {a0 : Int} {a1 : Bool} (h0 : ρ x0 = (.int k0 a0)) (h1 : ρ x1 = (.bool a1)) :
    (execOp ρ ⟨dst, .build 57 #[(0, x0), (1, x1)], ty, pos, after, g⟩).run Try.prog w = .ok (.value (.agg #[(.int k0 a0), (.bool a1)])) w := by
  simp [execOp, Instr.build, Instr.fill, Try.zeroValue57, Try.runUnderlying57, Try.sizeOf3, Try.sizeOf4, h0, h1, Value.cells]

def ref22_Batch_Add.L2 (x1 : (List Int)) : Nat → S_ref22_Batch → Int → Option (Int × S_ref22_Batch)
  | 0, _, _ => none
  | m2 + 1, j10, j11 =>
    if j11 < ((x1.length : Nat) : Int) then
      (idx x1 j11).bind fun y19 =>
      (app j10.L ([(⟨y19, false⟩ : S_ref22_Member)])).bind fun z30 =>
      (ref22_Batch_Add.L2 x1 m2) (⟨j10.Width, z30⟩ : S_ref22_Batch) (IntKind.i64.wrap (j11 + 1))
    else
      some (0, j10)

def ref22_Batch_Add.J4 (j49 : Int) (k3 : Bool → Int → Option (Int × S_ref22_Batch)) (j53 : Bool) : Option (Int × S_ref22_Batch) :=
  k3 j53 (IntKind.i64.wrap (j49 + 1))

def ref22_Batch_Add.L3 (x0 : S_ref22_Batch) (x1 : (List Int)) (j1 : Int) (k1 : Int → Option (Int × S_ref22_Batch)) : Nat → Bool → Int → Option (Int × S_ref22_Batch)
  | 0, _, _ => none
  | m3 + 1, j48, j49 =>
    if j49 < j1 then
      if j48 = true then
        ref22_Batch_Add.J4 j49 (ref22_Batch_Add.L3 x0 x1 j1 k1 m3) true
      else
        (idx x1 j49).bind fun y56 =>
        (idx x1 j1).bind fun y65 =>
        ref22_Batch_Add.J4 j49 (ref22_Batch_Add.L3 x0 x1 j1 k1 m3) (decide (y56 = y65))
    else
      if j48 = true then
        some (210, x0)
      else
        k1 (IntKind.i64.wrap (j1 + 1))

def ref22_Batch_Add.L1 (N : Nat) (x0 : S_ref22_Batch) (x1 : (List Int)) : Nat → Int → Option (Int × S_ref22_Batch)
  | 0, _ => none
  | m1 + 1, j1 =>
    if j1 < ((x1.length : Nat) : Int) then
      (idx x1 j1).bind fun y37 =>
      (ref22_Batch_Find N x0 y37).bind fun r46 =>
      ref22_Batch_Add.L3 x0 x1 j1 (ref22_Batch_Add.L1 N x0 x1 m1) N (decide (r46 ≥ 0)) 0
    else
      if (IntKind.i64.wrap (((x0.L.length : Nat) : Int) + ((x1.length : Nat) : Int))) > x0.Width then
        some (80, x0)
      else
        ref22_Batch_Add.L2 x1 N x0 0

def ref22_Batch_Add (N : Nat) (x0 : S_ref22_Batch) (x1 : (List Int)) : Option (Int × S_ref22_Batch) :=
  ref22_Batch_Add.L1 N x0 x1 N 0

set_option maxHeartbeats 8000000 in
theorem ref22_Batch_Add_any {N : Nat} {b0 : Nat} {x0 : S_ref22_Batch} {x1 : (List Int)} {ax1 : Option Addr} {nx1 : Nat} {qx1 : Nat} {P1 : HP} {Fr : List HP} {w : World} {r : Int × S_ref22_Batch} {K : Value → World → Prop} (hrd1 : Reads P1 (pInt .i64) (.slice ax1 nx1 qx1) x1) (hc : Ctx w (S_ref22_Batch.hp b0 x0 :: P1 :: Fr)) (hp : ref22_Batch_Add N x0 x1 = some r)
    (k : ∀ w', Ctx w' (S_ref22_Batch.hp b0 r.2 :: P1 :: Fr) → K (.int .i64 r.1) w') : Calls Try.prog 17 #[.pointer (some ⟨b0, 0, none⟩), .slice ax1 nx1 qx1] w (Ret K) := by
 unfold ref22_Batch_Add at hp
 refine Center (args := [.pointer (some ⟨b0, 0, none⟩), .slice ax1 nx1 qx1]) (l := [(0, .pointer (some ⟨b0, 0, none⟩)), (1, .slice ax1 nx1 qx1)]) Try.func17 Try.ntmps17 rfl rfl rfl ?_
 obtain ⟨hn1, _⟩ := Ctx.rdLen hc (k := 1) rfl rfl hrd1; subst hn1
 refine Wseq ?_
 refine Wreg ?_
 refine rs (v := .int .i64 0) (av (v := .int .i64 0) rfl) rfl ?_
 refine rn ?_
 refine qn ?_
 refine Wseq ?_
 refine Wseq ?_
 refine Wreg ?_
 refine rs (v := .int .i64 0) (av (v := .int .i64 0) rfl) rfl ?_
 refine rn ?_
 refine qn ?_
 refine Wblk ?_
 refine Wloop [4, 5, 6, 7, 9, 10, 11, 12, 13, 14, 15, 16, 17, 18, 19, 20, 21, 22, 23, 24, 25, 26, 27, 28, 29, 30, 31, 32, 33, 34, 35, 36, 37, 38, 39] [5] (fun m vs w' => ∃ j1 : Int, vs = [.int .i64 j1] ∧ ref22_Batch_Add.L1 N x0 x1 m j1 = some r ∧ Ctx w' (S_ref22_Batch.hp b0 x0 :: P1 :: Fr)) N ?_ ?_
 · exact ⟨0, rfl, hp, hc⟩
 · clear hp hc; intro m vs u w2 hJ
   obtain ⟨j1, rfl, hp, hc⟩ := hJ
   rcases m with _ | m1
   · cases (show none = some r from hp)
   rw [ref22_Batch_Add.L1] at hp
   refine Wseq ?_
   refine Wseq ?_
   refine Wreg ?_
   refine rs (v := .int .i64 j1) (mv (v := .int .i64 j1) rfl) rfl ?_
   refine rs (v := .slice ax1 x1.length qx1) (mv (v := .slice ax1 x1.length qx1) rfl) rfl ?_
   refine rs (v := .int .i64 ((x1.length : Nat) : Int)) (ln rfl Try.underlying22) rfl ?_
   refine rs (v := .bool (decide (j1 < ((x1.length : Nat) : Int)))) (lt' rfl rfl) rfl ?_
   refine rn ?_
   refine qn ?_
   cases hb3 : (decide (j1 < ((x1.length : Nat) : Int)))
   · replace hp := gneg hp (of_decide_eq_false hb3)
     refine Wcf rfl ?_
     refine Wexit ?_
     refine qx ?_
     refine qx ?_
     refine be ?_
     refine qn ?_
     refine Wseq ?_
     refine Wseq ?_
     replace hc := Ctx.exF hc; obtain ⟨v4, hc⟩ := hc
     replace hc := Ctx.sepF hc
     obtain ⟨a5, q6, u7⟩ := hc.rd (k := 1) rfl rfl reads_own; subst u7
     replace hc := hc.drew
     refine Wdrw (fun _ w' => w' = World.drew w2) [0, 1, 3, 7, 15, 0, 32, 127, 0, 256, 768, 1792, 4095] 0 0 rfl (by kernel_rfl) (fun _ _ => rfl) ?_
     generalize hw : World.drew w2 = w8 at *
     clear hw
     refine ds (v := .pointer (some ⟨b0, 0, none⟩)) rfl (fun w' hF => by subst hF; exact mv (v := .pointer (some ⟨b0, 0, none⟩)) rfl) rfl ?_
     refine ds (v := .pointer (some ⟨b0, 0, none⟩)) rfl (fun w' hF => by subst hF; exact nl rfl) rfl ?_
     refine ds (v := .pointer (some ⟨b0, 1, none⟩)) rfl (fun w' hF => by subst hF; exact fax 1 rfl Try.underlying42 rfl Try.sizeOf40 rfl rfl rfl) rfl ?_
     refine ds (v := .slice a5 x0.L.length q6) rfl (fun w' hF => by subst hF; exact ld rfl Try.isAgg40 (Ctx.cell hc (k := 0) rfl rfl rfl)) rfl ?_
     refine ds (v := .int .i64 ((x0.L.length : Nat) : Int)) rfl (fun w' hF => by subst hF; exact ln rfl Try.underlying40) rfl ?_
     refine ds (v := .slice ax1 x1.length qx1) rfl (fun w' hF => by subst hF; exact mv (v := .slice ax1 x1.length qx1) rfl) rfl ?_
     refine ds (v := .int .i64 ((x1.length : Nat) : Int)) rfl (fun w' hF => by subst hF; exact ln rfl Try.underlying22) rfl ?_
     refine ds (v := .int .i64 (IntKind.i64.wrap (((x0.L.length : Nat) : Int) + ((x1.length : Nat) : Int)))) rfl (fun w' hF => by subst hF; exact adw rfl rfl) rfl ?_
     refine ds (v := .pointer (some ⟨b0, 0, none⟩)) rfl (fun w' hF => by subst hF; exact mv (v := .pointer (some ⟨b0, 0, none⟩)) rfl) rfl ?_
     refine ds (v := .pointer (some ⟨b0, 0, none⟩)) rfl (fun w' hF => by subst hF; exact nl rfl) rfl ?_
     refine ds (v := .pointer (some ⟨b0, 0, none⟩)) rfl (fun w' hF => by subst hF; exact fax 0 rfl Try.underlying42 rfl Try.sizeOf3 rfl rfl rfl) rfl ?_
     refine ds (v := .int .i64 x0.Width) rfl (fun w' hF => by subst hF; exact ld rfl Try.isAgg3 (Ctx.cell hc (k := 0) rfl rfl rfl)) rfl ?_
     refine ds (v := .bool (decide ((IntKind.i64.wrap (((x0.L.length : Nat) : Int) + ((x1.length : Nat) : Int))) > x0.Width))) rfl (fun w' hF => by subst hF; exact gt' rfl rfl) rfl ?_
     refine dn ?_
     refine qn ?_
     cases hb9 : (decide ((IntKind.i64.wrap (((x0.L.length : Nat) : Int) + ((x1.length : Nat) : Int))) > x0.Width))
     · replace hp := gneg hp (of_decide_eq_false hb9)
       refine Wcf rfl ?_
       refine Wskip ?_
       refine qn ?_
       refine Wseq ?_
       refine Wseq ?_
       refine Wreg ?_
       refine rs (v := .int .i64 0) (av (v := .int .i64 0) rfl) rfl ?_
       refine rn ?_
       refine qn ?_
       refine Wblk ?_
       replace hc := hc.pull 1 rfl rfl
       replace hc := hc.pull 1 rfl rfl
       replace hc : Ctx w8 (S_ref22_Batch.hp b0 x0 :: P1 :: Fr) := Ctx.exB _ _ (Ctx.sepB hc)
       refine Wloop [8, 53, 54, 55, 56, 57, 58, 59, 60, 61, 62, 63, 64, 65, 66, 67, 68, 69, 70, 71, 72] [8] (fun m vs w' => ∃ j10 : S_ref22_Batch, ∃ j11 : Int, vs = [.int .i64 j11] ∧ ref22_Batch_Add.L2 x1 m j10 j11 = some r ∧ Ctx w' (S_ref22_Batch.hp b0 j10 :: P1 :: Fr)) N ?_ ?_
       · exact ⟨x0, 0, rfl, hp, hc⟩
       · clear hp hc; intro m vs u w12 hJ
         obtain ⟨j10, j11, rfl, hp, hc⟩ := hJ
         rcases m with _ | m2
         · cases (show none = some r from hp)
         rw [ref22_Batch_Add.L2] at hp
         refine Wseq ?_
         refine Wseq ?_
         refine Wreg ?_
         refine rs (v := .int .i64 j11) (mv (v := .int .i64 j11) rfl) rfl ?_
         refine rs (v := .slice ax1 x1.length qx1) (mv (v := .slice ax1 x1.length qx1) rfl) rfl ?_
         refine rs (v := .int .i64 ((x1.length : Nat) : Int)) (ln rfl Try.underlying22) rfl ?_
         refine rs (v := .bool (decide (j11 < ((x1.length : Nat) : Int)))) (lt' rfl rfl) rfl ?_
         refine rn ?_
         refine qn ?_
         cases hb13 : (decide (j11 < ((x1.length : Nat) : Int)))
         · replace hp := gneg hp (of_decide_eq_false hb13)
           refine Wcf rfl ?_
           refine Wexit ?_
           refine qx ?_
           refine qx ?_
           refine be ?_
           refine qn ?_
           refine Wseq ?_
           refine Wreg ?_
           refine rs (v := .int .i64 0) (av (v := .int .i64 0) rfl) rfl ?_
           refine rn ?_
           refine qn ?_
           refine Wret ?_
           injection hp with hp; subst hp
           refine f1 (v := .int .i64 0) Try.results17 Try.ntmps17 rfl ?_
           exact ⟨_, rfl, k _ hc⟩
         · replace hp := gpos hp (of_decide_eq_true hb13)
           refine Wct rfl ?_
           refine Wskip ?_
           refine qn ?_
           refine Wseq ?_
           refine Wblk ?_
           replace hc := Ctx.exF hc; obtain ⟨v14, hc⟩ := hc
           replace hc := Ctx.sepF hc
           obtain ⟨a15, q16, u17⟩ := hc.rd (k := 1) rfl rfl reads_own; subst u17
           replace hc := hc.drew
           have hF : ∀ j, free [0, 0, 2, 6, 14, 0, 0, 96, 224, 480, 992, 2046, 4095, 8191, 16383] 0 j = true → (fun j w' => (j = 4 → w'.cell? ⟨b0, 1, none⟩ = some (.slice a15 j10.L.length q16)) ∧ True) j (World.drew w12) := fun j hj => ⟨fun _ => hc.cell (k := 0) rfl rfl rfl, trivial⟩
           refine Wdrw (fun j w' => (j = 4 → w'.cell? ⟨b0, 1, none⟩ = some (.slice a15 j10.L.length q16)) ∧ True) [0, 0, 2, 6, 14, 0, 0, 96, 224, 480, 992, 2046, 4095, 8191, 16383] 0 256 rfl (by kernel_rfl) (hF) ?_
           generalize hw : World.drew w12 = w18 at *
           clear hw
           refine ds (v := .pointer (some ⟨b0, 0, none⟩)) rfl (fun w' hF => mv (v := .pointer (some ⟨b0, 0, none⟩)) rfl) rfl ?_
           refine ds (v := .pointer (some ⟨b0, 0, none⟩)) rfl (fun w' hF => mv (v := .pointer (some ⟨b0, 0, none⟩)) rfl) rfl ?_
           refine ds (v := .pointer (some ⟨b0, 0, none⟩)) rfl (fun w' hF => nl rfl) rfl ?_
           refine ds (v := .pointer (some ⟨b0, 1, none⟩)) rfl (fun w' hF => fax 1 rfl Try.underlying42 rfl Try.sizeOf40 rfl rfl rfl) rfl ?_
           refine ds (v := .slice a15 j10.L.length q16) rfl (fun w' hF => ld rfl Try.isAgg40 ((hF.1 rfl))) rfl ?_
           refine ds (v := .slice ax1 x1.length qx1) rfl (fun w' hF => mv (v := .slice ax1 x1.length qx1) rfl) rfl ?_
           refine ds (v := .int .i64 j11) rfl (fun w' hF => mv (v := .int .i64 j11) rfl) rfl ?_
           replace hp := bind_some hp; obtain ⟨y19, hy19, hp⟩ := hp
           obtain ⟨b22, o23, u24, hi20, hi21⟩ := Ctx.rdAt hc (k := 2) rfl rfl hrd1 hy19
           subst u24
           refine ds (v := .pointer (some ⟨b22, o23 + (j11).toNat * 1, none⟩)) rfl (fun w' hF => ixx rfl rfl Try.underlying22 Try.sizeOf3 hi20 hi21 rfl) rfl ?_
           replace hc := Ctx.rdCell hc (k := 2) rfl rfl hrd1 hy19; obtain ⟨cs25, hc, hcell26⟩ := hc
           replace hc := Ctx.holdC hc; obtain ⟨u27, hc⟩ := hc; subst u27
           refine dx (v := .int .i64 y19) rfl (ld rfl Try.isAgg3 (hcell26 0 _ rfl)) rfl rfl ?_
           refine ds (v := .agg #[.int .i64 y19, .bool false]) rfl (fun w' hF => bd_57_0_1 rfl rfl) rfl ?_
           replace hc : Ctx w18 (Hold S_ref22_Member.pr [.int .i64 y19, .bool false] (⟨y19, false⟩ : S_ref22_Member) :: B b0 [.int .i64 j10.Width, .slice a15 j10.L.length q16] 42 :: Own S_ref22_Member.pr 57 (.slice a15 j10.L.length q16) j10.L :: P1 :: Fr) := hc.add _ fun _ _ _ => ⟨rfl, rfl⟩
           refine deE (Ctx.builtOp (css := [[.int .i64 y19, .bool false]]) (xs := ([(⟨y19, false⟩ : S_ref22_Member)] : List S_ref22_Member)) (E := S_ref22_Member.pr) hc Try.underlying40 Try.sizeOf57 Try.zeroValue57 rfl rfl rfl rfl rfl rfl rfl rfl) rfl rfl ?_
           clear hc; rintro _ w29 ⟨a28, rfl, hc⟩
           refine ⟨fun j hj hb => ⟨fun _ => hc.cell (k := 1) rfl rfl rfl, trivial⟩, ?_⟩
           replace hp := bind_some hp; obtain ⟨z30, hz30, hp⟩ := hp
           obtain ⟨hg31, e32⟩ := app_some hz30
           refine deE (Ctx.append hc (k := 2) rfl rfl (k2 := 0) rfl rfl reads_own Try.underlying40 (i := Try.t57) rfl rfl rfl rfl rfl rfl rfl rfl hg31) rfl rfl ?_
           clear hc; rintro _ w35 ⟨a33, q34, rfl, hc⟩
           rw [← e32] at hc ⊢
           refine ⟨fun j hj hb => ⟨fun e => (by subst e; exact absurd hj (by decide)), trivial⟩, ?_⟩
           refine ds (v := .pointer (some ⟨b0, 0, none⟩)) rfl (fun w' hF => nl rfl) rfl ?_
           refine ds (v := .pointer (some ⟨b0, 1, none⟩)) rfl (fun w' hF => fax 1 rfl Try.underlying42 rfl Try.sizeOf40 rfl rfl rfl) rfl ?_
           refine duE (A := fun w' => Ctx w' (Own S_ref22_Member.pr 57 (.slice a28 1 1) ([(⟨y19, false⟩ : S_ref22_Member)]) :: B b0 [.int .i64 j10.Width, .slice a33 z30.length q34] 42 :: Own S_ref22_Member.pr 57 (.slice a33 z30.length q34) z30 :: P1 :: Fr)) (Ctx.putOp hc (k := 1) rfl rfl (v := .slice a33 z30.length q34) rfl rfl rfl Try.sizeOf40 rfl rfl rfl) rfl rfl ?_
           clear hc; rintro w36 hc
           refine ⟨fun j hj hb => ⟨fun e => (by subst e; exact absurd hj (by decide)), trivial⟩, ?_⟩
           refine dn ?_
           refine bn ?_
           refine qn ?_
           refine Wreg ?_
           refine rs (v := .int .i64 j11) (mv (v := .int .i64 j11) rfl) rfl ?_
           refine rs (v := .int .i64 (IntKind.i64.wrap (j11 + 1))) (adw rfl rfl) rfl ?_
           refine rs (v := .int .i64 (IntKind.i64.wrap (j11 + 1))) (av (v := .int .i64 (IntKind.i64.wrap (j11 + 1))) rfl) rfl ?_
           refine rn ?_
           refine qn ?_
           replace hc := hc.pull 2 rfl rfl
           replace hc := hc.pull 2 rfl rfl
           replace hc : Ctx w36 (S_ref22_Batch.hp b0 (⟨j10.Width, z30⟩ : S_ref22_Batch) :: Own S_ref22_Member.pr 57 (.slice a28 1 1) ([(⟨y19, false⟩ : S_ref22_Member)]) :: P1 :: Fr) := Ctx.exB _ _ (Ctx.sepB hc)
           replace hc := hc.rem 1 rfl rfl
           exact ⟨m2, Nat.lt_succ_self _, ⟨(⟨j10.Width, z30⟩ : S_ref22_Batch), (IntKind.i64.wrap (j11 + 1)), rfl, hp, hc⟩, (kl rfl k0)⟩
     · replace hp := gpos hp (of_decide_eq_true hb9)
       refine Wct rfl ?_
       refine Wseq ?_
       refine Wreg ?_
       refine rs (v := .int .i64 80) (av (v := .int .i64 80) rfl) rfl ?_
       refine rn ?_
       refine qn ?_
       refine Wret ?_
       refine qr ?_
       replace hc := hc.pull 1 rfl rfl
       replace hc := hc.pull 1 rfl rfl
       replace hc : Ctx w8 (S_ref22_Batch.hp b0 x0 :: P1 :: Fr) := Ctx.exB _ _ (Ctx.sepB hc)
       injection hp with hp; subst hp
       refine f1 (v := .int .i64 80) Try.results17 Try.ntmps17 rfl ?_
       exact ⟨_, rfl, k _ hc⟩
   · replace hp := gpos hp (of_decide_eq_true hb3)
     refine Wct rfl ?_
     refine Wskip ?_
     refine qn ?_
     refine Wseq ?_
     refine Wblk ?_
     refine Wseq ?_
     refine Wreg ?_
     refine rs (v := .pointer (some ⟨b0, 0, none⟩)) (mv (v := .pointer (some ⟨b0, 0, none⟩)) rfl) rfl ?_
     refine rs (v := .slice ax1 x1.length qx1) (mv (v := .slice ax1 x1.length qx1) rfl) rfl ?_
     refine rs (v := .int .i64 j1) (mv (v := .int .i64 j1) rfl) rfl ?_
     replace hp := bind_some hp; obtain ⟨y37, hy37, hp⟩ := hp
     obtain ⟨b40, o41, u42, hi38, hi39⟩ := Ctx.rdAt hc (k := 1) rfl rfl hrd1 hy37
     subst u42
     refine rs (v := .pointer (some ⟨b40, o41 + (j1).toNat * 1, none⟩)) (ixx rfl rfl Try.underlying22 Try.sizeOf3 hi38 hi39 rfl) rfl ?_
     replace hc := Ctx.rdCell hc (k := 1) rfl rfl hrd1 hy37; obtain ⟨cs43, hc, hcell44⟩ := hc
     replace hc := Ctx.holdC hc; obtain ⟨u45, hc⟩ := hc; subst u45
     refine rs (v := .int .i64 y37) (ld rfl Try.isAgg3 (hcell44 0 _ rfl)) rfl ?_
     replace hp := bind_some hp; obtain ⟨r46, hr46, hp⟩ := hp
     refine rc (cl Try.call29 rfl rfl) rfl ?_
     refine ref22_Batch_Find_any hc hr46 ?_
     clear hc; intro w47 hc
     refine rs (v := .bool (decide (r46 ≥ 0))) (ge' rfl rfl) rfl ?_
     refine rs (v := .bool (decide (r46 ≥ 0))) (av (v := .bool (decide (r46 ≥ 0))) rfl) rfl ?_
     refine rn ?_
     refine qn ?_
     refine Wseq ?_
     refine Wseq ?_
     refine Wreg ?_
     refine rs (v := .int .i64 0) (av (v := .int .i64 0) rfl) rfl ?_
     refine rn ?_
     refine qn ?_
     refine Wblk ?_
     refine Wloop [6, 7, 22, 23, 24, 25, 26, 27, 28, 29, 30, 31, 32, 33, 34, 35, 36, 37, 38] [6, 7] (fun m vs w' => ∃ j48 : Bool, ∃ j49 : Int, vs = [.bool j48, .int .i64 j49] ∧ ref22_Batch_Add.L3 x0 x1 j1 (ref22_Batch_Add.L1 N x0 x1 m1) m j48 j49 = some r ∧ Ctx w' (S_ref22_Batch.hp b0 x0 :: P1 :: Fr)) N ?_ ?_
     · exact ⟨decide (r46 ≥ 0), 0, rfl, hp, hc⟩
     · clear hp hc; intro m vs u w50 hJ
       obtain ⟨j48, j49, rfl, hp, hc⟩ := hJ
       rcases m with _ | m3
       · cases (show none = some r from hp)
       rw [ref22_Batch_Add.L3] at hp
       refine Wseq ?_
       refine Wseq ?_
       refine Wreg ?_
       refine rs (v := .int .i64 j49) (mv (v := .int .i64 j49) rfl) rfl ?_
       refine rs (v := .int .i64 j1) (mv (v := .int .i64 j1) rfl) rfl ?_
       refine rs (v := .bool (decide (j49 < j1))) (lt' rfl rfl) rfl ?_
       refine rn ?_
       refine qn ?_
       cases hb51 : (decide (j49 < j1))
       · replace hp := gneg hp (of_decide_eq_false hb51)
         refine Wcf rfl ?_
         refine Wexit ?_
         refine qx ?_
         refine qx ?_
         refine be ?_
         refine qn ?_
         refine Wseq ?_
         refine Wreg ?_
         refine rs (v := .bool j48) (mv (v := .bool j48) rfl) rfl ?_
         refine rn ?_
         refine qn ?_
         cases hb52 : j48
         · replace hp := gneg hp (by rw [hb52]; exact Bool.false_ne_true)
           subst hb52
           refine Wcf rfl ?_
           refine Wskip ?_
           refine bn ?_
           refine qn ?_
           refine Wreg ?_
           refine rs (v := .int .i64 j1) (mv (v := .int .i64 j1) rfl) rfl ?_
           refine rs (v := .int .i64 (IntKind.i64.wrap (j1 + 1))) (adw rfl rfl) rfl ?_
           refine rs (v := .int .i64 (IntKind.i64.wrap (j1 + 1))) (av (v := .int .i64 (IntKind.i64.wrap (j1 + 1))) rfl) rfl ?_
           refine rn ?_
           refine qn ?_
           exact ⟨m1, Nat.lt_succ_self _, ⟨(IntKind.i64.wrap (j1 + 1)), rfl, hp, hc⟩, (kl rfl (km rfl (kl rfl k0)))⟩
         · replace hp := gpos hp hb52
           subst hb52
           refine Wct rfl ?_
           refine Wseq ?_
           refine Wreg ?_
           refine rs (v := .int .i64 210) (av (v := .int .i64 210) rfl) rfl ?_
           refine rn ?_
           refine qn ?_
           refine Wret ?_
           refine br ?_
           refine qr ?_
           refine qr ?_
           refine br ?_
           refine qr ?_
           injection hp with hp; subst hp
           refine f1 (v := .int .i64 210) Try.results17 Try.ntmps17 rfl ?_
           exact ⟨_, rfl, k _ hc⟩
       · replace hp := gpos hp (of_decide_eq_true hb51)
         refine Wct rfl ?_
         refine Wskip ?_
         refine qn ?_
         refine Wseqm [6, 27, 28, 29, 30, 31, 32, 33, 34, 35, 36, 37, 38] [6] (fun vs w' => ∃ j53 : Bool, vs = [.bool j53] ∧ ref22_Batch_Add.J4 j49 (ref22_Batch_Add.L3 x0 x1 j1 (ref22_Batch_Add.L1 N x0 x1 m1) m3) j53 = some r ∧ Ctx w' (S_ref22_Batch.hp b0 x0 :: P1 :: Fr)) ?_ ?_
         · refine Wblk ?_
           replace hc := hc.drew
           refine Wdrw (fun _ w' => w' = World.drew w50) [0, 1, 3, 3, 15, 31, 3, 3, 195, 451, 1023, 2047, 4095] 0 0 rfl (by kernel_rfl) (fun _ _ => rfl) ?_
           generalize hw : World.drew w50 = w54 at *
           clear hw
           refine ds (v := .bool j48) rfl (fun w' hF => by subst hF; exact mv (v := .bool j48) rfl) rfl ?_
           refine ds (v := .bool j48) rfl (fun w' hF => by subst hF; exact mv (v := .bool j48) rfl) rfl ?_
           cases hb55 : j48
           · replace hp := gneg hp (by rw [hb55]; exact Bool.false_ne_true)
             subst hb55
             refine ds (v := .slice (some ⟨b40, o41, none⟩) x1.length qx1) rfl (fun w' hF => by subst hF; exact mv (v := .slice (some ⟨b40, o41, none⟩) x1.length qx1) rfl) rfl ?_
             refine ds (v := .int .i64 j49) rfl (fun w' hF => by subst hF; exact mv (v := .int .i64 j49) rfl) rfl ?_
             replace hp := bind_some hp; obtain ⟨y56, hy56, hp⟩ := hp
             obtain ⟨b59, o60, u61, hi57, hi58⟩ := Ctx.rdAt hc (k := 1) rfl rfl hrd1 hy56
             clear u61
             refine ds (v := .pointer (some ⟨b40, o41 + (j49).toNat * 1, none⟩)) rfl (fun w' hF => by subst hF; exact ixx rfl rfl Try.underlying22 Try.sizeOf3 hi57 hi58 rfl) rfl ?_
             replace hc := Ctx.rdCell hc (k := 1) rfl rfl hrd1 hy56; obtain ⟨cs62, hc, hcell63⟩ := hc
             replace hc := Ctx.holdC hc; obtain ⟨u64, hc⟩ := hc; subst u64
             refine ds (v := .int .i64 y56) rfl (fun w' hF => by subst hF; exact ld rfl Try.isAgg3 (hcell63 0 _ rfl)) rfl ?_
             refine ds (v := .slice (some ⟨b40, o41, none⟩) x1.length qx1) rfl (fun w' hF => by subst hF; exact mv (v := .slice (some ⟨b40, o41, none⟩) x1.length qx1) rfl) rfl ?_
             refine ds (v := .int .i64 j1) rfl (fun w' hF => by subst hF; exact mv (v := .int .i64 j1) rfl) rfl ?_
             replace hp := bind_some hp; obtain ⟨y65, hy65, hp⟩ := hp
             obtain ⟨b68, o69, u70, hi66, hi67⟩ := Ctx.rdAt hc (k := 1) rfl rfl hrd1 hy65
             clear u70
             refine ds (v := .pointer (some ⟨b40, o41 + (j1).toNat * 1, none⟩)) rfl (fun w' hF => by subst hF; exact ixx rfl rfl Try.underlying22 Try.sizeOf3 hi66 hi67 rfl) rfl ?_
             replace hc := Ctx.rdCell hc (k := 1) rfl rfl hrd1 hy65; obtain ⟨cs71, hc, hcell72⟩ := hc
             replace hc := Ctx.holdC hc; obtain ⟨u73, hc⟩ := hc; subst u73
             refine ds (v := .int .i64 y65) rfl (fun w' hF => by subst hF; exact ld rfl Try.isAgg3 (hcell72 0 _ rfl)) rfl ?_
             refine ds (v := .bool (decide (y56 = y65))) rfl (fun w' hF => by subst hF; exact eqd rfl rfl) rfl ?_
             refine ds (v := .bool (decide (y56 = y65))) rfl (fun w' hF => by subst hF; exact pkf (v := .bool (decide (y56 = y65))) rfl rfl) rfl ?_
             refine ds (v := .bool (decide (y56 = y65))) rfl (fun w' hF => av (v := .bool (decide (y56 = y65))) rfl) rfl ?_
             refine dn ?_
             refine bn ?_
             refine qn ?_
             exact ⟨⟨decide (y56 = y65), rfl, hp, hc⟩, (kl rfl kb)⟩
           · replace hp := gpos hp hb55
             subst hb55
             refine d0 rfl rfl ?_
             refine d0 rfl rfl ?_
             refine d0 rfl rfl ?_
             refine d0 rfl rfl ?_
             refine d0 rfl rfl ?_
             refine d0 rfl rfl ?_
             refine d0 rfl rfl ?_
             refine d0 rfl rfl ?_
             refine d0 rfl rfl ?_
             refine ds (v := .bool true) rfl (fun w' hF => by subst hF; exact pkt (v := .bool true) rfl rfl) rfl ?_
             refine ds (v := .bool true) rfl (fun w' hF => av (v := .bool true) rfl) rfl ?_
             refine dn ?_
             refine bn ?_
             refine qn ?_
             exact ⟨⟨true, rfl, hp, hc⟩, (kl rfl kb)⟩
         · clear hp hc; intro vs u w74 hJ
           obtain ⟨j53, rfl, hp, hc⟩ := hJ
           unfold ref22_Batch_Add.J4 at hp
           refine Wreg ?_
           refine rs (v := .int .i64 j49) (mv (v := .int .i64 j49) rfl) rfl ?_
           refine rs (v := .int .i64 (IntKind.i64.wrap (j49 + 1))) (adw rfl rfl) rfl ?_
           refine rs (v := .int .i64 (IntKind.i64.wrap (j49 + 1))) (av (v := .int .i64 (IntKind.i64.wrap (j49 + 1))) rfl) rfl ?_
           refine rn ?_
           refine qn ?_
           exact ⟨m3, Nat.lt_succ_self _, ⟨j53, (IntKind.i64.wrap (j49 + 1)), rfl, hp, hc⟩, (kl rfl (km rfl (kl rfl k0)))⟩

-- FN (*peloton/pelotonref22.Batch).Remove
def ref22_Batch_Remove (N : Nat) (x0 : S_ref22_Batch) (x1 : Int) : Option (Int × S_ref22_Batch) :=
  (ref22_Batch_Find N x0 x1).bind fun r1 =>
  if r1 < 0 then
    some (0, x0)
  else
    chk (0 ≤ r1 ∧ r1 ≤ ((x0.L.length : Nat) : Int)) <|
    (app ([]) (x0.L.take (r1).toNat)).bind fun z10 =>
    chk (0 ≤ (IntKind.i64.wrap (r1 + 1)) ∧ (IntKind.i64.wrap (r1 + 1)) ≤ ((x0.L.length : Nat) : Int) ∧ ((x0.L.length : Nat) : Int) ≤ ((x0.L.length : Nat) : Int)) <|
    (app z10 ((x0.L.take (((x0.L.length : Nat) : Int)).toNat).drop ((IntKind.i64.wrap (r1 + 1))).toNat)).bind fun z22 =>
    some (1, (⟨x0.Width, z22⟩ : S_ref22_Batch))

set_option maxHeartbeats 8000000 in
theorem ref22_Batch_Remove_any {N : Nat} {b0 : Nat} {x0 : S_ref22_Batch} {x1 : Int} {Fr : List HP} {w : World} {r : Int × S_ref22_Batch} {K : Value → World → Prop}  (hc : Ctx w (S_ref22_Batch.hp b0 x0 :: Fr)) (hp : ref22_Batch_Remove N x0 x1 = some r)
    (k : ∀ w', Ctx w' (S_ref22_Batch.hp b0 r.2 :: Fr) → K (.int .i64 r.1) w') : Calls Try.prog 18 #[.pointer (some ⟨b0, 0, none⟩), .int .i64 x1] w (Ret K) := by
 unfold ref22_Batch_Remove at hp
 refine Center (args := [.pointer (some ⟨b0, 0, none⟩), .int .i64 x1]) (l := [(0, .pointer (some ⟨b0, 0, none⟩)), (1, .int .i64 x1)]) Try.func18 Try.ntmps18 rfl rfl rfl ?_
 refine Wseq ?_
 refine Wreg ?_
 refine rs (v := .int .i64 0) (av (v := .int .i64 0) rfl) rfl ?_
 refine rn ?_
 refine qn ?_
 refine Wseq ?_
 refine Wreg ?_
 refine rs (v := .pointer (some ⟨b0, 0, none⟩)) (mv (v := .pointer (some ⟨b0, 0, none⟩)) rfl) rfl ?_
 refine rs (v := .int .i64 x1) (mv (v := .int .i64 x1) rfl) rfl ?_
 replace hp := bind_some hp; obtain ⟨r1, hr1, hp⟩ := hp
 refine rc (cl Try.call29 rfl rfl) rfl ?_
 refine ref22_Batch_Find_any hc hr1 ?_
 clear hc; intro w2 hc
 refine rs (v := .int .i64 r1) (av (v := .int .i64 r1) rfl) rfl ?_
 refine rn ?_
 refine qn ?_
 refine Wseq ?_
 refine Wseq ?_
 refine Wreg ?_
 refine rs (v := .int .i64 r1) (mv (v := .int .i64 r1) rfl) rfl ?_
 refine rs (v := .bool (decide (r1 < 0))) (lt' rfl rfl) rfl ?_
 refine rn ?_
 refine qn ?_
 cases hb3 : (decide (r1 < 0))
 · replace hp := gneg hp (of_decide_eq_false hb3)
   refine Wcf rfl ?_
   refine Wskip ?_
   refine qn ?_
   refine Wseq ?_
   refine Wreg ?_
   refine rs (v := .slice none 0 0) (av (v := .slice none 0 0) rfl) rfl ?_
   refine rn ?_
   refine qn ?_
   refine Wseq ?_
   refine Wreg ?_
   refine rs (v := .slice none 0 0) (mv (v := .slice none 0 0) rfl) rfl ?_
   refine rs (v := .pointer (some ⟨b0, 0, none⟩)) (mv (v := .pointer (some ⟨b0, 0, none⟩)) rfl) rfl ?_
   refine rs (v := .pointer (some ⟨b0, 0, none⟩)) (nl rfl) rfl ?_
   refine rs (v := .pointer (some ⟨b0, 1, none⟩)) (fax 1 rfl Try.underlying42 rfl Try.sizeOf40 rfl rfl rfl) rfl ?_
   replace hc := Ctx.exF hc; obtain ⟨v4, hc⟩ := hc
   replace hc := Ctx.sepF hc
   obtain ⟨a5, q6, u7⟩ := hc.rd (k := 1) rfl rfl reads_own; subst u7
   refine rs (v := .slice a5 x0.L.length q6) (ld rfl Try.isAgg40 (Ctx.cell hc (k := 0) rfl rfl rfl)) rfl ?_
   refine rs (v := .int .i64 r1) (mv (v := .int .i64 r1) rfl) rfl ?_
   replace hp := chk_some hp; obtain ⟨hg8, hp⟩ := hp
   refine rsE (Ctx.subOp0 (hv := r1) hc (k := 1) rfl rfl reads_own rfl ⟨_, rfl⟩ Try.underlying40 Try.sizeOf57 hg8) rfl ?_
   rintro _ _ ⟨rfl, rfl, rd9⟩
   replace hc := hc.nilOwn S_ref22_Member.pr 57
   replace hp := bind_some hp; obtain ⟨z10, hz10, hp⟩ := hp
   obtain ⟨hg11, e12⟩ := app_some hz10
   refine rsE (Ctx.append hc (k := 0) rfl rfl (k2 := 2) rfl rfl rd9 Try.underlying40 (i := Try.t57) rfl rfl rfl rfl rfl rfl rfl rfl hg11) rfl ?_
   clear hc; rintro _ w15 ⟨a13, q14, rfl, hc⟩
   rw [← e12] at hc ⊢
   refine rs (v := .slice a13 z10.length q14) (av (v := .slice a13 z10.length q14) rfl) rfl ?_
   refine rn ?_
   refine qn ?_
   refine Wseq ?_
   refine Wreg ?_
   refine rs (v := .pointer (some ⟨b0, 0, none⟩)) (mv (v := .pointer (some ⟨b0, 0, none⟩)) rfl) rfl ?_
   refine rs (v := .slice a13 z10.length q14) (mv (v := .slice a13 z10.length q14) rfl) rfl ?_
   refine rs (v := .pointer (some ⟨b0, 0, none⟩)) (mv (v := .pointer (some ⟨b0, 0, none⟩)) rfl) rfl ?_
   refine rs (v := .pointer (some ⟨b0, 0, none⟩)) (nl rfl) rfl ?_
   refine rs (v := .pointer (some ⟨b0, 1, none⟩)) (fax 1 rfl Try.underlying42 rfl Try.sizeOf40 rfl rfl rfl) rfl ?_
   refine rs (v := .slice a5 x0.L.length q6) (ld rfl Try.isAgg40 (Ctx.cell hc (k := 1) rfl rfl rfl)) rfl ?_
   refine rs (v := .int .i64 r1) (mv (v := .int .i64 r1) rfl) rfl ?_
   refine rs (v := .int .i64 (IntKind.i64.wrap (r1 + 1))) (adw rfl rfl) rfl ?_
   replace hp := chk_some hp; obtain ⟨hg16, hp⟩ := hp
   refine rsE (Ctx.subOp (li := some (IntKind.i64.wrap (r1 + 1))) (hi' := none) hc (k := 2) rfl rfl reads_own rfl ⟨_, rfl⟩ trivial Try.underlying40 Try.sizeOf57 hg16) rfl ?_
   rintro _ _ ⟨rfl, a17, q18, rfl, rd19, ea20, eq21⟩
   replace rd19 : Reads (Own S_ref22_Member.pr 57 (.slice a5 x0.L.length q6) x0.L) S_ref22_Member.pr (.slice a17 ((((x0.L.length : Nat) : Int)).toNat - ((IntKind.i64.wrap (r1 + 1))).toNat) q18) ((x0.L.take (((x0.L.length : Nat) : Int)).toNat).drop ((IntKind.i64.wrap (r1 + 1))).toNat) := rd19
   replace hp := bind_some hp; obtain ⟨z22, hz22, hp⟩ := hp
   obtain ⟨hg23, e24⟩ := app_some hz22
   refine rsE (Ctx.append hc (k := 0) rfl rfl (k2 := 2) rfl rfl rd19 Try.underlying40 (i := Try.t57) rfl rfl rfl rfl rfl rfl rfl rfl hg23) rfl ?_
   clear hc; rintro _ w27 ⟨a25, q26, rfl, hc⟩
   rw [← e24] at hc ⊢
   refine rs (v := .pointer (some ⟨b0, 0, none⟩)) (nl rfl) rfl ?_
   refine rs (v := .pointer (some ⟨b0, 1, none⟩)) (fax 1 rfl Try.underlying42 rfl Try.sizeOf40 rfl rfl rfl) rfl ?_
   refine ruE (A := fun w' => Ctx w' (Own S_ref22_Member.pr 57 (.slice a25 z22.length q26) z22 :: B b0 [.int .i64 x0.Width, .slice a25 z22.length q26] 42 :: Own S_ref22_Member.pr 57 (.slice a5 x0.L.length q6) x0.L :: Fr)) (Ctx.putOp hc (k := 1) rfl rfl (v := .slice a25 z22.length q26) rfl rfl rfl Try.sizeOf40 rfl rfl rfl) rfl ?_
   clear hc; rintro w28 hc
   refine rn ?_
   refine qn ?_
   refine Wseq ?_
   refine Wreg ?_
   refine rs (v := .int .i64 1) (av (v := .int .i64 1) rfl) rfl ?_
   refine rn ?_
   refine qn ?_
   refine Wret ?_
   replace hc := hc.pull 1 rfl rfl
   replace hc : Ctx w28 (S_ref22_Batch.hp b0 (⟨x0.Width, z22⟩ : S_ref22_Batch) :: Own S_ref22_Member.pr 57 (.slice a5 x0.L.length q6) x0.L :: Fr) := Ctx.exB _ _ (Ctx.sepB hc)
   replace hc := hc.rem 1 rfl rfl
   injection hp with hp; subst hp
   refine f1 (v := .int .i64 1) Try.results18 Try.ntmps18 rfl ?_
   exact ⟨_, rfl, k _ hc⟩
 · replace hp := gpos hp (of_decide_eq_true hb3)
   refine Wct rfl ?_
   refine Wseq ?_
   refine Wreg ?_
   refine rs (v := .int .i64 0) (av (v := .int .i64 0) rfl) rfl ?_
   refine rn ?_
   refine qn ?_
   refine Wret ?_
   refine qr ?_
   injection hp with hp; subst hp
   refine f1 (v := .int .i64 0) Try.results18 Try.ntmps18 rfl ?_
   exact ⟨_, rfl, k _ hc⟩

-- FN (*peloton/pelotonref22.Batch).Pick
def ref22_Batch_Pick.J4 (j10 : Int) (k2 : Int → Int → Option ((List Int) × S_ref22_Batch)) (j57 : Int) : Option ((List Int) × S_ref22_Batch) :=
  k2 j57 (IntKind.i64.wrap (j10 + 1))

def ref22_Batch_Pick.J5 (j9 : Int) (j10 : Int) (k2 : Int → Int → Option ((List Int) × S_ref22_Batch)) (j58 : Bool) : Option ((List Int) × S_ref22_Batch) :=
  if j58 = true then
    ref22_Batch_Pick.J4 j10 k2 j10
  else
    ref22_Batch_Pick.J4 j10 k2 j9

def ref22_Batch_Pick.J3 (N : Nat) (j1 : S_ref22_Batch) (j2 : (List Int)) (j9 : Int) (j10 : Int) (k1 : S_ref22_Batch → (List Int) → Option ((List Int) × S_ref22_Batch)) (k2 : Int → Int → Option ((List Int) × S_ref22_Batch)) (j12 : Bool) : Option ((List Int) × S_ref22_Batch) :=
  if j12 = true then
    (idx j1.L j10).bind fun y63 =>
    if y63.In = true then
      ref22_Batch_Pick.J5 j9 j10 k2 false
    else
      ref22_Batch_Pick.J5 j9 j10 k2 true
  else
    if j9 < 0 then
      some (j2, j1)
    else
      (idx j1.L j9).bind fun y25 =>
      (ref22_Batch_Remove N j1 y25.ID).bind fun r34 =>
      (app r34.2.L ([(⟨y25.ID, true⟩ : S_ref22_Member)])).bind fun z42 =>
      (app j2 ([y25.ID])).bind fun z51 =>
      k1 (⟨r34.2.Width, z42⟩ : S_ref22_Batch) z51

def ref22_Batch_Pick.L2 (N : Nat) (j1 : S_ref22_Batch) (j2 : (List Int)) (k1 : S_ref22_Batch → (List Int) → Option ((List Int) × S_ref22_Batch)) : Nat → Int → Int → Option ((List Int) × S_ref22_Batch)
  | 0, _, _ => none
  | m2 + 1, j9, j10 =>
    if j10 < ((j1.L.length : Nat) : Int) then
      ref22_Batch_Pick.J3 N j1 j2 j9 j10 k1 (ref22_Batch_Pick.L2 N j1 j2 k1 m2) (decide (j9 < 0))
    else
      ref22_Batch_Pick.J3 N j1 j2 j9 j10 k1 (ref22_Batch_Pick.L2 N j1 j2 k1 m2) false

def ref22_Batch_Pick.L1 (N : Nat) (x1 : Int) : Nat → S_ref22_Batch → (List Int) → Option ((List Int) × S_ref22_Batch)
  | 0, _, _ => none
  | m1 + 1, j1, j2 =>
    if ((j2.length : Nat) : Int) < x1 then
      ref22_Batch_Pick.L2 N j1 j2 (ref22_Batch_Pick.L1 N x1 m1) N (-1) 0
    else
      some (j2, j1)

def ref22_Batch_Pick (N : Nat) (x0 : S_ref22_Batch) (x1 : Int) : Option ((List Int) × S_ref22_Batch) :=
  ref22_Batch_Pick.L1 N x1 N x0 ([])

set_option maxHeartbeats 8000000 in
theorem ref22_Batch_Pick_any {N : Nat} {b0 : Nat} {x0 : S_ref22_Batch} {x1 : Int} {Fr : List HP} {w : World} {r : (List Int) × S_ref22_Batch} {K : Value → World → Prop}  (hc : Ctx w (S_ref22_Batch.hp b0 x0 :: Fr)) (hp : ref22_Batch_Pick N x0 x1 = some r)
    (k : ∀ (a76 : Option Addr) (n77 : Nat) (q78 : Nat) w', Ctx w' (Own (pInt .i64) 3 (.slice a76 n77 q78) r.1 :: S_ref22_Batch.hp b0 r.2 :: Fr) → K (.slice a76 n77 q78) w') : Calls Try.prog 19 #[.pointer (some ⟨b0, 0, none⟩), .int .i64 x1] w (Ret K) := by
 unfold ref22_Batch_Pick at hp
 refine Center (args := [.pointer (some ⟨b0, 0, none⟩), .int .i64 x1]) (l := [(0, .pointer (some ⟨b0, 0, none⟩)), (1, .int .i64 x1)]) Try.func19 Try.ntmps19 rfl rfl rfl ?_
 refine Wseq ?_
 refine Wreg ?_
 refine rs (v := .slice none 0 0) (av (v := .slice none 0 0) rfl) rfl ?_
 refine rn ?_
 refine qn ?_
 refine Wseq ?_
 refine Wreg ?_
 refine rs (v := .slice none 0 0) (av (v := .slice none 0 0) rfl) rfl ?_
 refine rn ?_
 refine qn ?_
 refine Wseq ?_
 refine Wblk ?_
 replace hc := hc.nilOwn (pInt .i64) 3
 replace hc := hc.pull 1 rfl rfl
 refine Wloop [4, 5, 6, 7, 8, 9, 10, 11, 12, 13, 14, 15, 16, 17, 18, 19, 20, 21, 22, 23, 24, 25, 26, 27, 28, 29, 30, 31, 32, 33, 34, 35, 36, 37, 38, 39, 40, 41, 42, 43, 44, 45, 46, 47, 48, 49, 50, 51, 52, 53, 54, 55, 56, 57, 58, 59, 60, 61, 62, 63, 64] [5] (fun m vs w' => ∃ j1 : S_ref22_Batch, ∃ j2 : (List Int), ∃ a3 : Option Addr, ∃ n4 : Nat, ∃ q5 : Nat, vs = [.slice a3 n4 q5] ∧ ref22_Batch_Pick.L1 N x1 m j1 j2 = some r ∧ Ctx w' (S_ref22_Batch.hp b0 j1 :: Own (pInt .i64) 3 (.slice a3 n4 q5) j2 :: Fr)) N ?_ ?_
 · exact ⟨x0, [], none, 0, 0, rfl, hp, hc⟩
 · clear hp hc; intro m vs u w6 hJ
   obtain ⟨j1, j2, a3, n4, q5, rfl, hp, hc⟩ := hJ
   obtain ⟨u7, _⟩ := Ctx.rdLen hc (k := 1) rfl rfl reads_own; subst u7
   rcases m with _ | m1
   · cases (show none = some r from hp)
   rw [ref22_Batch_Pick.L1] at hp
   refine Wseq ?_
   refine Wseq ?_
   refine Wreg ?_
   refine rs (v := .slice a3 j2.length q5) (mv (v := .slice a3 j2.length q5) rfl) rfl ?_
   refine rs (v := .int .i64 ((j2.length : Nat) : Int)) (ln rfl Try.underlying22) rfl ?_
   refine rs (v := .int .i64 x1) (mv (v := .int .i64 x1) rfl) rfl ?_
   refine rs (v := .bool (decide (((j2.length : Nat) : Int) < x1))) (lt' rfl rfl) rfl ?_
   refine rn ?_
   refine qn ?_
   cases hb8 : (decide (((j2.length : Nat) : Int) < x1))
   · replace hp := gneg hp (of_decide_eq_false hb8)
     refine Wcf rfl ?_
     refine Wexit ?_
     refine qx ?_
     refine qx ?_
     refine be ?_
     refine qn ?_
     refine Wseq ?_
     refine Wreg ?_
     refine rs (v := .slice a3 j2.length q5) (mv (v := .slice a3 j2.length q5) rfl) rfl ?_
     refine rs (v := .slice a3 j2.length q5) (av (v := .slice a3 j2.length q5) rfl) rfl ?_
     refine rn ?_
     refine qn ?_
     refine Wret ?_
     replace hc := hc.pull 1 rfl rfl
     injection hp with hp; subst hp
     refine f1 (v := .slice a3 j2.length q5) Try.results19 Try.ntmps19 rfl ?_
     exact ⟨_, rfl, k _ _ _ _ hc⟩
   · replace hp := gpos hp (of_decide_eq_true hb8)
     refine Wct rfl ?_
     refine Wskip ?_
     refine qn ?_
     refine Wblk ?_
     refine Wseq ?_
     refine Wreg ?_
     refine rs (v := .int .i64 (-1)) (av (v := .int .i64 (-1)) rfl) rfl ?_
     refine rn ?_
     refine qn ?_
     refine Wseq ?_
     refine Wseq ?_
     refine Wreg ?_
     refine rs (v := .int .i64 0) (av (v := .int .i64 0) rfl) rfl ?_
     refine rn ?_
     refine qn ?_
     refine Wblk ?_
     refine Wloop [6, 7, 13, 14, 15, 16, 17, 18, 19, 20, 21, 22, 23, 24, 25, 26, 27, 28, 29, 30, 31, 32, 33, 34, 35] [6, 7] (fun m vs w' => ∃ j9 : Int, ∃ j10 : Int, vs = [.int .i64 j9, .int .i64 j10] ∧ ref22_Batch_Pick.L2 N j1 j2 (ref22_Batch_Pick.L1 N x1 m1) m j9 j10 = some r ∧ Ctx w' (S_ref22_Batch.hp b0 j1 :: Own (pInt .i64) 3 (.slice a3 j2.length q5) j2 :: Fr)) N ?_ ?_
     · exact ⟨(-1), 0, rfl, hp, hc⟩
     · clear hp hc; intro m vs u w11 hJ
       obtain ⟨j9, j10, rfl, hp, hc⟩ := hJ
       rcases m with _ | m2
       · cases (show none = some r from hp)
       rw [ref22_Batch_Pick.L2] at hp
       refine Wseq ?_
       refine Wseqm [13, 14, 15, 16, 17, 18, 19, 20, 21, 22, 23] [23] (fun vs w' => ∃ j12 : Bool, vs = [.bool j12] ∧ ref22_Batch_Pick.J3 N j1 j2 j9 j10 (ref22_Batch_Pick.L1 N x1 m1) (ref22_Batch_Pick.L2 N j1 j2 (ref22_Batch_Pick.L1 N x1 m1) m2) j12 = some r ∧ Ctx w' (S_ref22_Batch.hp b0 j1 :: Own (pInt .i64) 3 (.slice a3 j2.length q5) j2 :: Fr)) ?_ ?_
       · refine Wreg ?_
         refine rs (v := .int .i64 j10) (mv (v := .int .i64 j10) rfl) rfl ?_
         refine rs (v := .pointer (some ⟨b0, 0, none⟩)) (mv (v := .pointer (some ⟨b0, 0, none⟩)) rfl) rfl ?_
         refine rs (v := .pointer (some ⟨b0, 0, none⟩)) (nl rfl) rfl ?_
         refine rs (v := .pointer (some ⟨b0, 1, none⟩)) (fax 1 rfl Try.underlying42 rfl Try.sizeOf40 rfl rfl rfl) rfl ?_
         replace hc := Ctx.exF hc; obtain ⟨v13, hc⟩ := hc
         replace hc := Ctx.sepF hc
         obtain ⟨a14, q15, u16⟩ := hc.rd (k := 1) rfl rfl reads_own; subst u16
         refine rs (v := .slice a14 j1.L.length q15) (ld rfl Try.isAgg40 (Ctx.cell hc (k := 0) rfl rfl rfl)) rfl ?_
         refine rs (v := .int .i64 ((j1.L.length : Nat) : Int)) (ln rfl Try.underlying40) rfl ?_
         refine rs (v := .bool (decide (j10 < ((j1.L.length : Nat) : Int)))) (lt' rfl rfl) rfl ?_
         refine rs (v := .bool (decide (j10 < ((j1.L.length : Nat) : Int)))) (mv (v := .bool (decide (j10 < ((j1.L.length : Nat) : Int)))) rfl) rfl ?_
         cases hb17 : (decide (j10 < ((j1.L.length : Nat) : Int)))
         · replace hp := gneg hp (of_decide_eq_false hb17)
           refine r0 rfl ?_
           refine r0 rfl ?_
           refine rs (v := .bool false) (pkf (v := .bool false) rfl rfl) rfl ?_
           refine rn ?_
           refine qn ?_
           replace hc := hc.pull 1 rfl rfl
           replace hc := hc.pull 1 rfl rfl
           replace hc : Ctx w11 (S_ref22_Batch.hp b0 j1 :: Own (pInt .i64) 3 (.slice a3 j2.length q5) j2 :: Fr) := Ctx.exB _ _ (Ctx.sepB hc)
           exact ⟨⟨false, rfl, hp, hc⟩, (kl rfl kb)⟩
         · replace hp := gpos hp (of_decide_eq_true hb17)
           refine rs (v := .int .i64 j9) (mv (v := .int .i64 j9) rfl) rfl ?_
           refine rs (v := .bool (decide (j9 < 0))) (lt' rfl rfl) rfl ?_
           refine rs (v := .bool (decide (j9 < 0))) (pkt (v := .bool (decide (j9 < 0))) rfl rfl) rfl ?_
           refine rn ?_
           refine qn ?_
           replace hc := hc.pull 1 rfl rfl
           replace hc := hc.pull 1 rfl rfl
           replace hc : Ctx w11 (S_ref22_Batch.hp b0 j1 :: Own (pInt .i64) 3 (.slice a3 j2.length q5) j2 :: Fr) := Ctx.exB _ _ (Ctx.sepB hc)
           exact ⟨⟨decide (j9 < 0), rfl, hp, hc⟩, (kl rfl kb)⟩
       · clear hp hc; intro vs u w18 hJ
         obtain ⟨j12, rfl, hp, hc⟩ := hJ
         unfold ref22_Batch_Pick.J3 at hp
         cases hb19 : j12
         · replace hp := gneg hp (by rw [hb19]; exact Bool.false_ne_true)
           subst hb19
           refine Wcf rfl ?_
           refine Wexit ?_
           refine qx ?_
           refine qx ?_
           refine be ?_
           refine qn ?_
           refine Wseq ?_
           refine Wseq ?_
           refine Wreg ?_
           refine rs (v := .int .i64 j9) (mv (v := .int .i64 j9) rfl) rfl ?_
           refine rs (v := .bool (decide (j9 < 0))) (lt' rfl rfl) rfl ?_
           refine rn ?_
           refine qn ?_
           cases hb20 : (decide (j9 < 0))
           · replace hp := gneg hp (of_decide_eq_false hb20)
             refine Wcf rfl ?_
             refine Wskip ?_
             refine qn ?_
             refine Wseq ?_
             refine Wreg ?_
             refine rs (v := .pointer (some ⟨b0, 0, none⟩)) (mv (v := .pointer (some ⟨b0, 0, none⟩)) rfl) rfl ?_
             refine rs (v := .pointer (some ⟨b0, 0, none⟩)) (nl rfl) rfl ?_
             refine rs (v := .pointer (some ⟨b0, 1, none⟩)) (fax 1 rfl Try.underlying42 rfl Try.sizeOf40 rfl rfl rfl) rfl ?_
             replace hc := Ctx.exF hc; obtain ⟨v21, hc⟩ := hc
             replace hc := Ctx.sepF hc
             obtain ⟨a22, q23, u24⟩ := hc.rd (k := 1) rfl rfl reads_own; subst u24
             refine rs (v := .slice a22 j1.L.length q23) (ld rfl Try.isAgg40 (Ctx.cell hc (k := 0) rfl rfl rfl)) rfl ?_
             refine rs (v := .int .i64 j9) (mv (v := .int .i64 j9) rfl) rfl ?_
             replace hp := bind_some hp; obtain ⟨y25, hy25, hp⟩ := hp
             obtain ⟨b28, o29, u30, hi26, hi27⟩ := Ctx.rdAt hc (k := 1) rfl rfl reads_own hy25
             subst u30
             refine rs (v := .pointer (some ⟨b28, o29 + (j9).toNat * 2, none⟩)) (ixx rfl rfl Try.underlying40 Try.sizeOf57 hi26 hi27 rfl) rfl ?_
             refine rs (v := .pointer (some ⟨b28, o29 + (j9).toNat * 2 + 0, none⟩)) (fax 0 rfl Try.underlying57 rfl Try.sizeOf3 rfl rfl rfl) rfl ?_
             replace hc := Ctx.rdCell hc (k := 1) rfl rfl reads_own hy25; obtain ⟨cs31, hc, hcell32⟩ := hc
             replace hc := Ctx.holdC hc; obtain ⟨u33, hc⟩ := hc; subst u33
             refine rs (v := .int .i64 y25.ID) (ld rfl Try.isAgg3 (hcell32 0 _ rfl)) rfl ?_
             refine rs (v := .int .i64 y25.ID) (av (v := .int .i64 y25.ID) rfl) rfl ?_
             refine rn ?_
             refine qn ?_
             refine Wseq ?_
             refine Wreg ?_
             refine rs (v := .pointer (some ⟨b0, 0, none⟩)) (mv (v := .pointer (some ⟨b0, 0, none⟩)) rfl) rfl ?_
             refine rs (v := .int .i64 y25.ID) (mv (v := .int .i64 y25.ID) rfl) rfl ?_
             replace hc := hc.pull 1 rfl rfl
             replace hc := hc.pull 1 rfl rfl
             replace hc : Ctx w18 (S_ref22_Batch.hp b0 j1 :: Own (pInt .i64) 3 (.slice a3 j2.length q5) j2 :: Fr) := Ctx.exB _ _ (Ctx.sepB hc)
             replace hp := bind_some hp; obtain ⟨r34, hr34, hp⟩ := hp
             refine rc (cl Try.call18 rfl rfl) rfl ?_
             refine ref22_Batch_Remove_any hc hr34 ?_
             clear hc; intro w35 hc
             refine rn ?_
             refine qn ?_
             refine Wseq ?_
             refine Wreg ?_
             refine rs (v := .pointer (some ⟨b0, 0, none⟩)) (mv (v := .pointer (some ⟨b0, 0, none⟩)) rfl) rfl ?_
             refine rs (v := .pointer (some ⟨b0, 0, none⟩)) (mv (v := .pointer (some ⟨b0, 0, none⟩)) rfl) rfl ?_
             refine rs (v := .pointer (some ⟨b0, 0, none⟩)) (nl rfl) rfl ?_
             refine rs (v := .pointer (some ⟨b0, 1, none⟩)) (fax 1 rfl Try.underlying42 rfl Try.sizeOf40 rfl rfl rfl) rfl ?_
             replace hc := Ctx.exF hc; obtain ⟨v36, hc⟩ := hc
             replace hc := Ctx.sepF hc
             obtain ⟨a37, q38, u39⟩ := hc.rd (k := 1) rfl rfl reads_own; subst u39
             refine rs (v := .slice a37 r34.2.L.length q38) (ld rfl Try.isAgg40 (Ctx.cell hc (k := 0) rfl rfl rfl)) rfl ?_
             refine rs (v := .int .i64 y25.ID) (mv (v := .int .i64 y25.ID) rfl) rfl ?_
             refine rs (v := .agg #[.int .i64 y25.ID, .bool true]) (bd_57_0_1 rfl rfl) rfl ?_
             replace hc : Ctx w35 (Hold S_ref22_Member.pr [.int .i64 y25.ID, .bool true] (⟨y25.ID, true⟩ : S_ref22_Member) :: B b0 [.int .i64 r34.2.Width, .slice a37 r34.2.L.length q38] 42 :: Own S_ref22_Member.pr 57 (.slice a37 r34.2.L.length q38) r34.2.L :: Own (pInt .i64) 3 (.slice a3 j2.length q5) j2 :: Fr) := hc.add _ fun _ _ _ => ⟨rfl, rfl⟩
             refine rsE (Ctx.builtOp (css := [[.int .i64 y25.ID, .bool true]]) (xs := ([(⟨y25.ID, true⟩ : S_ref22_Member)] : List S_ref22_Member)) (E := S_ref22_Member.pr) hc Try.underlying40 Try.sizeOf57 Try.zeroValue57 rfl rfl rfl rfl rfl rfl rfl rfl) rfl ?_
             clear hc; rintro _ w41 ⟨a40, rfl, hc⟩
             replace hp := bind_some hp; obtain ⟨z42, hz42, hp⟩ := hp
             obtain ⟨hg43, e44⟩ := app_some hz42
             refine rsE (Ctx.append hc (k := 2) rfl rfl (k2 := 0) rfl rfl reads_own Try.underlying40 (i := Try.t57) rfl rfl rfl rfl rfl rfl rfl rfl hg43) rfl ?_
             clear hc; rintro _ w47 ⟨a45, q46, rfl, hc⟩
             rw [← e44] at hc ⊢
             refine rs (v := .pointer (some ⟨b0, 0, none⟩)) (nl rfl) rfl ?_
             refine rs (v := .pointer (some ⟨b0, 1, none⟩)) (fax 1 rfl Try.underlying42 rfl Try.sizeOf40 rfl rfl rfl) rfl ?_
             refine ruE (A := fun w' => Ctx w' (Own S_ref22_Member.pr 57 (.slice a40 1 1) ([(⟨y25.ID, true⟩ : S_ref22_Member)]) :: B b0 [.int .i64 r34.2.Width, .slice a45 z42.length q46] 42 :: Own S_ref22_Member.pr 57 (.slice a45 z42.length q46) z42 :: Own (pInt .i64) 3 (.slice a3 j2.length q5) j2 :: Fr)) (Ctx.putOp hc (k := 1) rfl rfl (v := .slice a45 z42.length q46) rfl rfl rfl Try.sizeOf40 rfl rfl rfl) rfl ?_
             clear hc; rintro w48 hc
             refine rn ?_
             refine qn ?_
             refine Wreg ?_
             refine rs (v := .slice a3 j2.length q5) (mv (v := .slice a3 j2.length q5) rfl) rfl ?_
             refine rs (v := .int .i64 y25.ID) (mv (v := .int .i64 y25.ID) rfl) rfl ?_
             replace hc : Ctx w48 (Hold (pInt .i64) [.int .i64 y25.ID] y25.ID :: Own S_ref22_Member.pr 57 (.slice a40 1 1) ([(⟨y25.ID, true⟩ : S_ref22_Member)]) :: B b0 [.int .i64 r34.2.Width, .slice a45 z42.length q46] 42 :: Own S_ref22_Member.pr 57 (.slice a45 z42.length q46) z42 :: Own (pInt .i64) 3 (.slice a3 j2.length q5) j2 :: Fr) := hc.add _ fun _ _ _ => ⟨rfl, rfl⟩
             refine rsE (Ctx.builtOp (css := [[.int .i64 y25.ID]]) (xs := ([y25.ID] : List Int)) (E := (pInt .i64)) hc Try.underlying22 Try.sizeOf3 Try.zeroValue3 rfl rfl rfl rfl rfl rfl rfl rfl) rfl ?_
             clear hc; rintro _ w50 ⟨a49, rfl, hc⟩
             replace hp := bind_some hp; obtain ⟨z51, hz51, hp⟩ := hp
             obtain ⟨hg52, e53⟩ := app_some hz51
             refine rsE (Ctx.append hc (k := 4) rfl rfl (k2 := 0) rfl rfl reads_own Try.underlying22 (i := Try.t3) rfl rfl rfl rfl rfl rfl rfl rfl hg52) rfl ?_
             clear hc; rintro _ w56 ⟨a54, q55, rfl, hc⟩
             rw [← e53] at hc ⊢
             refine rs (v := .slice a54 z51.length q55) (av (v := .slice a54 z51.length q55) rfl) rfl ?_
             refine rn ?_
             refine bn ?_
             refine qn ?_
             replace hc := hc.pull 3 rfl rfl
             replace hc := hc.pull 3 rfl rfl
             replace hc : Ctx w56 (S_ref22_Batch.hp b0 (⟨r34.2.Width, z42⟩ : S_ref22_Batch) :: Own (pInt .i64) 3 (.slice a49 1 1) ([y25.ID]) :: Own S_ref22_Member.pr 57 (.slice a40 1 1) ([(⟨y25.ID, true⟩ : S_ref22_Member)]) :: Own (pInt .i64) 3 (.slice a54 z51.length q55) z51 :: Fr) := Ctx.exB _ _ (Ctx.sepB hc)
             replace hc := hc.rem 2 rfl rfl
             replace hc := hc.rem 1 rfl rfl
             exact ⟨m1, Nat.lt_succ_self _, ⟨(⟨r34.2.Width, z42⟩ : S_ref22_Batch), z51, a54, z51.length, q55, rfl, hp, hc⟩, (kl rfl (km rfl (kl rfl (km rfl (kl rfl k0)))))⟩
           · replace hp := gpos hp (of_decide_eq_true hb20)
             refine Wct rfl ?_
             refine Wseq ?_
             refine Wreg ?_
             refine rs (v := .slice a3 j2.length q5) (mv (v := .slice a3 j2.length q5) rfl) rfl ?_
             refine rs (v := .slice a3 j2.length q5) (av (v := .slice a3 j2.length q5) rfl) rfl ?_
             refine rn ?_
             refine qn ?_
             refine Wret ?_
             refine qr ?_
             refine br ?_
             refine qr ?_
             refine br ?_
             refine qr ?_
             replace hc := hc.pull 1 rfl rfl
             injection hp with hp; subst hp
             refine f1 (v := .slice a3 j2.length q5) Try.results19 Try.ntmps19 rfl ?_
             exact ⟨_, rfl, k _ _ _ _ hc⟩
         · replace hp := gpos hp hb19
           subst hb19
           refine Wct rfl ?_
           refine Wskip ?_
           refine qn ?_
           refine Wseqm [6, 26, 27, 28, 29, 30, 31, 32, 33, 34, 35] [6] (fun vs w' => ∃ j57 : Int, vs = [.int .i64 j57] ∧ ref22_Batch_Pick.J4 j10 (ref22_Batch_Pick.L2 N j1 j2 (ref22_Batch_Pick.L1 N x1 m1) m2) j57 = some r ∧ Ctx w' (S_ref22_Batch.hp b0 j1 :: Own (pInt .i64) 3 (.slice a3 j2.length q5) j2 :: Fr)) ?_ ?_
           · refine Wblk ?_
             refine Wseqm [26, 27, 28, 29, 30, 31, 32, 33, 34] [34] (fun vs w' => ∃ j58 : Bool, vs = [.bool j58] ∧ ref22_Batch_Pick.J5 j9 j10 (ref22_Batch_Pick.L2 N j1 j2 (ref22_Batch_Pick.L1 N x1 m1) m2) j58 = some r ∧ Ctx w' (S_ref22_Batch.hp b0 j1 :: Own (pInt .i64) 3 (.slice a3 j2.length q5) j2 :: Fr)) ?_ ?_
             · refine Wreg ?_
               refine rs (v := .pointer (some ⟨b0, 0, none⟩)) (mv (v := .pointer (some ⟨b0, 0, none⟩)) rfl) rfl ?_
               refine rs (v := .pointer (some ⟨b0, 0, none⟩)) (nl rfl) rfl ?_
               refine rs (v := .pointer (some ⟨b0, 1, none⟩)) (fax 1 rfl Try.underlying42 rfl Try.sizeOf40 rfl rfl rfl) rfl ?_
               replace hc := Ctx.exF hc; obtain ⟨v59, hc⟩ := hc
               replace hc := Ctx.sepF hc
               obtain ⟨a60, q61, u62⟩ := hc.rd (k := 1) rfl rfl reads_own; subst u62
               refine rs (v := .slice a60 j1.L.length q61) (ld rfl Try.isAgg40 (Ctx.cell hc (k := 0) rfl rfl rfl)) rfl ?_
               refine rs (v := .int .i64 j10) (mv (v := .int .i64 j10) rfl) rfl ?_
               replace hp := bind_some hp; obtain ⟨y63, hy63, hp⟩ := hp
               obtain ⟨b66, o67, u68, hi64, hi65⟩ := Ctx.rdAt hc (k := 1) rfl rfl reads_own hy63
               subst u68
               refine rs (v := .pointer (some ⟨b66, o67 + (j10).toNat * 2, none⟩)) (ixx rfl rfl Try.underlying40 Try.sizeOf57 hi64 hi65 rfl) rfl ?_
               refine rs (v := .pointer (some ⟨b66, o67 + (j10).toNat * 2 + 1, none⟩)) (fax 1 rfl Try.underlying57 rfl Try.sizeOf4 rfl rfl rfl) rfl ?_
               replace hc := Ctx.rdCell hc (k := 1) rfl rfl reads_own hy63; obtain ⟨cs69, hc, hcell70⟩ := hc
               replace hc := Ctx.holdC hc; obtain ⟨u71, hc⟩ := hc; subst u71
               refine rs (v := .bool y63.In) (ld rfl Try.isAgg4 (hcell70 1 _ rfl)) rfl ?_
               cases hb72 : y63.In
               · replace hp := gneg hp (by rw [hb72]; exact Bool.false_ne_true)
                 refine rs (v := .bool true) (ntf rfl) rfl ?_
                 refine rn ?_
                 refine qn ?_
                 replace hc := hc.pull 1 rfl rfl
                 replace hc := hc.pull 1 rfl rfl
                 replace hc : Ctx w18 (S_ref22_Batch.hp b0 j1 :: Own (pInt .i64) 3 (.slice a3 j2.length q5) j2 :: Fr) := Ctx.exB _ _ (Ctx.sepB hc)
                 exact ⟨⟨true, rfl, hp, hc⟩, (kl rfl kb)⟩
               · replace hp := gpos hp hb72
                 refine rs (v := .bool false) (ntt rfl) rfl ?_
                 refine rn ?_
                 refine qn ?_
                 replace hc := hc.pull 1 rfl rfl
                 replace hc := hc.pull 1 rfl rfl
                 replace hc : Ctx w18 (S_ref22_Batch.hp b0 j1 :: Own (pInt .i64) 3 (.slice a3 j2.length q5) j2 :: Fr) := Ctx.exB _ _ (Ctx.sepB hc)
                 exact ⟨⟨false, rfl, hp, hc⟩, (kl rfl kb)⟩
             · clear hp hc; intro vs u w73 hJ
               obtain ⟨j58, rfl, hp, hc⟩ := hJ
               unfold ref22_Batch_Pick.J5 at hp
               cases hb74 : j58
               · replace hp := gneg hp (by rw [hb74]; exact Bool.false_ne_true)
                 subst hb74
                 refine Wcf rfl ?_
                 refine Wskip ?_
                 refine bn ?_
                 refine qn ?_
                 exact ⟨⟨j9, rfl, hp, hc⟩, (kl rfl (km rfl (kl rfl kb)))⟩
               · replace hp := gpos hp hb74
                 subst hb74
                 refine Wct rfl ?_
                 refine Wreg ?_
                 refine rs (v := .int .i64 j10) (mv (v := .int .i64 j10) rfl) rfl ?_
                 refine rs (v := .int .i64 j10) (av (v := .int .i64 j10) rfl) rfl ?_
                 refine rn ?_
                 refine bn ?_
                 refine qn ?_
                 exact ⟨⟨j10, rfl, hp, hc⟩, (kl rfl (km rfl (kl rfl kb)))⟩
           · clear hp hc; intro vs u w75 hJ
             obtain ⟨j57, rfl, hp, hc⟩ := hJ
             unfold ref22_Batch_Pick.J4 at hp
             refine Wreg ?_
             refine rs (v := .int .i64 j10) (mv (v := .int .i64 j10) rfl) rfl ?_
             refine rs (v := .int .i64 (IntKind.i64.wrap (j10 + 1))) (adw rfl rfl) rfl ?_
             refine rs (v := .int .i64 (IntKind.i64.wrap (j10 + 1))) (av (v := .int .i64 (IntKind.i64.wrap (j10 + 1))) rfl) rfl ?_
             refine rn ?_
             refine qn ?_
             exact ⟨m2, Nat.lt_succ_self _, ⟨j57, (IntKind.i64.wrap (j10 + 1)), rfl, hp, hc⟩, (kl rfl (km rfl (kl rfl (km rfl (kl rfl k0)))))⟩

-- FN (*peloton/pelotonref22.Batch).Back
def ref22_Batch_Back (N : Nat) (x0 : S_ref22_Batch) (x1 : Int) : Option (Int × S_ref22_Batch) :=
  (ref22_Batch_Find N x0 x1).bind fun r1 =>
  if r1 < 0 then
    some (0, x0)
  else
    (idx x0.L r1).bind fun y8 =>
    if y8.In = true then
      (idx x0.L r1).bind fun y18 =>
      some (1, (⟨x0.Width, (x0.L.set (r1).toNat ({ y18 with In := false }))⟩ : S_ref22_Batch))
    else
      some (0, x0)

set_option maxHeartbeats 8000000 in
theorem ref22_Batch_Back_any {N : Nat} {b0 : Nat} {x0 : S_ref22_Batch} {x1 : Int} {Fr : List HP} {w : World} {r : Int × S_ref22_Batch} {K : Value → World → Prop}  (hc : Ctx w (S_ref22_Batch.hp b0 x0 :: Fr)) (hp : ref22_Batch_Back N x0 x1 = some r)
    (k : ∀ w', Ctx w' (S_ref22_Batch.hp b0 r.2 :: Fr) → K (.int .i64 r.1) w') : Calls Try.prog 20 #[.pointer (some ⟨b0, 0, none⟩), .int .i64 x1] w (Ret K) := by
 unfold ref22_Batch_Back at hp
 refine Center (args := [.pointer (some ⟨b0, 0, none⟩), .int .i64 x1]) (l := [(0, .pointer (some ⟨b0, 0, none⟩)), (1, .int .i64 x1)]) Try.func20 Try.ntmps20 rfl rfl rfl ?_
 refine Wseq ?_
 refine Wreg ?_
 refine rs (v := .int .i64 0) (av (v := .int .i64 0) rfl) rfl ?_
 refine rn ?_
 refine qn ?_
 refine Wseq ?_
 refine Wreg ?_
 refine rs (v := .pointer (some ⟨b0, 0, none⟩)) (mv (v := .pointer (some ⟨b0, 0, none⟩)) rfl) rfl ?_
 refine rs (v := .int .i64 x1) (mv (v := .int .i64 x1) rfl) rfl ?_
 replace hp := bind_some hp; obtain ⟨r1, hr1, hp⟩ := hp
 refine rc (cl Try.call29 rfl rfl) rfl ?_
 refine ref22_Batch_Find_any hc hr1 ?_
 clear hc; intro w2 hc
 refine rs (v := .int .i64 r1) (av (v := .int .i64 r1) rfl) rfl ?_
 refine rn ?_
 refine qn ?_
 refine Wseq ?_
 refine Wseq ?_
 refine Wreg ?_
 refine rs (v := .int .i64 r1) (mv (v := .int .i64 r1) rfl) rfl ?_
 refine rs (v := .bool (decide (r1 < 0))) (lt' rfl rfl) rfl ?_
 refine rs (v := .bool (decide (r1 < 0))) (mv (v := .bool (decide (r1 < 0))) rfl) rfl ?_
 cases hb3 : (decide (r1 < 0))
 · replace hp := gneg hp (of_decide_eq_false hb3)
   refine rs (v := .pointer (some ⟨b0, 0, none⟩)) (mv (v := .pointer (some ⟨b0, 0, none⟩)) rfl) rfl ?_
   refine rs (v := .pointer (some ⟨b0, 0, none⟩)) (nl rfl) rfl ?_
   refine rs (v := .pointer (some ⟨b0, 1, none⟩)) (fax 1 rfl Try.underlying42 rfl Try.sizeOf40 rfl rfl rfl) rfl ?_
   replace hc := Ctx.exF hc; obtain ⟨v4, hc⟩ := hc
   replace hc := Ctx.sepF hc
   obtain ⟨a5, q6, u7⟩ := hc.rd (k := 1) rfl rfl reads_own; subst u7
   refine rs (v := .slice a5 x0.L.length q6) (ld rfl Try.isAgg40 (Ctx.cell hc (k := 0) rfl rfl rfl)) rfl ?_
   refine rs (v := .int .i64 r1) (mv (v := .int .i64 r1) rfl) rfl ?_
   replace hp := bind_some hp; obtain ⟨y8, hy8, hp⟩ := hp
   obtain ⟨b11, o12, u13, hi9, hi10⟩ := Ctx.rdAt hc (k := 1) rfl rfl reads_own hy8
   subst u13
   refine rs (v := .pointer (some ⟨b11, o12 + (r1).toNat * 2, none⟩)) (ixx rfl rfl Try.underlying40 Try.sizeOf57 hi9 hi10 rfl) rfl ?_
   refine rs (v := .pointer (some ⟨b11, o12 + (r1).toNat * 2 + 1, none⟩)) (fax 1 rfl Try.underlying57 rfl Try.sizeOf4 rfl rfl rfl) rfl ?_
   replace hc := Ctx.rdCell hc (k := 1) rfl rfl reads_own hy8; obtain ⟨cs14, hc, hcell15⟩ := hc
   replace hc := Ctx.holdC hc; obtain ⟨u16, hc⟩ := hc; subst u16
   refine rs (v := .bool y8.In) (ld rfl Try.isAgg4 (hcell15 1 _ rfl)) rfl ?_
   cases hb17 : y8.In
   · replace hp := gneg hp (by rw [hb17]; exact Bool.false_ne_true)
     refine rs (v := .bool true) (ntf rfl) rfl ?_
     refine rs (v := .bool true) (pkf (v := .bool true) rfl rfl) rfl ?_
     refine rn ?_
     refine qn ?_
     refine Wct rfl ?_
     refine Wseq ?_
     refine Wreg ?_
     refine rs (v := .int .i64 0) (av (v := .int .i64 0) rfl) rfl ?_
     refine rn ?_
     refine qn ?_
     refine Wret ?_
     refine qr ?_
     replace hc := hc.pull 1 rfl rfl
     replace hc := hc.pull 1 rfl rfl
     replace hc : Ctx w2 (S_ref22_Batch.hp b0 x0 :: Fr) := Ctx.exB _ _ (Ctx.sepB hc)
     injection hp with hp; subst hp
     refine f1 (v := .int .i64 0) Try.results20 Try.ntmps20 rfl ?_
     exact ⟨_, rfl, k _ hc⟩
   · replace hp := gpos hp hb17
     refine rs (v := .bool false) (ntt rfl) rfl ?_
     refine rs (v := .bool false) (pkf (v := .bool false) rfl rfl) rfl ?_
     refine rn ?_
     refine qn ?_
     refine Wcf rfl ?_
     refine Wskip ?_
     refine qn ?_
     refine Wseq ?_
     refine Wreg ?_
     refine rs (v := .pointer (some ⟨b0, 0, none⟩)) (mv (v := .pointer (some ⟨b0, 0, none⟩)) rfl) rfl ?_
     refine rs (v := .pointer (some ⟨b0, 0, none⟩)) (nl rfl) rfl ?_
     refine rs (v := .pointer (some ⟨b0, 1, none⟩)) (fax 1 rfl Try.underlying42 rfl Try.sizeOf40 rfl rfl rfl) rfl ?_
     refine rs (v := .slice (some ⟨b11, o12, none⟩) x0.L.length q6) (ld rfl Try.isAgg40 (Ctx.cell hc (k := 0) rfl rfl rfl)) rfl ?_
     refine rs (v := .int .i64 r1) (mv (v := .int .i64 r1) rfl) rfl ?_
     replace hp := bind_some hp; obtain ⟨y18, hy18, hp⟩ := hp
     obtain ⟨b21, o22, u23, hi19, hi20⟩ := Ctx.rdAt hc (k := 1) rfl rfl reads_own hy18
     clear u23
     refine rs (v := .pointer (some ⟨b11, o12 + (r1).toNat * 2, none⟩)) (ixx rfl rfl Try.underlying40 Try.sizeOf57 hi19 hi20 rfl) rfl ?_
     refine rs (v := .pointer (some ⟨b11, o12 + (r1).toNat * 2 + 1, none⟩)) (fax 1 rfl Try.underlying57 rfl Try.sizeOf4 rfl rfl rfl) rfl ?_
     refine ruE (A := fun w' => Ctx w' (B b0 [.int .i64 x0.Width, .slice (some ⟨b11, o12, none⟩) x0.L.length q6] 42 :: Own S_ref22_Member.pr 57 (.slice (some ⟨b11, o12, none⟩) x0.L.length q6) (x0.L.set (r1).toNat ({ y18 with In := false })) :: Fr)) (Ctx.ownPutOp hc (k := 1) rfl rfl (z := y18) (z' := { y18 with In := false }) hy18 1 rfl (u := .bool false) rfl rfl rfl Try.sizeOf4 (fun _ _ _ h => by cases h; rfl) rfl) rfl ?_
     clear hc; rintro w24 hc
     refine rn ?_
     refine qn ?_
     refine Wseq ?_
     refine Wreg ?_
     refine rs (v := .int .i64 1) (av (v := .int .i64 1) rfl) rfl ?_
     refine rn ?_
     refine qn ?_
     refine Wret ?_
     replace hc := hc.pull 1 rfl rfl
     replace hc := hc.pull 1 rfl rfl
     replace hc : Ctx w24 (S_ref22_Batch.hp b0 (⟨x0.Width, (x0.L.set (r1).toNat ({ y18 with In := false }))⟩ : S_ref22_Batch) :: Fr) := Ctx.exB _ _ (Ctx.sepB hc)
     injection hp with hp; subst hp
     refine f1 (v := .int .i64 1) Try.results20 Try.ntmps20 rfl ?_
     exact ⟨_, rfl, k _ hc⟩
 · replace hp := gpos hp (of_decide_eq_true hb3)
   refine r0 rfl ?_
   refine r0 rfl ?_
   refine r0 rfl ?_
   refine r0 rfl ?_
   refine r0 rfl ?_
   refine r0 rfl ?_
   refine r0 rfl ?_
   refine r0 rfl ?_
   refine r0 rfl ?_
   refine rs (v := .bool true) (pkt (v := .bool true) rfl rfl) rfl ?_
   refine rn ?_
   refine qn ?_
   refine Wct rfl ?_
   refine Wseq ?_
   refine Wreg ?_
   refine rs (v := .int .i64 0) (av (v := .int .i64 0) rfl) rfl ?_
   refine rn ?_
   refine qn ?_
   refine Wret ?_
   refine qr ?_
   injection hp with hp; subst hp
   refine f1 (v := .int .i64 0) Try.results20 Try.ntmps20 rfl ?_
   exact ⟨_, rfl, k _ hc⟩

-- FN (*peloton/pelotonref22.Batch).Rewind
def ref22_Batch_Rewind.L1  : Nat → S_ref22_Batch → Int → Option (S_ref22_Batch)
  | 0, _, _ => none
  | m1 + 1, j1, j2 =>
    if j2 < ((j1.L.length : Nat) : Int) then
      (idx j1.L j2).bind fun y9 =>
      (ref22_Batch_Rewind.L1 m1) (⟨j1.Width, (j1.L.set (j2).toNat ({ y9 with In := false }))⟩ : S_ref22_Batch) (IntKind.i64.wrap (j2 + 1))
    else
      some j1

def ref22_Batch_Rewind (N : Nat) (x0 : S_ref22_Batch) : Option (S_ref22_Batch) :=
  ref22_Batch_Rewind.L1 N x0 0

set_option maxHeartbeats 8000000 in
theorem ref22_Batch_Rewind_any {N : Nat} {b0 : Nat} {x0 : S_ref22_Batch} {Fr : List HP} {w : World} {r : S_ref22_Batch} {K : Value → World → Prop}  (hc : Ctx w (S_ref22_Batch.hp b0 x0 :: Fr)) (hp : ref22_Batch_Rewind N x0 = some r)
    (k : ∀ w', Ctx w' (S_ref22_Batch.hp b0 r :: Fr) → K (.tuple #[]) w') : Calls Try.prog 22 #[.pointer (some ⟨b0, 0, none⟩)] w (Ret K) := by
 unfold ref22_Batch_Rewind at hp
 refine Center (args := [.pointer (some ⟨b0, 0, none⟩)]) (l := [(0, .pointer (some ⟨b0, 0, none⟩))]) Try.func22 Try.ntmps22 rfl rfl rfl ?_
 refine Wseq ?_
 refine Wreg ?_
 refine rs (v := .int .i64 0) (av (v := .int .i64 0) rfl) rfl ?_
 refine rn ?_
 refine qn ?_
 refine Wblk ?_
 refine Wloop [2, 3, 4, 5, 6, 7, 8, 9, 10, 11, 12, 13, 14, 15, 16, 17, 18] [2] (fun m vs w' => ∃ j1 : S_ref22_Batch, ∃ j2 : Int, vs = [.int .i64 j2] ∧ ref22_Batch_Rewind.L1 m j1 j2 = some r ∧ Ctx w' (S_ref22_Batch.hp b0 j1 :: Fr)) N ?_ ?_
 · exact ⟨x0, 0, rfl, hp, hc⟩
 · clear hp hc; intro m vs u w3 hJ
   obtain ⟨j1, j2, rfl, hp, hc⟩ := hJ
   rcases m with _ | m1
   · cases (show none = some r from hp)
   rw [ref22_Batch_Rewind.L1] at hp
   refine Wseq ?_
   refine Wseq ?_
   refine Wreg ?_
   refine rs (v := .int .i64 j2) (mv (v := .int .i64 j2) rfl) rfl ?_
   refine rs (v := .pointer (some ⟨b0, 0, none⟩)) (mv (v := .pointer (some ⟨b0, 0, none⟩)) rfl) rfl ?_
   refine rs (v := .pointer (some ⟨b0, 0, none⟩)) (nl rfl) rfl ?_
   refine rs (v := .pointer (some ⟨b0, 1, none⟩)) (fax 1 rfl Try.underlying42 rfl Try.sizeOf40 rfl rfl rfl) rfl ?_
   replace hc := Ctx.exF hc; obtain ⟨v4, hc⟩ := hc
   replace hc := Ctx.sepF hc
   obtain ⟨a5, q6, u7⟩ := hc.rd (k := 1) rfl rfl reads_own; subst u7
   refine rs (v := .slice a5 j1.L.length q6) (ld rfl Try.isAgg40 (Ctx.cell hc (k := 0) rfl rfl rfl)) rfl ?_
   refine rs (v := .int .i64 ((j1.L.length : Nat) : Int)) (ln rfl Try.underlying40) rfl ?_
   refine rs (v := .bool (decide (j2 < ((j1.L.length : Nat) : Int)))) (lt' rfl rfl) rfl ?_
   refine rn ?_
   refine qn ?_
   cases hb8 : (decide (j2 < ((j1.L.length : Nat) : Int)))
   · replace hp := gneg hp (of_decide_eq_false hb8)
     refine Wcf rfl ?_
     refine Wexit ?_
     refine qx ?_
     refine qx ?_
     refine be ?_
     refine f0n Try.results22 ?_
     replace hc := hc.pull 1 rfl rfl
     replace hc := hc.pull 1 rfl rfl
     replace hc : Ctx w3 (S_ref22_Batch.hp b0 j1 :: Fr) := Ctx.exB _ _ (Ctx.sepB hc)
     injection hp with hp; subst hp
     exact ⟨_, rfl, k _ hc⟩
   · replace hp := gpos hp (of_decide_eq_true hb8)
     refine Wct rfl ?_
     refine Wskip ?_
     refine qn ?_
     refine Wseq ?_
     refine Wblk ?_
     refine Wreg ?_
     refine rs (v := .pointer (some ⟨b0, 0, none⟩)) (mv (v := .pointer (some ⟨b0, 0, none⟩)) rfl) rfl ?_
     refine rs (v := .pointer (some ⟨b0, 0, none⟩)) (nl rfl) rfl ?_
     refine rs (v := .pointer (some ⟨b0, 1, none⟩)) (fax 1 rfl Try.underlying42 rfl Try.sizeOf40 rfl rfl rfl) rfl ?_
     refine rs (v := .slice a5 j1.L.length q6) (ld rfl Try.isAgg40 (Ctx.cell hc (k := 0) rfl rfl rfl)) rfl ?_
     refine rs (v := .int .i64 j2) (mv (v := .int .i64 j2) rfl) rfl ?_
     replace hp := bind_some hp; obtain ⟨y9, hy9, hp⟩ := hp
     obtain ⟨b12, o13, u14, hi10, hi11⟩ := Ctx.rdAt hc (k := 1) rfl rfl reads_own hy9
     subst u14
     refine rs (v := .pointer (some ⟨b12, o13 + (j2).toNat * 2, none⟩)) (ixx rfl rfl Try.underlying40 Try.sizeOf57 hi10 hi11 rfl) rfl ?_
     refine rs (v := .pointer (some ⟨b12, o13 + (j2).toNat * 2 + 1, none⟩)) (fax 1 rfl Try.underlying57 rfl Try.sizeOf4 rfl rfl rfl) rfl ?_
     refine ruE (A := fun w' => Ctx w' (B b0 [.int .i64 j1.Width, .slice (some ⟨b12, o13, none⟩) j1.L.length q6] 42 :: Own S_ref22_Member.pr 57 (.slice (some ⟨b12, o13, none⟩) j1.L.length q6) (j1.L.set (j2).toNat ({ y9 with In := false })) :: Fr)) (Ctx.ownPutOp hc (k := 1) rfl rfl (z := y9) (z' := { y9 with In := false }) hy9 1 rfl (u := .bool false) rfl rfl rfl Try.sizeOf4 (fun _ _ _ h => by cases h; rfl) rfl) rfl ?_
     clear hc; rintro w15 hc
     refine rn ?_
     refine bn ?_
     refine qn ?_
     refine Wreg ?_
     refine rs (v := .int .i64 j2) (mv (v := .int .i64 j2) rfl) rfl ?_
     refine rs (v := .int .i64 (IntKind.i64.wrap (j2 + 1))) (adw rfl rfl) rfl ?_
     refine rs (v := .int .i64 (IntKind.i64.wrap (j2 + 1))) (av (v := .int .i64 (IntKind.i64.wrap (j2 + 1))) rfl) rfl ?_
     refine rn ?_
     refine qn ?_
     replace hc := hc.pull 1 rfl rfl
     replace hc := hc.pull 1 rfl rfl
     replace hc : Ctx w15 (S_ref22_Batch.hp b0 (⟨j1.Width, (j1.L.set (j2).toNat ({ y9 with In := false }))⟩ : S_ref22_Batch) :: Fr) := Ctx.exB _ _ (Ctx.sepB hc)
     exact ⟨m1, Nat.lt_succ_self _, ⟨(⟨j1.Width, (j1.L.set (j2).toNat ({ y9 with In := false }))⟩ : S_ref22_Batch), (IntKind.i64.wrap (j2 + 1)), rfl, hp, hc⟩, (kl rfl k0)⟩

-- FN (*peloton/pelotonref22.Batch).Lists
def ref22_Batch_Lists.J2 (j9 : Int) (k1 : (List Int) → (List Int) → Int → Option ((List Int) × (List Int))) (j18 : (List Int)) (j22 : (List Int)) : Option ((List Int) × (List Int)) :=
  k1 j18 j22 (IntKind.i64.wrap (j9 + 1))

def ref22_Batch_Lists.L1 (x0 : S_ref22_Batch) : Nat → (List Int) → (List Int) → Int → Option ((List Int) × (List Int))
  | 0, _, _, _ => none
  | m1 + 1, j1, j5, j9 =>
    if j9 < ((x0.L.length : Nat) : Int) then
      (idx x0.L j9).bind fun y26 =>
      (app j1 ([y26.ID])).bind fun z37 =>
      (idx x0.L j9).bind fun y43 =>
      if y43.In = true then
        (idx x0.L j9).bind fun y53 =>
        (app j5 ([y53.ID])).bind fun z64 =>
        ref22_Batch_Lists.J2 j9 (ref22_Batch_Lists.L1 x0 m1) z37 z64
      else
        ref22_Batch_Lists.J2 j9 (ref22_Batch_Lists.L1 x0 m1) z37 j5
    else
      some (j1, j5)

def ref22_Batch_Lists (N : Nat) (x0 : S_ref22_Batch) : Option ((List Int) × (List Int)) :=
  ref22_Batch_Lists.L1 x0 N ([]) ([]) 0

set_option maxHeartbeats 8000000 in
theorem ref22_Batch_Lists_any {N : Nat} {b0 : Nat} {x0 : S_ref22_Batch} {Fr : List HP} {w : World} {r : (List Int) × (List Int)} {K : Value → World → Prop}  (hc : Ctx w (S_ref22_Batch.hp b0 x0 :: Fr)) (hp : ref22_Batch_Lists N x0 = some r)
    (k : ∀ (a73 : Option Addr) (n74 : Nat) (q75 : Nat) (a76 : Option Addr) (n77 : Nat) (q78 : Nat) w', Ctx w' (Own (pInt .i64) 3 (.slice a73 n74 q75) r.1 :: Own (pInt .i64) 3 (.slice a76 n77 q78) r.2 :: S_ref22_Batch.hp b0 x0 :: Fr) → K (.tuple #[.slice a73 n74 q75, .slice a76 n77 q78]) w') : Calls Try.prog 23 #[.pointer (some ⟨b0, 0, none⟩)] w (Ret K) := by
 unfold ref22_Batch_Lists at hp
 refine Center (args := [.pointer (some ⟨b0, 0, none⟩)]) (l := [(0, .pointer (some ⟨b0, 0, none⟩))]) Try.func23 Try.ntmps23 rfl rfl rfl ?_
 refine Wseq ?_
 refine Wreg ?_
 refine rs (v := .slice none 0 0) (av (v := .slice none 0 0) rfl) rfl ?_
 refine rs (v := .slice none 0 0) (av (v := .slice none 0 0) rfl) rfl ?_
 refine rn ?_
 refine qn ?_
 refine Wseq ?_
 refine Wreg ?_
 refine rs (v := .slice none 0 0) (av (v := .slice none 0 0) rfl) rfl ?_
 refine rs (v := .slice none 0 0) (av (v := .slice none 0 0) rfl) rfl ?_
 refine rn ?_
 refine qn ?_
 refine Wseq ?_
 refine Wseq ?_
 refine Wreg ?_
 refine rs (v := .int .i64 0) (av (v := .int .i64 0) rfl) rfl ?_
 refine rn ?_
 refine qn ?_
 refine Wblk ?_
 replace hc := hc.nilOwn (pInt .i64) 3
 replace hc := hc.nilOwn (pInt .i64) 3
 replace hc := hc.pull 1 rfl rfl
 replace hc := hc.pull 2 rfl rfl
 refine Wloop [4, 5, 6, 7, 8, 9, 10, 11, 12, 13, 14, 15, 16, 17, 18, 19, 20, 21, 22, 23, 24, 25, 26, 27, 28, 29, 30, 31, 32, 33, 34, 35, 36, 37, 38, 39, 40, 41, 42, 43, 44, 45] [4, 5, 6] (fun m vs w' => ∃ j1 : (List Int), ∃ j5 : (List Int), ∃ j9 : Int, ∃ a2 : Option Addr, ∃ n3 : Nat, ∃ q4 : Nat, ∃ a6 : Option Addr, ∃ n7 : Nat, ∃ q8 : Nat, vs = [.slice a2 n3 q4, .slice a6 n7 q8, .int .i64 j9] ∧ ref22_Batch_Lists.L1 x0 m j1 j5 j9 = some r ∧ Ctx w' (S_ref22_Batch.hp b0 x0 :: Own (pInt .i64) 3 (.slice a2 n3 q4) j1 :: Own (pInt .i64) 3 (.slice a6 n7 q8) j5 :: Fr)) N ?_ ?_
 · exact ⟨[], [], 0, none, 0, 0, none, 0, 0, rfl, hp, hc⟩
 · clear hp hc; intro m vs u w10 hJ
   obtain ⟨j1, j5, j9, a2, n3, q4, a6, n7, q8, rfl, hp, hc⟩ := hJ
   obtain ⟨u11, _⟩ := Ctx.rdLen hc (k := 1) rfl rfl reads_own; subst u11
   obtain ⟨u12, _⟩ := Ctx.rdLen hc (k := 2) rfl rfl reads_own; subst u12
   rcases m with _ | m1
   · cases (show none = some r from hp)
   rw [ref22_Batch_Lists.L1] at hp
   refine Wseq ?_
   refine Wseq ?_
   refine Wreg ?_
   refine rs (v := .int .i64 j9) (mv (v := .int .i64 j9) rfl) rfl ?_
   refine rs (v := .pointer (some ⟨b0, 0, none⟩)) (mv (v := .pointer (some ⟨b0, 0, none⟩)) rfl) rfl ?_
   refine rs (v := .pointer (some ⟨b0, 0, none⟩)) (nl rfl) rfl ?_
   refine rs (v := .pointer (some ⟨b0, 1, none⟩)) (fax 1 rfl Try.underlying42 rfl Try.sizeOf40 rfl rfl rfl) rfl ?_
   replace hc := Ctx.exF hc; obtain ⟨v13, hc⟩ := hc
   replace hc := Ctx.sepF hc
   obtain ⟨a14, q15, u16⟩ := hc.rd (k := 1) rfl rfl reads_own; subst u16
   refine rs (v := .slice a14 x0.L.length q15) (ld rfl Try.isAgg40 (Ctx.cell hc (k := 0) rfl rfl rfl)) rfl ?_
   refine rs (v := .int .i64 ((x0.L.length : Nat) : Int)) (ln rfl Try.underlying40) rfl ?_
   refine rs (v := .bool (decide (j9 < ((x0.L.length : Nat) : Int)))) (lt' rfl rfl) rfl ?_
   refine rn ?_
   refine qn ?_
   cases hb17 : (decide (j9 < ((x0.L.length : Nat) : Int)))
   · replace hp := gneg hp (of_decide_eq_false hb17)
     refine Wcf rfl ?_
     refine Wexit ?_
     refine qx ?_
     refine qx ?_
     refine be ?_
     refine qn ?_
     refine Wseq ?_
     refine Wreg ?_
     refine rs (v := .slice a2 j1.length q4) (mv (v := .slice a2 j1.length q4) rfl) rfl ?_
     refine rs (v := .slice a6 j5.length q8) (mv (v := .slice a6 j5.length q8) rfl) rfl ?_
     refine rs (v := .slice a2 j1.length q4) (av (v := .slice a2 j1.length q4) rfl) rfl ?_
     refine rs (v := .slice a6 j5.length q8) (av (v := .slice a6 j5.length q8) rfl) rfl ?_
     refine rn ?_
     refine qn ?_
     refine Wret ?_
     replace hc := hc.pull 1 rfl rfl
     replace hc := hc.pull 1 rfl rfl
     replace hc : Ctx w10 (S_ref22_Batch.hp b0 x0 :: Own (pInt .i64) 3 (.slice a2 j1.length q4) j1 :: Own (pInt .i64) 3 (.slice a6 j5.length q8) j5 :: Fr) := Ctx.exB _ _ (Ctx.sepB hc)
     replace hc := hc.pull 2 rfl rfl
     replace hc := hc.pull 2 rfl rfl
     injection hp with hp; subst hp
     refine f2 (v := .slice a2 j1.length q4) (u := .slice a6 j5.length q8) Try.results23 Try.ntmps23 rfl rfl ?_
     exact ⟨_, rfl, k _ _ _ _ _ _ _ hc⟩
   · replace hp := gpos hp (of_decide_eq_true hb17)
     refine Wct rfl ?_
     refine Wskip ?_
     refine qn ?_
     refine Wseqm [4, 5, 16, 17, 18, 19, 20, 21, 22, 23, 24, 25, 26, 27, 28, 29, 30, 31, 32, 33, 34, 35, 36, 37, 38, 39, 40, 41, 42, 43, 44, 45] [4, 5] (fun vs w' => ∃ j18 : (List Int), ∃ j22 : (List Int), ∃ a19 : Option Addr, ∃ n20 : Nat, ∃ q21 : Nat, ∃ a23 : Option Addr, ∃ n24 : Nat, ∃ q25 : Nat, vs = [.slice a19 n20 q21, .slice a23 n24 q25] ∧ ref22_Batch_Lists.J2 j9 (ref22_Batch_Lists.L1 x0 m1) j18 j22 = some r ∧ Ctx w' (S_ref22_Batch.hp b0 x0 :: Own (pInt .i64) 3 (.slice a19 n20 q21) j18 :: Own (pInt .i64) 3 (.slice a23 n24 q25) j22 :: Fr)) ?_ ?_
     · refine Wblk ?_
       refine Wseq ?_
       refine Wreg ?_
       refine rs (v := .slice a2 j1.length q4) (mv (v := .slice a2 j1.length q4) rfl) rfl ?_
       refine rs (v := .pointer (some ⟨b0, 0, none⟩)) (mv (v := .pointer (some ⟨b0, 0, none⟩)) rfl) rfl ?_
       refine rs (v := .pointer (some ⟨b0, 0, none⟩)) (nl rfl) rfl ?_
       refine rs (v := .pointer (some ⟨b0, 1, none⟩)) (fax 1 rfl Try.underlying42 rfl Try.sizeOf40 rfl rfl rfl) rfl ?_
       refine rs (v := .slice a14 x0.L.length q15) (ld rfl Try.isAgg40 (Ctx.cell hc (k := 0) rfl rfl rfl)) rfl ?_
       refine rs (v := .int .i64 j9) (mv (v := .int .i64 j9) rfl) rfl ?_
       replace hp := bind_some hp; obtain ⟨y26, hy26, hp⟩ := hp
       obtain ⟨b29, o30, u31, hi27, hi28⟩ := Ctx.rdAt hc (k := 1) rfl rfl reads_own hy26
       subst u31
       refine rs (v := .pointer (some ⟨b29, o30 + (j9).toNat * 2, none⟩)) (ixx rfl rfl Try.underlying40 Try.sizeOf57 hi27 hi28 rfl) rfl ?_
       refine rs (v := .pointer (some ⟨b29, o30 + (j9).toNat * 2 + 0, none⟩)) (fax 0 rfl Try.underlying57 rfl Try.sizeOf3 rfl rfl rfl) rfl ?_
       replace hc := Ctx.rdCell hc (k := 1) rfl rfl reads_own hy26; obtain ⟨cs32, hc, hcell33⟩ := hc
       replace hc := Ctx.holdC hc; obtain ⟨u34, hc⟩ := hc; subst u34
       refine rs (v := .int .i64 y26.ID) (ld rfl Try.isAgg3 (hcell33 0 _ rfl)) rfl ?_
       replace hc : Ctx w10 (Hold (pInt .i64) [.int .i64 y26.ID] y26.ID :: B b0 [.int .i64 x0.Width, .slice (some ⟨b29, o30, none⟩) x0.L.length q15] 42 :: Own S_ref22_Member.pr 57 (.slice (some ⟨b29, o30, none⟩) x0.L.length q15) x0.L :: Own (pInt .i64) 3 (.slice a2 j1.length q4) j1 :: Own (pInt .i64) 3 (.slice a6 j5.length q8) j5 :: Fr) := hc.add _ fun _ _ _ => ⟨rfl, rfl⟩
       refine rsE (Ctx.builtOp (css := [[.int .i64 y26.ID]]) (xs := ([y26.ID] : List Int)) (E := (pInt .i64)) hc Try.underlying22 Try.sizeOf3 Try.zeroValue3 rfl rfl rfl rfl rfl rfl rfl rfl) rfl ?_
       clear hc; rintro _ w36 ⟨a35, rfl, hc⟩
       replace hp := bind_some hp; obtain ⟨z37, hz37, hp⟩ := hp
       obtain ⟨hg38, e39⟩ := app_some hz37
       refine rsE (Ctx.append hc (k := 3) rfl rfl (k2 := 0) rfl rfl reads_own Try.underlying22 (i := Try.t3) rfl rfl rfl rfl rfl rfl rfl rfl hg38) rfl ?_
       clear hc; rintro _ w42 ⟨a40, q41, rfl, hc⟩
       rw [← e39] at hc ⊢
       refine rs (v := .slice a40 z37.length q41) (av (v := .slice a40 z37.length q41) rfl) rfl ?_
       refine rn ?_
       refine qn ?_
       refine Wseq ?_
       refine Wreg ?_
       refine rs (v := .pointer (some ⟨b0, 0, none⟩)) (mv (v := .pointer (some ⟨b0, 0, none⟩)) rfl) rfl ?_
       refine rs (v := .pointer (some ⟨b0, 0, none⟩)) (nl rfl) rfl ?_
       refine rs (v := .pointer (some ⟨b0, 1, none⟩)) (fax 1 rfl Try.underlying42 rfl Try.sizeOf40 rfl rfl rfl) rfl ?_
       refine rs (v := .slice (some ⟨b29, o30, none⟩) x0.L.length q15) (ld rfl Try.isAgg40 (Ctx.cell hc (k := 1) rfl rfl rfl)) rfl ?_
       refine rs (v := .int .i64 j9) (mv (v := .int .i64 j9) rfl) rfl ?_
       replace hp := bind_some hp; obtain ⟨y43, hy43, hp⟩ := hp
       obtain ⟨b46, o47, u48, hi44, hi45⟩ := Ctx.rdAt hc (k := 2) rfl rfl reads_own hy43
       clear u48
       refine rs (v := .pointer (some ⟨b29, o30 + (j9).toNat * 2, none⟩)) (ixx rfl rfl Try.underlying40 Try.sizeOf57 hi44 hi45 rfl) rfl ?_
       refine rs (v := .pointer (some ⟨b29, o30 + (j9).toNat * 2 + 1, none⟩)) (fax 1 rfl Try.underlying57 rfl Try.sizeOf4 rfl rfl rfl) rfl ?_
       replace hc := Ctx.rdCell hc (k := 2) rfl rfl reads_own hy43; obtain ⟨cs49, hc, hcell50⟩ := hc
       replace hc := Ctx.holdC hc; obtain ⟨u51, hc⟩ := hc; subst u51
       refine rs (v := .bool y43.In) (ld rfl Try.isAgg4 (hcell50 1 _ rfl)) rfl ?_
       refine rn ?_
       refine qn ?_
       cases hb52 : y43.In
       · replace hp := gneg hp (by rw [hb52]; exact Bool.false_ne_true)
         refine Wcf rfl ?_
         refine Wskip ?_
         refine bn ?_
         refine qn ?_
         replace hc := hc.pull 2 rfl rfl
         replace hc := hc.pull 2 rfl rfl
         replace hc : Ctx w42 (S_ref22_Batch.hp b0 x0 :: Own (pInt .i64) 3 (.slice a35 1 1) ([y26.ID]) :: Own (pInt .i64) 3 (.slice a40 z37.length q41) z37 :: Own (pInt .i64) 3 (.slice a6 j5.length q8) j5 :: Fr) := Ctx.exB _ _ (Ctx.sepB hc)
         replace hc := hc.rem 1 rfl rfl
         exact ⟨⟨z37, j5, a40, z37.length, q41, a6, j5.length, q8, rfl, hp, hc⟩, (kl rfl kb)⟩
       · replace hp := gpos hp hb52
         refine Wct rfl ?_
         refine Wreg ?_
         refine rs (v := .slice a6 j5.length q8) (mv (v := .slice a6 j5.length q8) rfl) rfl ?_
         refine rs (v := .pointer (some ⟨b0, 0, none⟩)) (mv (v := .pointer (some ⟨b0, 0, none⟩)) rfl) rfl ?_
         refine rs (v := .pointer (some ⟨b0, 0, none⟩)) (nl rfl) rfl ?_
         refine rs (v := .pointer (some ⟨b0, 1, none⟩)) (fax 1 rfl Try.underlying42 rfl Try.sizeOf40 rfl rfl rfl) rfl ?_
         refine rs (v := .slice (some ⟨b29, o30, none⟩) x0.L.length q15) (ld rfl Try.isAgg40 (Ctx.cell hc (k := 1) rfl rfl rfl)) rfl ?_
         refine rs (v := .int .i64 j9) (mv (v := .int .i64 j9) rfl) rfl ?_
         replace hp := bind_some hp; obtain ⟨y53, hy53, hp⟩ := hp
         obtain ⟨b56, o57, u58, hi54, hi55⟩ := Ctx.rdAt hc (k := 2) rfl rfl reads_own hy53
         clear u58
         refine rs (v := .pointer (some ⟨b29, o30 + (j9).toNat * 2, none⟩)) (ixx rfl rfl Try.underlying40 Try.sizeOf57 hi54 hi55 rfl) rfl ?_
         refine rs (v := .pointer (some ⟨b29, o30 + (j9).toNat * 2 + 0, none⟩)) (fax 0 rfl Try.underlying57 rfl Try.sizeOf3 rfl rfl rfl) rfl ?_
         replace hc := Ctx.rdCell hc (k := 2) rfl rfl reads_own hy53; obtain ⟨cs59, hc, hcell60⟩ := hc
         replace hc := Ctx.holdC hc; obtain ⟨u61, hc⟩ := hc; subst u61
         refine rs (v := .int .i64 y53.ID) (ld rfl Try.isAgg3 (hcell60 0 _ rfl)) rfl ?_
         replace hc : Ctx w42 (Hold (pInt .i64) [.int .i64 y53.ID] y53.ID :: Own (pInt .i64) 3 (.slice a35 1 1) ([y26.ID]) :: B b0 [.int .i64 x0.Width, .slice (some ⟨b29, o30, none⟩) x0.L.length q15] 42 :: Own S_ref22_Member.pr 57 (.slice (some ⟨b29, o30, none⟩) x0.L.length q15) x0.L :: Own (pInt .i64) 3 (.slice a40 z37.length q41) z37 :: Own (pInt .i64) 3 (.slice a6 j5.length q8) j5 :: Fr) := hc.add _ fun _ _ _ => ⟨rfl, rfl⟩
         refine rsE (Ctx.builtOp (css := [[.int .i64 y53.ID]]) (xs := ([y53.ID] : List Int)) (E := (pInt .i64)) hc Try.underlying22 Try.sizeOf3 Try.zeroValue3 rfl rfl rfl rfl rfl rfl rfl rfl) rfl ?_
         clear hc; rintro _ w63 ⟨a62, rfl, hc⟩
         replace hp := bind_some hp; obtain ⟨z64, hz64, hp⟩ := hp
         obtain ⟨hg65, e66⟩ := app_some hz64
         refine rsE (Ctx.append hc (k := 5) rfl rfl (k2 := 0) rfl rfl reads_own Try.underlying22 (i := Try.t3) rfl rfl rfl rfl rfl rfl rfl rfl hg65) rfl ?_
         clear hc; rintro _ w69 ⟨a67, q68, rfl, hc⟩
         rw [← e66] at hc ⊢
         refine rs (v := .slice a67 z64.length q68) (av (v := .slice a67 z64.length q68) rfl) rfl ?_
         refine rn ?_
         refine bn ?_
         refine qn ?_
         replace hc := hc.pull 3 rfl rfl
         replace hc := hc.pull 3 rfl rfl
         replace hc : Ctx w69 (S_ref22_Batch.hp b0 x0 :: Own (pInt .i64) 3 (.slice a62 1 1) ([y53.ID]) :: Own (pInt .i64) 3 (.slice a35 1 1) ([y26.ID]) :: Own (pInt .i64) 3 (.slice a40 z37.length q41) z37 :: Own (pInt .i64) 3 (.slice a67 z64.length q68) z64 :: Fr) := Ctx.exB _ _ (Ctx.sepB hc)
         replace hc := hc.rem 2 rfl rfl
         replace hc := hc.rem 1 rfl rfl
         exact ⟨⟨z37, z64, a40, z37.length, q41, a67, z64.length, q68, rfl, hp, hc⟩, (kl rfl kb)⟩
     · clear hp hc; intro vs u w70 hJ
       obtain ⟨j18, j22, a19, n20, q21, a23, n24, q25, rfl, hp, hc⟩ := hJ
       obtain ⟨u71, _⟩ := Ctx.rdLen hc (k := 1) rfl rfl reads_own; subst u71
       obtain ⟨u72, _⟩ := Ctx.rdLen hc (k := 2) rfl rfl reads_own; subst u72
       unfold ref22_Batch_Lists.J2 at hp
       refine Wreg ?_
       refine rs (v := .int .i64 j9) (mv (v := .int .i64 j9) rfl) rfl ?_
       refine rs (v := .int .i64 (IntKind.i64.wrap (j9 + 1))) (adw rfl rfl) rfl ?_
       refine rs (v := .int .i64 (IntKind.i64.wrap (j9 + 1))) (av (v := .int .i64 (IntKind.i64.wrap (j9 + 1))) rfl) rfl ?_
       refine rn ?_
       refine qn ?_
       exact ⟨m1, Nat.lt_succ_self _, ⟨j18, j22, (IntKind.i64.wrap (j9 + 1)), a19, j18.length, q21, a23, j22.length, q25, rfl, hp, hc⟩, (kl rfl (km rfl (kl rfl k0)))⟩

-- FN peloton/pelotonlaw22.has
def law22_has.L1 (x0 : (List Int)) (x1 : Int) : Nat → Int → Option (Bool)
  | 0, _ => none
  | m1 + 1, j1 =>
    if j1 < ((x0.length : Nat) : Int) then
      (idx x0 j1).bind fun y4 =>
      if y4 = x1 then
        some true
      else
        (law22_has.L1 x0 x1 m1) (IntKind.i64.wrap (j1 + 1))
    else
      some false

def law22_has (N : Nat) (x0 : (List Int)) (x1 : Int) : Option (Bool) :=
  law22_has.L1 x0 x1 N 0

set_option maxHeartbeats 8000000 in
theorem law22_has_any {N : Nat} {x0 : (List Int)} {ax0 : Option Addr} {nx0 : Nat} {qx0 : Nat} {P0 : HP} {x1 : Int} {Fr : List HP} {w : World} {r : Bool} {K : Value → World → Prop} (hrd0 : Reads P0 (pInt .i64) (.slice ax0 nx0 qx0) x0) (hc : Ctx w (P0 :: Fr)) (hp : law22_has N x0 x1 = some r)
    (k : ∀ w', Ctx w' (P0 :: Fr) → K (.bool r) w') : Calls Try.prog 11 #[.slice ax0 nx0 qx0, .int .i64 x1] w (Ret K) := by
 unfold law22_has at hp
 refine Center (args := [.slice ax0 nx0 qx0, .int .i64 x1]) (l := [(0, .slice ax0 nx0 qx0), (1, .int .i64 x1)]) Try.func11 Try.ntmps11 rfl rfl rfl ?_
 obtain ⟨hn0, _⟩ := Ctx.rdLen hc (k := 0) rfl rfl hrd0; subst hn0
 refine Wseq ?_
 refine Wreg ?_
 refine rs (v := .bool false) (av (v := .bool false) rfl) rfl ?_
 refine rn ?_
 refine qn ?_
 refine Wseq ?_
 refine Wseq ?_
 refine Wreg ?_
 refine rs (v := .int .i64 0) (av (v := .int .i64 0) rfl) rfl ?_
 refine rn ?_
 refine qn ?_
 refine Wblk ?_
 refine Wloop [4, 5, 6, 7, 8, 9, 10, 11, 12, 13, 14, 15, 16, 17] [5] (fun m vs w' => ∃ j1 : Int, vs = [.int .i64 j1] ∧ law22_has.L1 x0 x1 m j1 = some r ∧ Ctx w' (P0 :: Fr)) N ?_ ?_
 · exact ⟨0, rfl, hp, hc⟩
 · clear hp hc; intro m vs u w2 hJ
   obtain ⟨j1, rfl, hp, hc⟩ := hJ
   rcases m with _ | m1
   · cases (show none = some r from hp)
   rw [law22_has.L1] at hp
   refine Wseq ?_
   refine Wseq ?_
   refine Wreg ?_
   refine rs (v := .int .i64 j1) (mv (v := .int .i64 j1) rfl) rfl ?_
   refine rs (v := .slice ax0 x0.length qx0) (mv (v := .slice ax0 x0.length qx0) rfl) rfl ?_
   refine rs (v := .int .i64 ((x0.length : Nat) : Int)) (ln rfl Try.underlying22) rfl ?_
   refine rs (v := .bool (decide (j1 < ((x0.length : Nat) : Int)))) (lt' rfl rfl) rfl ?_
   refine rn ?_
   refine qn ?_
   cases hb3 : (decide (j1 < ((x0.length : Nat) : Int)))
   · replace hp := gneg hp (of_decide_eq_false hb3)
     refine Wcf rfl ?_
     refine Wexit ?_
     refine qx ?_
     refine qx ?_
     refine be ?_
     refine qn ?_
     refine Wseq ?_
     refine Wreg ?_
     refine rs (v := .bool false) (av (v := .bool false) rfl) rfl ?_
     refine rn ?_
     refine qn ?_
     refine Wret ?_
     injection hp with hp; subst hp
     refine f1 (v := .bool false) Try.results11 Try.ntmps11 rfl ?_
     exact ⟨_, rfl, k _ hc⟩
   · replace hp := gpos hp (of_decide_eq_true hb3)
     refine Wct rfl ?_
     refine Wskip ?_
     refine qn ?_
     refine Wseq ?_
     refine Wblk ?_
     refine Wseq ?_
     refine Wreg ?_
     refine rs (v := .slice ax0 x0.length qx0) (mv (v := .slice ax0 x0.length qx0) rfl) rfl ?_
     refine rs (v := .int .i64 j1) (mv (v := .int .i64 j1) rfl) rfl ?_
     replace hp := bind_some hp; obtain ⟨y4, hy4, hp⟩ := hp
     obtain ⟨b7, o8, u9, hi5, hi6⟩ := Ctx.rdAt hc (k := 0) rfl rfl hrd0 hy4
     subst u9
     refine rs (v := .pointer (some ⟨b7, o8 + (j1).toNat * 1, none⟩)) (ixx rfl rfl Try.underlying22 Try.sizeOf3 hi5 hi6 rfl) rfl ?_
     replace hc := Ctx.rdCell hc (k := 0) rfl rfl hrd0 hy4; obtain ⟨cs10, hc, hcell11⟩ := hc
     replace hc := Ctx.holdC hc; obtain ⟨u12, hc⟩ := hc; subst u12
     refine rs (v := .int .i64 y4) (ld rfl Try.isAgg3 (hcell11 0 _ rfl)) rfl ?_
     refine rs (v := .int .i64 x1) (mv (v := .int .i64 x1) rfl) rfl ?_
     refine rs (v := .bool (decide (y4 = x1))) (eqd rfl rfl) rfl ?_
     refine rn ?_
     refine qn ?_
     cases hb13 : (decide (y4 = x1))
     · replace hp := gneg hp (of_decide_eq_false hb13)
       refine Wcf rfl ?_
       refine Wskip ?_
       refine bn ?_
       refine qn ?_
       refine Wreg ?_
       refine rs (v := .int .i64 j1) (mv (v := .int .i64 j1) rfl) rfl ?_
       refine rs (v := .int .i64 (IntKind.i64.wrap (j1 + 1))) (adw rfl rfl) rfl ?_
       refine rs (v := .int .i64 (IntKind.i64.wrap (j1 + 1))) (av (v := .int .i64 (IntKind.i64.wrap (j1 + 1))) rfl) rfl ?_
       refine rn ?_
       refine qn ?_
       exact ⟨m1, Nat.lt_succ_self _, ⟨(IntKind.i64.wrap (j1 + 1)), rfl, hp, hc⟩, (kl rfl k0)⟩
     · replace hp := gpos hp (of_decide_eq_true hb13)
       refine Wct rfl ?_
       refine Wseq ?_
       refine Wreg ?_
       refine rs (v := .bool true) (av (v := .bool true) rfl) rfl ?_
       refine rn ?_
       refine qn ?_
       refine Wret ?_
       refine br ?_
       refine qr ?_
       refine qr ?_
       refine br ?_
       refine qr ?_
       injection hp with hp; subst hp
       refine f1 (v := .bool true) Try.results11 Try.ntmps11 rfl ?_
       exact ⟨_, rfl, k _ hc⟩

-- FN peloton/pelotonlaw22.awake
def law22_awake (N : Nat) : Option (Bool) :=
  (batch_New 3).bind fun r1 =>
  optc r1.1 (
    some false) fun y5 =>
  if r1.2 ≠ 0 then
    some false
  else
    (batch_Batch_Add N y5 ([7, 8, 9])).bind fun r12 =>
    if r12.1 ≠ 0 then
      some false
    else
      (batch_Batch_Pick N r12.2 2).bind fun r15 =>
      (batch_Batch_Members r15.2).bind fun r21 =>
      (batch_Batch_Back N r15.2 ([7])).bind fun r29 =>
      (ref09_Ints N r15.1 ([7, 8])).bind fun r33 =>
      if r33 = true then
        (ref09_Ints N r21 ([9, 7, 8])).bind fun r38 =>
        if r38 = true then
          if r29.1 = 1 then
            (batch_Batch_Pick N r29.2 5).bind fun r42 =>
            (ref09_Ints N r42.1 ([9, 7])).bind fun r50 =>
            some r50
          else
            some false
        else
          some false
      else
        some false

set_option maxHeartbeats 8000000 in
theorem law22_awake_any {N : Nat} {Fr : List HP} {w : World} {r : Bool} {K : Value → World → Prop}  (hc : Ctx w (Fr)) (hp : law22_awake N = some r)
    (k : ∀ w', Ctx w' (Fr) → K (.bool r) w') : Calls Try.prog 6 #[] w (Ret K) := by
 unfold law22_awake at hp
 refine Center (args := []) (l := []) Try.func6 Try.ntmps6 rfl rfl rfl ?_
 refine Wseq ?_
 refine Wreg ?_
 refine rs (v := .bool false) (av (v := .bool false) rfl) rfl ?_
 refine rn ?_
 refine qn ?_
 refine Wseq ?_
 refine Wreg ?_
 replace hp := bind_some hp; obtain ⟨r1, hr1, hp⟩ := hp
 refine rc (cl Try.call7 rfl rfl) rfl ?_
 refine batch_New_any hc hr1 ?_
 clear hc; intro v2 w3 hc
 refine rs (v := .tuple #[v2, .int .i64 r1.2]) (mv (v := .tuple #[v2, .int .i64 r1.2]) rfl) rfl ?_
 refine rs (v := v2) (ext (v := v2) rfl rfl) rfl ?_
 refine rs (v := .int .i64 r1.2) (ext (v := .int .i64 r1.2) rfl rfl) rfl ?_
 refine rs (v := v2) (av (v := v2) rfl) rfl ?_
 refine rs (v := .int .i64 r1.2) (av (v := .int .i64 r1.2) rfl) rfl ?_
 refine rn ?_
 refine qn ?_
 refine Wseq ?_
 refine Wseq ?_
 refine Wreg ?_
 refine rs (v := v2) (mv (v := v2) rfl) rfl ?_
 cases hb4 : r1.1
 · replace hp := optN hp hb4
   rw [hb4] at hc
   replace hc := Ctx.ptoN hc; obtain ⟨u6, hc⟩ := hc; subst u6
   refine rs (v := .bool true) (ept Try.underlying24 rfl rfl) rfl ?_
   refine rs (v := .bool true) (mv (v := .bool true) rfl) rfl ?_
   refine r0 rfl ?_
   refine r0 rfl ?_
   refine rs (v := .bool true) (pkt (v := .bool true) rfl rfl) rfl ?_
   refine rs (v := .bool true) (mv (v := .bool true) rfl) rfl ?_
   refine r0 rfl ?_
   refine r0 rfl ?_
   refine r0 rfl ?_
   refine r0 rfl ?_
   refine rs (v := .bool true) (pkt (v := .bool true) rfl rfl) rfl ?_
   refine rn ?_
   refine qn ?_
   refine Wct rfl ?_
   refine Wseq ?_
   refine Wreg ?_
   refine rs (v := .bool false) (av (v := .bool false) rfl) rfl ?_
   refine rn ?_
   refine qn ?_
   refine Wret ?_
   refine qr ?_
   injection hp with hp; subst hp
   refine f1 (v := .bool false) Try.results6 Try.ntmps6 rfl ?_
   exact ⟨_, rfl, k _ hc⟩
 · rename_i y5
   replace hp := optS hp hb4
   rw [hb4] at hc
   replace hc := Ctx.ptoS hc; obtain ⟨b7, u8, hc⟩ := hc; subst u8
   refine rs (v := .bool false) (epf Try.underlying24 rfl rfl) rfl ?_
   refine rs (v := .bool false) (mv (v := .bool false) rfl) rfl ?_
   refine rs (v := .int .i64 r1.2) (mv (v := .int .i64 r1.2) rfl) rfl ?_
   refine rs (v := .bool (decide (r1.2 ≠ 0))) (ned rfl rfl) rfl ?_
   refine rs (v := .bool (decide (r1.2 ≠ 0))) (pkf (v := .bool (decide (r1.2 ≠ 0))) rfl rfl) rfl ?_
   refine rs (v := .bool (decide (r1.2 ≠ 0))) (mv (v := .bool (decide (r1.2 ≠ 0))) rfl) rfl ?_
   cases hb9 : (decide (r1.2 ≠ 0))
   · replace hp := gneg hp (of_decide_eq_false hb9)
     refine rs (v := .pointer (some ⟨b7, 0, none⟩)) (mv (v := .pointer (some ⟨b7, 0, none⟩)) rfl) rfl ?_
     replace hc : Ctx w3 (Hold (pInt .i64) [.int .i64 9] 9 :: S_batch_Batch.hp b7 y5 :: Fr) := hc.add _ fun _ _ _ => ⟨rfl, rfl⟩
     replace hc : Ctx w3 (Hold (pInt .i64) [.int .i64 8] 8 :: Hold (pInt .i64) [.int .i64 9] 9 :: S_batch_Batch.hp b7 y5 :: Fr) := hc.add _ fun _ _ _ => ⟨rfl, rfl⟩
     replace hc : Ctx w3 (Hold (pInt .i64) [.int .i64 7] 7 :: Hold (pInt .i64) [.int .i64 8] 8 :: Hold (pInt .i64) [.int .i64 9] 9 :: S_batch_Batch.hp b7 y5 :: Fr) := hc.add _ fun _ _ _ => ⟨rfl, rfl⟩
     refine rsE (Ctx.builtOp (css := [[.int .i64 7], [.int .i64 8], [.int .i64 9]]) (xs := ([7, 8, 9] : List Int)) (E := (pInt .i64)) hc Try.underlying22 Try.sizeOf3 Try.zeroValue3 rfl rfl rfl rfl rfl rfl rfl rfl) rfl ?_
     clear hc; rintro _ w11 ⟨a10, rfl, hc⟩
     replace hp := bind_some hp; obtain ⟨r12, hr12, hp⟩ := hp
     replace hc := hc.pull 1 rfl rfl
     refine rc (cl Try.call8 rfl rfl) rfl ?_
     refine batch_Batch_Add_any reads_own hc hr12 ?_
     clear hc; intro w13 hc
     refine rs (v := .bool (decide (r12.1 ≠ 0))) (ned rfl rfl) rfl ?_
     refine rs (v := .bool (decide (r12.1 ≠ 0))) (pkf (v := .bool (decide (r12.1 ≠ 0))) rfl rfl) rfl ?_
     refine rn ?_
     refine qn ?_
     cases hb14 : (decide (r12.1 ≠ 0))
     · replace hp := gneg hp (of_decide_eq_false hb14)
       refine Wcf rfl ?_
       refine Wskip ?_
       refine qn ?_
       refine Wseq ?_
       refine Wreg ?_
       refine rs (v := .pointer (some ⟨b7, 0, none⟩)) (mv (v := .pointer (some ⟨b7, 0, none⟩)) rfl) rfl ?_
       replace hp := bind_some hp; obtain ⟨r15, hr15, hp⟩ := hp
       refine rc (cl Try.call10 rfl rfl) rfl ?_
       refine batch_Batch_Pick_any hc hr15 ?_
       clear hc; intro a16 n17 q18 w19 hc
       obtain ⟨u20, _⟩ := Ctx.rdLen hc (k := 0) rfl rfl reads_own; subst u20
       refine rs (v := .slice a16 r15.1.length q18) (av (v := .slice a16 r15.1.length q18) rfl) rfl ?_
       refine rn ?_
       refine qn ?_
       refine Wseq ?_
       refine Wreg ?_
       refine rs (v := .pointer (some ⟨b7, 0, none⟩)) (mv (v := .pointer (some ⟨b7, 0, none⟩)) rfl) rfl ?_
       replace hp := bind_some hp; obtain ⟨r21, hr21, hp⟩ := hp
       replace hc := hc.pull 1 rfl rfl
       refine rc (cl Try.call13 rfl rfl) rfl ?_
       refine batch_Batch_Members_any hc hr21 ?_
       clear hc; intro a22 n23 q24 w25 hc
       obtain ⟨u26, _⟩ := Ctx.rdLen hc (k := 0) rfl rfl reads_own; subst u26
       refine rs (v := .slice a22 r21.length q24) (av (v := .slice a22 r21.length q24) rfl) rfl ?_
       refine rn ?_
       refine qn ?_
       refine Wseq ?_
       refine Wreg ?_
       refine rs (v := .pointer (some ⟨b7, 0, none⟩)) (mv (v := .pointer (some ⟨b7, 0, none⟩)) rfl) rfl ?_
       replace hc : Ctx w25 (Hold (pInt .i64) [.int .i64 7] 7 :: Own (pInt .i64) 3 (.slice a22 r21.length q24) r21 :: S_batch_Batch.hp b7 r15.2 :: Own (pInt .i64) 3 (.slice a16 r15.1.length q18) r15.1 :: Own (pInt .i64) 3 (.slice a10 3 3) ([7, 8, 9]) :: Fr) := hc.add _ fun _ _ _ => ⟨rfl, rfl⟩
       refine rsE (Ctx.builtOp (css := [[.int .i64 7]]) (xs := ([7] : List Int)) (E := (pInt .i64)) hc Try.underlying22 Try.sizeOf3 Try.zeroValue3 rfl rfl rfl rfl rfl rfl rfl rfl) rfl ?_
       clear hc; rintro _ w28 ⟨a27, rfl, hc⟩
       replace hp := bind_some hp; obtain ⟨r29, hr29, hp⟩ := hp
       replace hc := hc.pull 2 rfl rfl
       refine rc (cl Try.call12 rfl rfl) rfl ?_
       refine batch_Batch_Back_any reads_own hc hr29 ?_
       clear hc; intro w30 hc
       refine rs (v := .int .i64 r29.1) (av (v := .int .i64 r29.1) rfl) rfl ?_
       refine rn ?_
       refine qn ?_
       refine Wseq ?_
       refine Wreg ?_
       refine rs (v := .slice a16 r15.1.length q18) (mv (v := .slice a16 r15.1.length q18) rfl) rfl ?_
       replace hc : Ctx w30 (Hold (pInt .i64) [.int .i64 8] 8 :: S_batch_Batch.hp b7 r29.2 :: Own (pInt .i64) 3 (.slice a27 1 1) ([7]) :: Own (pInt .i64) 3 (.slice a22 r21.length q24) r21 :: Own (pInt .i64) 3 (.slice a16 r15.1.length q18) r15.1 :: Own (pInt .i64) 3 (.slice a10 3 3) ([7, 8, 9]) :: Fr) := hc.add _ fun _ _ _ => ⟨rfl, rfl⟩
       replace hc : Ctx w30 (Hold (pInt .i64) [.int .i64 7] 7 :: Hold (pInt .i64) [.int .i64 8] 8 :: S_batch_Batch.hp b7 r29.2 :: Own (pInt .i64) 3 (.slice a27 1 1) ([7]) :: Own (pInt .i64) 3 (.slice a22 r21.length q24) r21 :: Own (pInt .i64) 3 (.slice a16 r15.1.length q18) r15.1 :: Own (pInt .i64) 3 (.slice a10 3 3) ([7, 8, 9]) :: Fr) := hc.add _ fun _ _ _ => ⟨rfl, rfl⟩
       refine rsE (Ctx.builtOp (css := [[.int .i64 7], [.int .i64 8]]) (xs := ([7, 8] : List Int)) (E := (pInt .i64)) hc Try.underlying22 Try.sizeOf3 Try.zeroValue3 rfl rfl rfl rfl rfl rfl rfl rfl) rfl ?_
       clear hc; rintro _ w32 ⟨a31, rfl, hc⟩
       replace hp := bind_some hp; obtain ⟨r33, hr33, hp⟩ := hp
       replace hc := hc.pull 4 rfl rfl
       refine rc (cl Try.call14 rfl rfl) rfl ?_
       refine ref09_Ints_any reads_own reads_own hc hr33 ?_
       clear hc; intro w34 hc
       refine rs (v := .bool r33) (mv (v := .bool r33) rfl) rfl ?_
       cases hb35 : r33
       · replace hp := gneg hp (by rw [hb35]; exact Bool.false_ne_true)
         subst hb35
         refine r0 rfl ?_
         refine r0 rfl ?_
         refine r0 rfl ?_
         refine rs (v := .bool false) (pkf (v := .bool false) rfl rfl) rfl ?_
         refine rs (v := .bool false) (mv (v := .bool false) rfl) rfl ?_
         refine r0 rfl ?_
         refine r0 rfl ?_
         refine rs (v := .bool false) (pkf (v := .bool false) rfl rfl) rfl ?_
         refine rs (v := .bool false) (mv (v := .bool false) rfl) rfl ?_
         refine r0 rfl ?_
         refine r0 rfl ?_
         refine r0 rfl ?_
         refine r0 rfl ?_
         refine rs (v := .bool false) (pkf (v := .bool false) rfl rfl) rfl ?_
         refine rs (v := .bool false) (av (v := .bool false) rfl) rfl ?_
         refine rn ?_
         refine qn ?_
         refine Wret ?_
         replace hc := hc.rem 5 rfl rfl
         replace hc := hc.rem 4 rfl rfl
         replace hc := hc.rem 3 rfl rfl
         replace hc := hc.rem 2 rfl rfl
         replace hc := hc.rem 1 rfl rfl
         replace hc := hc.rem 0 rfl rfl
         injection hp with hp; subst hp
         refine f1 (v := .bool false) Try.results6 Try.ntmps6 rfl ?_
         exact ⟨_, rfl, k _ hc⟩
       · replace hp := gpos hp hb35
         subst hb35
         refine rs (v := .slice a22 r21.length q24) (mv (v := .slice a22 r21.length q24) rfl) rfl ?_
         replace hc : Ctx w34 (Hold (pInt .i64) [.int .i64 8] 8 :: Own (pInt .i64) 3 (.slice a16 r15.1.length q18) r15.1 :: Own (pInt .i64) 3 (.slice a31 2 2) ([7, 8]) :: S_batch_Batch.hp b7 r29.2 :: Own (pInt .i64) 3 (.slice a27 1 1) ([7]) :: Own (pInt .i64) 3 (.slice a22 r21.length q24) r21 :: Own (pInt .i64) 3 (.slice a10 3 3) ([7, 8, 9]) :: Fr) := hc.add _ fun _ _ _ => ⟨rfl, rfl⟩
         replace hc : Ctx w34 (Hold (pInt .i64) [.int .i64 7] 7 :: Hold (pInt .i64) [.int .i64 8] 8 :: Own (pInt .i64) 3 (.slice a16 r15.1.length q18) r15.1 :: Own (pInt .i64) 3 (.slice a31 2 2) ([7, 8]) :: S_batch_Batch.hp b7 r29.2 :: Own (pInt .i64) 3 (.slice a27 1 1) ([7]) :: Own (pInt .i64) 3 (.slice a22 r21.length q24) r21 :: Own (pInt .i64) 3 (.slice a10 3 3) ([7, 8, 9]) :: Fr) := hc.add _ fun _ _ _ => ⟨rfl, rfl⟩
         replace hc : Ctx w34 (Hold (pInt .i64) [.int .i64 9] 9 :: Hold (pInt .i64) [.int .i64 7] 7 :: Hold (pInt .i64) [.int .i64 8] 8 :: Own (pInt .i64) 3 (.slice a16 r15.1.length q18) r15.1 :: Own (pInt .i64) 3 (.slice a31 2 2) ([7, 8]) :: S_batch_Batch.hp b7 r29.2 :: Own (pInt .i64) 3 (.slice a27 1 1) ([7]) :: Own (pInt .i64) 3 (.slice a22 r21.length q24) r21 :: Own (pInt .i64) 3 (.slice a10 3 3) ([7, 8, 9]) :: Fr) := hc.add _ fun _ _ _ => ⟨rfl, rfl⟩
         refine rsE (Ctx.builtOp (css := [[.int .i64 9], [.int .i64 7], [.int .i64 8]]) (xs := ([9, 7, 8] : List Int)) (E := (pInt .i64)) hc Try.underlying22 Try.sizeOf3 Try.zeroValue3 rfl rfl rfl rfl rfl rfl rfl rfl) rfl ?_
         clear hc; rintro _ w37 ⟨a36, rfl, hc⟩
         replace hp := bind_some hp; obtain ⟨r38, hr38, hp⟩ := hp
         replace hc := hc.pull 5 rfl rfl
         refine rc (cl Try.call14 rfl rfl) rfl ?_
         refine ref09_Ints_any reads_own reads_own hc hr38 ?_
         clear hc; intro w39 hc
         refine rs (v := .bool r38) (pkt (v := .bool r38) rfl rfl) rfl ?_
         refine rs (v := .bool r38) (mv (v := .bool r38) rfl) rfl ?_
         cases hb40 : r38
         · replace hp := gneg hp (by rw [hb40]; exact Bool.false_ne_true)
           subst hb40
           refine r0 rfl ?_
           refine r0 rfl ?_
           refine rs (v := .bool false) (pkf (v := .bool false) rfl rfl) rfl ?_
           refine rs (v := .bool false) (mv (v := .bool false) rfl) rfl ?_
           refine r0 rfl ?_
           refine r0 rfl ?_
           refine r0 rfl ?_
           refine r0 rfl ?_
           refine rs (v := .bool false) (pkf (v := .bool false) rfl rfl) rfl ?_
           refine rs (v := .bool false) (av (v := .bool false) rfl) rfl ?_
           refine rn ?_
           refine qn ?_
           refine Wret ?_
           replace hc := hc.rem 6 rfl rfl
           replace hc := hc.rem 5 rfl rfl
           replace hc := hc.rem 4 rfl rfl
           replace hc := hc.rem 3 rfl rfl
           replace hc := hc.rem 2 rfl rfl
           replace hc := hc.rem 1 rfl rfl
           replace hc := hc.rem 0 rfl rfl
           injection hp with hp; subst hp
           refine f1 (v := .bool false) Try.results6 Try.ntmps6 rfl ?_
           exact ⟨_, rfl, k _ hc⟩
         · replace hp := gpos hp hb40
           subst hb40
           refine rs (v := .int .i64 r29.1) (mv (v := .int .i64 r29.1) rfl) rfl ?_
           refine rs (v := .bool (decide (r29.1 = 1))) (eqd rfl rfl) rfl ?_
           refine rs (v := .bool (decide (r29.1 = 1))) (pkt (v := .bool (decide (r29.1 = 1))) rfl rfl) rfl ?_
           refine rs (v := .bool (decide (r29.1 = 1))) (mv (v := .bool (decide (r29.1 = 1))) rfl) rfl ?_
           cases hb41 : (decide (r29.1 = 1))
           · replace hp := gneg hp (of_decide_eq_false hb41)
             refine r0 rfl ?_
             refine r0 rfl ?_
             refine r0 rfl ?_
             refine r0 rfl ?_
             refine rs (v := .bool false) (pkf (v := .bool false) rfl rfl) rfl ?_
             refine rs (v := .bool false) (av (v := .bool false) rfl) rfl ?_
             refine rn ?_
             refine qn ?_
             refine Wret ?_
             replace hc := hc.rem 6 rfl rfl
             replace hc := hc.rem 5 rfl rfl
             replace hc := hc.rem 4 rfl rfl
             replace hc := hc.rem 3 rfl rfl
             replace hc := hc.rem 2 rfl rfl
             replace hc := hc.rem 1 rfl rfl
             replace hc := hc.rem 0 rfl rfl
             injection hp with hp; subst hp
             refine f1 (v := .bool false) Try.results6 Try.ntmps6 rfl ?_
             exact ⟨_, rfl, k _ hc⟩
           · replace hp := gpos hp (of_decide_eq_true hb41)
             refine rs (v := .pointer (some ⟨b7, 0, none⟩)) (mv (v := .pointer (some ⟨b7, 0, none⟩)) rfl) rfl ?_
             replace hp := bind_some hp; obtain ⟨r42, hr42, hp⟩ := hp
             replace hc := hc.pull 4 rfl rfl
             refine rc (cl Try.call10 rfl rfl) rfl ?_
             refine batch_Batch_Pick_any hc hr42 ?_
             clear hc; intro a43 n44 q45 w46 hc
             obtain ⟨u47, _⟩ := Ctx.rdLen hc (k := 0) rfl rfl reads_own; subst u47
             replace hc : Ctx w46 (Hold (pInt .i64) [.int .i64 7] 7 :: Own (pInt .i64) 3 (.slice a43 r42.1.length q45) r42.1 :: S_batch_Batch.hp b7 r42.2 :: Own (pInt .i64) 3 (.slice a22 r21.length q24) r21 :: Own (pInt .i64) 3 (.slice a36 3 3) ([9, 7, 8]) :: Own (pInt .i64) 3 (.slice a16 r15.1.length q18) r15.1 :: Own (pInt .i64) 3 (.slice a31 2 2) ([7, 8]) :: Own (pInt .i64) 3 (.slice a27 1 1) ([7]) :: Own (pInt .i64) 3 (.slice a10 3 3) ([7, 8, 9]) :: Fr) := hc.add _ fun _ _ _ => ⟨rfl, rfl⟩
             replace hc : Ctx w46 (Hold (pInt .i64) [.int .i64 9] 9 :: Hold (pInt .i64) [.int .i64 7] 7 :: Own (pInt .i64) 3 (.slice a43 r42.1.length q45) r42.1 :: S_batch_Batch.hp b7 r42.2 :: Own (pInt .i64) 3 (.slice a22 r21.length q24) r21 :: Own (pInt .i64) 3 (.slice a36 3 3) ([9, 7, 8]) :: Own (pInt .i64) 3 (.slice a16 r15.1.length q18) r15.1 :: Own (pInt .i64) 3 (.slice a31 2 2) ([7, 8]) :: Own (pInt .i64) 3 (.slice a27 1 1) ([7]) :: Own (pInt .i64) 3 (.slice a10 3 3) ([7, 8, 9]) :: Fr) := hc.add _ fun _ _ _ => ⟨rfl, rfl⟩
             refine rsE (Ctx.builtOp (css := [[.int .i64 9], [.int .i64 7]]) (xs := ([9, 7] : List Int)) (E := (pInt .i64)) hc Try.underlying22 Try.sizeOf3 Try.zeroValue3 rfl rfl rfl rfl rfl rfl rfl rfl) rfl ?_
             clear hc; rintro _ w49 ⟨a48, rfl, hc⟩
             replace hp := bind_some hp; obtain ⟨r50, hr50, hp⟩ := hp
             replace hc := hc.pull 1 rfl rfl
             refine rc (cl Try.call14 rfl rfl) rfl ?_
             refine ref09_Ints_any reads_own reads_own hc hr50 ?_
             clear hc; intro w51 hc
             refine rs (v := .bool r50) (pkt (v := .bool r50) rfl rfl) rfl ?_
             refine rs (v := .bool r50) (av (v := .bool r50) rfl) rfl ?_
             refine rn ?_
             refine qn ?_
             refine Wret ?_
             replace hc := hc.rem 8 rfl rfl
             replace hc := hc.rem 7 rfl rfl
             replace hc := hc.rem 6 rfl rfl
             replace hc := hc.rem 5 rfl rfl
             replace hc := hc.rem 4 rfl rfl
             replace hc := hc.rem 3 rfl rfl
             replace hc := hc.rem 2 rfl rfl
             replace hc := hc.rem 1 rfl rfl
             replace hc := hc.rem 0 rfl rfl
             injection hp with hp; subst hp
             refine f1 (v := .bool r50) Try.results6 Try.ntmps6 rfl ?_
             exact ⟨_, rfl, k _ hc⟩
     · replace hp := gpos hp (of_decide_eq_true hb14)
       refine Wct rfl ?_
       refine Wseq ?_
       refine Wreg ?_
       refine rs (v := .bool false) (av (v := .bool false) rfl) rfl ?_
       refine rn ?_
       refine qn ?_
       refine Wret ?_
       refine qr ?_
       replace hc := hc.rem 1 rfl rfl
       replace hc := hc.rem 0 rfl rfl
       injection hp with hp; subst hp
       refine f1 (v := .bool false) Try.results6 Try.ntmps6 rfl ?_
       exact ⟨_, rfl, k _ hc⟩
   · replace hp := gpos hp (of_decide_eq_true hb9)
     refine r0 rfl ?_
     refine r0 rfl ?_
     refine r0 rfl ?_
     refine r0 rfl ?_
     refine rs (v := .bool true) (pkt (v := .bool true) rfl rfl) rfl ?_
     refine rn ?_
     refine qn ?_
     refine Wct rfl ?_
     refine Wseq ?_
     refine Wreg ?_
     refine rs (v := .bool false) (av (v := .bool false) rfl) rfl ?_
     refine rn ?_
     refine qn ?_
     refine Wret ?_
     refine qr ?_
     replace hc := hc.rem 0 rfl rfl
     injection hp with hp; subst hp
     refine f1 (v := .bool false) Try.results6 Try.ntmps6 rfl ?_
     exact ⟨_, rfl, k _ hc⟩

end Go.Proofs.Ythlildgmjidllaa
