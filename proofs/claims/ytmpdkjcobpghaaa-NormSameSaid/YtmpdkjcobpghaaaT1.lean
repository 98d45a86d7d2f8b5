/- Functions of the program as plain functions, and the proofs that walks compute them. Printed by a program of this session. -/
import Derived.Test.YtmpdkjcobpghaaaSl12
import Derived.Test.YtmpdkjcobpghaaaE5
import Derived.Test.YtmpdkjcobpghaaaProg
namespace Go.Proofs.Ytmpdkjcobpghaaa
open Go Go.RowKit Go.Hp
set_option linter.unusedVariables false
set_option linter.unusedSimpArgs false
set_option maxRecDepth 100000

structure S_law05_Joined where
  X : (List Int)
  Y : (List Int)
  By : Int
  N : Int
  deriving DecidableEq

def S_law05_Joined.pr : PR S_law05_Joined 4 := pMap (fun x : S_law05_Joined => (x.X, x.Y, x.By, x.N)) (pSeq (pRo (pInt .i32)) (pSeq (pRo (pInt .i32)) (pSeq (pInt .i32) (pInt .i64))))

theorem S_law05_Joined.op {w : World} {l : List HP} {cs : List Value} {x : S_law05_Joined} (h : Ctx w (Hold S_law05_Joined.pr cs x :: l)) : ∃ a0 q0 a1 q1, cs = [.slice a0 x.X.length q0, .slice a1 x.Y.length q1, .int .i32 x.By, .int .i64 x.N] ∧ Ctx w (Hold (pRo (pInt .i32)) [.slice a0 x.X.length q0] x.X :: Hold (pRo (pInt .i32)) [.slice a1 x.Y.length q1] x.Y :: l) := by
  obtain ⟨R, Ss, hc⟩ := h
  match Ss, hc with
  | S :: Ss, hc =>
    obtain ⟨⟨rfl, ⟨_, _, rfl, ⟨_, rfl, a0, q0, rfl, hc0, hr0⟩, ⟨_, _, rfl, ⟨_, rfl, a1, q1, rfl, hc1, hr1⟩, ⟨_, _, rfl, rfl, rfl⟩⟩⟩⟩, h3⟩ := hc.all
    exact ⟨a0, q0, a1, q1, rfl, R, [] :: [] :: Ss, ⟨⟨rfl, _, rfl, a0, q0, rfl, hc0, hr0⟩, ⟨rfl, _, rfl, a1, q1, rfl, hc1, hr1⟩, h3⟩, by simpa using hc.nodup, by simpa using hc.own, hc.fz⟩
theorem S_law05_Joined.cl {w : World} {l : List HP} {z0 : (List Int)} {z1 : (List Int)} {z2 : Int} {z3 : Int} {v0 v1 : Value} (h : Ctx w (Hold (pRo (pInt .i32)) [v0] z0 :: Hold (pRo (pInt .i32)) [v1] z1 :: l)) : Ctx w (Hold S_law05_Joined.pr [v0, v1, .int .i32 z2, .int .i64 z3] (⟨z0, z1, z2, z3⟩ : S_law05_Joined) :: l) := by
  obtain ⟨R, Ss, hc⟩ := h
  match Ss, hc with
  | S0 :: S1 :: Ss, hc =>
    obtain ⟨⟨rfl, _, e0, hr0⟩, ⟨rfl, _, e1, hr1⟩, h3⟩ := hc.all
    injection e0 with e0; subst e0
    injection e1 with e1; subst e1
    exact ⟨R, [] :: Ss, ⟨⟨rfl, ⟨_, _, rfl, ⟨_, rfl, hr0⟩, ⟨_, _, rfl, ⟨_, rfl, hr1⟩, ⟨_, _, rfl, rfl, rfl⟩⟩⟩⟩, h3⟩, by simpa using hc.nodup, by simpa using hc.own, hc.fz⟩
  | [], hc => exact hc.all.elim
  | [_], hc => exact hc.all.2.elim

-- FN slices.Clone[[]int8,int8]
def slices_Clone_s_int8_int8 (x0 : (List Int)) : Option ((List Int)) :=
  (app ([]) x0).bind fun z3 =>
  some z3

set_option maxHeartbeats 8000000 in
theorem slices_Clone_s_int8_int8_any {x0 : (List Int)} {ax0 : Option Addr} {nx0 : Nat} {qx0 : Nat} {P0 : HP} {Fr : List HP} {w : World} {r : (List Int)} {K : Value → World → Prop} (hrd0 : Reads P0 (pInt .i8) (.slice ax0 nx0 qx0) x0) (hc : Ctx w (P0 :: Fr)) (hp : slices_Clone_s_int8_int8 x0 = some r)
    (k : ∀ (a9 : Option Addr) (n10 : Nat) (q11 : Nat) w', Ctx w' (Own (pInt .i8) 38 (.slice a9 n10 q11) r :: P0 :: Fr) → K (.slice a9 n10 q11) w') : Calls Try.prog 35 #[.slice ax0 nx0 qx0] w (Ret K) := by
 unfold slices_Clone_s_int8_int8 at hp
 refine Center (args := [.slice ax0 nx0 qx0]) (l := [(0, .slice ax0 nx0 qx0)]) Try.func35 Try.ntmps35 rfl rfl rfl ?_
 obtain ⟨hn0, _⟩ := Ctx.rdLen hc (k := 0) rfl rfl hrd0; subst hn0
 rcases ax0 with _ | ax0
 · have hx := Ctx.nilRows hc (k := 0) rfl rfl hrd0; subst hx
   replace hp := bind_some hp; obtain ⟨z, hz, hp⟩ := hp
   injection hp with hp; subst hp; obtain ⟨_, hz⟩ := app_some hz; subst hz
   refine Wseq ?_
   refine Wreg ?_
   refine rs (v := .slice none 0 0) (av (v := .slice none 0 0) rfl) rfl ?_
   refine rn ?_
   refine qn ?_
   refine Wseq ?_
   refine Wseq ?_
   refine Wreg ?_
   refine rs (v := .slice none (([] : List Int).length) qx0) (mv (v := .slice none (([] : List Int).length) qx0) rfl) rfl ?_
   refine rs (v := .bool true) (esnT Try.underlying22 rfl rfl) rfl ?_
   refine rn ?_
   refine qn ?_
   refine Wct rfl ?_
   refine Wseq ?_
   refine Wreg ?_
   refine rs (v := .slice none 0 0) (av (v := .slice none 0 0) rfl) rfl ?_
   refine rn ?_
   refine qn ?_
   refine Wret ?_
   refine qr ?_
   replace hc := hc.nilOwn (pInt .i8) 38
   refine f1 (v := .slice none 0 0) Try.results35 Try.ntmps35 rfl ?_
   exact ⟨_, rfl, k _ _ _ _ hc⟩
 · refine Wseq ?_
   refine Wreg ?_
   refine rs (v := .slice none 0 0) (av (v := .slice none 0 0) rfl) rfl ?_
   refine rn ?_
   refine qn ?_
   refine Wseq ?_
   refine Wseq ?_
   refine Wreg ?_
   refine rs (v := .slice (some ax0) x0.length qx0) (mv (v := .slice (some ax0) x0.length qx0) rfl) rfl ?_
   refine rs (v := .bool false) (esnF Try.underlying22 rfl rfl) rfl ?_
   refine rn ?_
   refine qn ?_
   refine Wcf rfl ?_
   refine Wskip ?_
   refine qn ?_
   refine Wseq ?_
   refine Wreg ?_
   refine rsE (Ctx.builtOp (css := []) (xs := ([] : List Int)) (E := (pInt .i8)) hc Try.underlying22 Try.sizeOf38 Try.zeroValue38 rfl rfl rfl rfl rfl rfl rfl rfl) rfl ?_
   clear hc; rintro _ w2 ⟨a1, rfl, hc⟩
   refine rs (v := .slice (some ax0) x0.length qx0) (mv (v := .slice (some ax0) x0.length qx0) rfl) rfl ?_
   replace hp := bind_some hp; obtain ⟨z3, hz3, hp⟩ := hp
   obtain ⟨hg4, e5⟩ := app_some hz3
   refine rsE (Ctx.append hc (k := 0) rfl rfl (k2 := 1) rfl rfl hrd0 Try.underlying22 (i := Try.t38) rfl rfl rfl rfl rfl rfl rfl rfl hg4) rfl ?_
   clear hc; rintro _ w8 ⟨a6, q7, rfl, hc⟩
   rw [← e5] at hc ⊢
   refine rs (v := .slice a6 z3.length q7) (av (v := .slice a6 z3.length q7) rfl) rfl ?_
   refine rn ?_
   refine qn ?_
   refine Wret ?_
   injection hp with hp; subst hp
   refine f1 (v := .slice a6 z3.length q7) Try.results35 Try.ntmps35 rfl ?_
   exact ⟨_, rfl, k _ _ _ _ hc⟩

-- FN slices.Max[[]int32,int32]
def slices_Max_s_int32_int32.L1 (x0 : (List Int)) : Nat → Int → Int → Option (Int)
  | 0, _, _ => none
  | m1 + 1, j11, j12 =>
    if j12 < ((x0.length : Nat) : Int) then
      (idx x0 j12).bind fun y15 =>
      (slices_Max_s_int32_int32.L1 x0 m1) (max j11 y15) (IntKind.i64.wrap (j12 + 1))
    else
      some j11

def slices_Max_s_int32_int32 (N : Nat) (x0 : (List Int)) : Option (Int) :=
  if ((x0.length : Nat) : Int) < 1 then
    none
  else
    (idx x0 (0 : Int)).bind fun y2 =>
    slices_Max_s_int32_int32.L1 x0 N y2 1

set_option maxHeartbeats 8000000 in
theorem slices_Max_s_int32_int32_any {N : Nat} {x0 : (List Int)} {ax0 : Option Addr} {nx0 : Nat} {qx0 : Nat} {P0 : HP} {Fr : List HP} {w : World} {r : Int} {K : Value → World → Prop} (hrd0 : Reads P0 (pInt .i32) (.slice ax0 nx0 qx0) x0) (hc : Ctx w (P0 :: Fr)) (hp : slices_Max_s_int32_int32 N x0 = some r)
    (k : ∀ w', Ctx w' (P0 :: Fr) → K (.int .i32 r) w') : Calls Try.prog 30 #[.slice ax0 nx0 qx0] w (Ret K) := by
 unfold slices_Max_s_int32_int32 at hp
 refine Center (args := [.slice ax0 nx0 qx0]) (l := [(0, .slice ax0 nx0 qx0)]) Try.func30 Try.ntmps30 rfl rfl rfl ?_
 obtain ⟨hn0, _⟩ := Ctx.rdLen hc (k := 0) rfl rfl hrd0; subst hn0
 refine Wseq ?_
 refine Wreg ?_
 refine rs (v := .int .i32 0) (av (v := .int .i32 0) rfl) rfl ?_
 refine rn ?_
 refine qn ?_
 refine Wseq ?_
 refine Wseq ?_
 refine Wreg ?_
 refine rs (v := .slice ax0 x0.length qx0) (mv (v := .slice ax0 x0.length qx0) rfl) rfl ?_
 refine rs (v := .int .i64 ((x0.length : Nat) : Int)) (ln rfl Try.underlying23) rfl ?_
 refine rs (v := .bool (decide (((x0.length : Nat) : Int) < 1))) (lt' rfl rfl) rfl ?_
 refine rn ?_
 refine qn ?_
 cases hb1 : (decide (((x0.length : Nat) : Int) < 1))
 · replace hp := gneg hp (of_decide_eq_false hb1)
   refine Wcf rfl ?_
   refine Wskip ?_
   refine qn ?_
   refine Wseq ?_
   refine Wreg ?_
   refine rs (v := .slice ax0 x0.length qx0) (mv (v := .slice ax0 x0.length qx0) rfl) rfl ?_
   replace hp := bind_some hp; obtain ⟨y2, hy2, hp⟩ := hp
   obtain ⟨b5, o6, u7, hi3, hi4⟩ := Ctx.rdAt hc (k := 0) rfl rfl hrd0 hy2
   subst u7
   refine rs (v := .pointer (some ⟨b5, o6 + ((0 : Int)).toNat * 1, none⟩)) (ixx rfl rfl Try.underlying23 Try.sizeOf21 hi3 hi4 rfl) rfl ?_
   replace hc := Ctx.rdCell hc (k := 0) rfl rfl hrd0 hy2; obtain ⟨cs8, hc, hcell9⟩ := hc
   replace hc := Ctx.holdC hc; obtain ⟨u10, hc⟩ := hc; subst u10
   refine rs (v := .int .i32 y2) (ld rfl Try.isAgg21 (hcell9 0 _ rfl)) rfl ?_
   refine rs (v := .int .i32 y2) (av (v := .int .i32 y2) rfl) rfl ?_
   refine rn ?_
   refine qn ?_
   refine Wseq ?_
   refine Wseq ?_
   refine Wreg ?_
   refine rs (v := .int .i64 1) (av (v := .int .i64 1) rfl) rfl ?_
   refine rn ?_
   refine qn ?_
   refine Wblk ?_
   refine Wloop [3, 4, 12, 13, 14, 15, 16, 17, 18, 19, 20, 21, 22, 23] [3, 4] (fun m vs w' => ∃ j11 : Int, ∃ j12 : Int, vs = [.int .i32 j11, .int .i64 j12] ∧ slices_Max_s_int32_int32.L1 x0 m j11 j12 = some r ∧ Ctx w' (P0 :: Fr)) N ?_ ?_
   · exact ⟨y2, 1, rfl, hp, hc⟩
   · clear hp hc; intro m vs u w13 hJ
     obtain ⟨j11, j12, rfl, hp, hc⟩ := hJ
     rcases m with _ | m1
     · cases (show none = some r from hp)
     rw [slices_Max_s_int32_int32.L1] at hp
     refine Wseq ?_
     refine Wseq ?_
     refine Wreg ?_
     refine rs (v := .int .i64 j12) (mv (v := .int .i64 j12) rfl) rfl ?_
     refine rs (v := .slice (some ⟨b5, o6, none⟩) x0.length qx0) (mv (v := .slice (some ⟨b5, o6, none⟩) x0.length qx0) rfl) rfl ?_
     refine rs (v := .int .i64 ((x0.length : Nat) : Int)) (ln rfl Try.underlying23) rfl ?_
     refine rs (v := .bool (decide (j12 < ((x0.length : Nat) : Int)))) (lt' rfl rfl) rfl ?_
     refine rn ?_
     refine qn ?_
     cases hb14 : (decide (j12 < ((x0.length : Nat) : Int)))
     · replace hp := gneg hp (of_decide_eq_false hb14)
       refine Wcf rfl ?_
       refine Wexit ?_
       refine qx ?_
       refine qx ?_
       refine be ?_
       refine qn ?_
       refine Wseq ?_
       refine Wreg ?_
       refine rs (v := .int .i32 j11) (mv (v := .int .i32 j11) rfl) rfl ?_
       refine rs (v := .int .i32 j11) (av (v := .int .i32 j11) rfl) rfl ?_
       refine rn ?_
       refine qn ?_
       refine Wret ?_
       injection hp with hp; subst hp
       refine f1 (v := .int .i32 j11) Try.results30 Try.ntmps30 rfl ?_
       exact ⟨_, rfl, k _ hc⟩
     · replace hp := gpos hp (of_decide_eq_true hb14)
       refine Wct rfl ?_
       refine Wskip ?_
       refine qn ?_
       refine Wseq ?_
       refine Wblk ?_
       refine Wreg ?_
       refine rs (v := .int .i32 j11) (mv (v := .int .i32 j11) rfl) rfl ?_
       refine rs (v := .slice (some ⟨b5, o6, none⟩) x0.length qx0) (mv (v := .slice (some ⟨b5, o6, none⟩) x0.length qx0) rfl) rfl ?_
       refine rs (v := .int .i64 j12) (mv (v := .int .i64 j12) rfl) rfl ?_
       replace hp := bind_some hp; obtain ⟨y15, hy15, hp⟩ := hp
       obtain ⟨b18, o19, u20, hi16, hi17⟩ := Ctx.rdAt hc (k := 0) rfl rfl hrd0 hy15
       clear u20
       refine rs (v := .pointer (some ⟨b5, o6 + (j12).toNat * 1, none⟩)) (ixx rfl rfl Try.underlying23 Try.sizeOf21 hi16 hi17 rfl) rfl ?_
       replace hc := Ctx.rdCell hc (k := 0) rfl rfl hrd0 hy15; obtain ⟨cs21, hc, hcell22⟩ := hc
       replace hc := Ctx.holdC hc; obtain ⟨u23, hc⟩ := hc; subst u23
       refine rs (v := .int .i32 y15) (ld rfl Try.isAgg21 (hcell22 0 _ rfl)) rfl ?_
       refine rs (v := .int .i32 (max j11 y15)) (bmx rfl rfl Try.underlying21) rfl ?_
       refine rs (v := .int .i32 (max j11 y15)) (av (v := .int .i32 (max j11 y15)) rfl) rfl ?_
       refine rn ?_
       refine bn ?_
       refine qn ?_
       refine Wreg ?_
       refine rs (v := .int .i64 j12) (mv (v := .int .i64 j12) rfl) rfl ?_
       refine rs (v := .int .i64 (IntKind.i64.wrap (j12 + 1))) (adw rfl rfl) rfl ?_
       refine rs (v := .int .i64 (IntKind.i64.wrap (j12 + 1))) (av (v := .int .i64 (IntKind.i64.wrap (j12 + 1))) rfl) rfl ?_
       refine rn ?_
       refine qn ?_
       exact ⟨m1, Nat.lt_succ_self _, ⟨(max j11 y15), (IntKind.i64.wrap (j12 + 1)), rfl, hp, hc⟩, (kl rfl k0)⟩
 · replace hp := gpos hp (of_decide_eq_true hb1)
   refine Wct rfl ?_
   cases (show none = some r from hp)

-- FN peloton/round.near[int8]
def round_near_int8 (x0 : Int) (x1 : Int) (x2 : Int) : Option (Int) :=
  (some (IntKind.i8.wrap (min (max x0 x1) x2))).bind fun e1 =>
  some e1

set_option maxHeartbeats 8000000 in
theorem round_near_int8_any {x0 : Int} {x1 : Int} {x2 : Int} {Fr : List HP} {w : World} {r : Int} {K : Value → World → Prop}  (hc : Ctx w (Fr)) (hp : round_near_int8 x0 x1 x2 = some r)
    (k : ∀ w', Ctx w' (Fr) → K (.int .i8 r) w') : Calls Try.prog 41 #[.int .i64 x0, .int .i64 x1, .int .i64 x2] w (Ret K) := by
 unfold round_near_int8 at hp
 refine Center (args := [.int .i64 x0, .int .i64 x1, .int .i64 x2]) (l := [(0, .int .i64 x0), (1, .int .i64 x1), (2, .int .i64 x2)]) Try.func41 Try.ntmps41 rfl rfl rfl ?_
 refine Wseq ?_
 refine Wreg ?_
 refine rs (v := .int .i8 0) (av (v := .int .i8 0) rfl) rfl ?_
 refine rn ?_
 refine qn ?_
 refine Wseq ?_
 refine Wreg ?_
 refine rs (v := .int .i64 x0) (mv (v := .int .i64 x0) rfl) rfl ?_
 refine rs (v := .int .i64 x1) (mv (v := .int .i64 x1) rfl) rfl ?_
 refine rs (v := .int .i64 (max x0 x1)) (bmx rfl rfl Try.underlying2) rfl ?_
 refine rs (v := .int .i64 x2) (mv (v := .int .i64 x2) rfl) rfl ?_
 refine rs (v := .int .i64 (min (max x0 x1) x2)) (bmn rfl rfl Try.underlying2) rfl ?_
 refine rs (v := .int .i8 (IntKind.i8.wrap (min (max x0 x1) x2))) (cvi rfl Try.underlying2 Try.underlying38) rfl ?_
 replace hp := bind_some hp; obtain ⟨e1, he1, hp⟩ := hp
 injection he1 with he1
 refine rs (v := .int .i8 e1) (av (v := .int .i8 e1) (by rw [← he1]; rfl)) rfl ?_
 refine rn ?_
 refine qn ?_
 refine Wret ?_
 injection hp with hp; subst hp
 refine f1 (v := .int .i8 e1) Try.results41 Try.ntmps41 rfl ?_
 exact ⟨_, rfl, k _ hc⟩

-- FN peloton/round.near[int32]
def round_near_int32 (x0 : Int) (x1 : Int) (x2 : Int) : Option (Int) :=
  (some (IntKind.i32.wrap (min (max x0 x1) x2))).bind fun e1 =>
  some e1

set_option maxHeartbeats 8000000 in
theorem round_near_int32_any {x0 : Int} {x1 : Int} {x2 : Int} {Fr : List HP} {w : World} {r : Int} {K : Value → World → Prop}  (hc : Ctx w (Fr)) (hp : round_near_int32 x0 x1 x2 = some r)
    (k : ∀ w', Ctx w' (Fr) → K (.int .i32 r) w') : Calls Try.prog 50 #[.int .i64 x0, .int .i64 x1, .int .i64 x2] w (Ret K) := by
 unfold round_near_int32 at hp
 refine Center (args := [.int .i64 x0, .int .i64 x1, .int .i64 x2]) (l := [(0, .int .i64 x0), (1, .int .i64 x1), (2, .int .i64 x2)]) Try.func50 Try.ntmps50 rfl rfl rfl ?_
 refine Wseq ?_
 refine Wreg ?_
 refine rs (v := .int .i32 0) (av (v := .int .i32 0) rfl) rfl ?_
 refine rn ?_
 refine qn ?_
 refine Wseq ?_
 refine Wreg ?_
 refine rs (v := .int .i64 x0) (mv (v := .int .i64 x0) rfl) rfl ?_
 refine rs (v := .int .i64 x1) (mv (v := .int .i64 x1) rfl) rfl ?_
 refine rs (v := .int .i64 (max x0 x1)) (bmx rfl rfl Try.underlying2) rfl ?_
 refine rs (v := .int .i64 x2) (mv (v := .int .i64 x2) rfl) rfl ?_
 refine rs (v := .int .i64 (min (max x0 x1) x2)) (bmn rfl rfl Try.underlying2) rfl ?_
 refine rs (v := .int .i32 (IntKind.i32.wrap (min (max x0 x1) x2))) (cvi rfl Try.underlying2 Try.underlying21) rfl ?_
 replace hp := bind_some hp; obtain ⟨e1, he1, hp⟩ := hp
 injection he1 with he1
 refine rs (v := .int .i32 e1) (av (v := .int .i32 e1) (by rw [← he1]; rfl)) rfl ?_
 refine rn ?_
 refine qn ?_
 refine Wret ?_
 injection hp with hp; subst hp
 refine f1 (v := .int .i32 e1) Try.results50 Try.ntmps50 rfl ?_
 exact ⟨_, rfl, k _ hc⟩

-- FN peloton/round.Sat8
def round_Sat8 (x0 : Int) : Option (Int) :=
  (round_near_int8 x0 (-128) 127).bind fun r1 =>
  some r1

set_option maxHeartbeats 8000000 in
theorem round_Sat8_any {x0 : Int} {Fr : List HP} {w : World} {r : Int} {K : Value → World → Prop}  (hc : Ctx w (Fr)) (hp : round_Sat8 x0 = some r)
    (k : ∀ w', Ctx w' (Fr) → K (.int .i8 r) w') : Calls Try.prog 24 #[.int .i64 x0] w (Ret K) := by
 unfold round_Sat8 at hp
 refine Center (args := [.int .i64 x0]) (l := [(0, .int .i64 x0)]) Try.func24 Try.ntmps24 rfl rfl rfl ?_
 refine Wseq ?_
 refine Wreg ?_
 refine rs (v := .int .i8 0) (av (v := .int .i8 0) rfl) rfl ?_
 refine rn ?_
 refine qn ?_
 refine Wseq ?_
 refine Wreg ?_
 refine rs (v := .int .i64 x0) (mv (v := .int .i64 x0) rfl) rfl ?_
 replace hp := bind_some hp; obtain ⟨r1, hr1, hp⟩ := hp
 refine rc (cl Try.call41 rfl rfl) rfl ?_
 refine round_near_int8_any hc hr1 ?_
 clear hc; intro w2 hc
 refine rs (v := .int .i8 r1) (av (v := .int .i8 r1) rfl) rfl ?_
 refine rn ?_
 refine qn ?_
 refine Wret ?_
 injection hp with hp; subst hp
 refine f1 (v := .int .i8 r1) Try.results24 Try.ntmps24 rfl ?_
 exact ⟨_, rfl, k _ hc⟩

-- FN peloton/round.Sat32
def round_Sat32 (x0 : Int) : Option (Int) :=
  (round_near_int32 x0 (-2147483648) 2147483647).bind fun r1 =>
  some r1

set_option maxHeartbeats 8000000 in
theorem round_Sat32_any {x0 : Int} {Fr : List HP} {w : World} {r : Int} {K : Value → World → Prop}  (hc : Ctx w (Fr)) (hp : round_Sat32 x0 = some r)
    (k : ∀ w', Ctx w' (Fr) → K (.int .i32 r) w') : Calls Try.prog 45 #[.int .i64 x0] w (Ret K) := by
 unfold round_Sat32 at hp
 refine Center (args := [.int .i64 x0]) (l := [(0, .int .i64 x0)]) Try.func45 Try.ntmps45 rfl rfl rfl ?_
 refine Wseq ?_
 refine Wreg ?_
 refine rs (v := .int .i32 0) (av (v := .int .i32 0) rfl) rfl ?_
 refine rn ?_
 refine qn ?_
 refine Wseq ?_
 refine Wreg ?_
 refine rs (v := .int .i64 x0) (mv (v := .int .i64 x0) rfl) rfl ?_
 replace hp := bind_some hp; obtain ⟨r1, hr1, hp⟩ := hp
 refine rc (cl Try.call50 rfl rfl) rfl ?_
 refine round_near_int32_any hc hr1 ?_
 clear hc; intro w2 hc
 refine rs (v := .int .i32 r1) (av (v := .int .i32 r1) rfl) rfl ?_
 refine rn ?_
 refine qn ?_
 refine Wret ?_
 injection hp with hp; subst hp
 refine f1 (v := .int .i32 r1) Try.results45 Try.ntmps45 rfl ?_
 exact ⟨_, rfl, k _ hc⟩

-- FN peloton/round.Shift
def round_Shift.J1 (e2 : Int) (j7 : Bool) : Option (Int) :=
  if j7 = true then
    some (IntKind.i64.wrap (e2 + 1))
  else
    some e2

def round_Shift (x0 : Int) (x1 : Int) : Option (Int) :=
  chk (0 ≤ (min (max x1 0) 62)) <|
  (some (ishr .i64 x0 (min (max x1 0) 62))).bind fun e2 =>
  chk (0 ≤ (min (max x1 0) 62)) <|
  (some (iand .u64 (IntKind.u64.wrap x0) (IntKind.u64.wrap ((ishl .u64 1 (min (max x1 0) 62)) - 1)))).bind fun e4 =>
  chk (0 ≤ (min (max x1 0) 62)) <|
  (some (ishr .u64 (ishl .u64 1 (min (max x1 0) 62)) 1)).bind fun e6 =>
  if e4 > e6 then
    round_Shift.J1 e2 true
  else
    if e4 = e6 then
      if (min (max x1 0) 62) > 0 then
        round_Shift.J1 e2 (decide ((iand .i64 e2 1) = 1))
      else
        round_Shift.J1 e2 false
    else
      round_Shift.J1 e2 false

set_option maxHeartbeats 8000000 in
theorem round_Shift_any {x0 : Int} {x1 : Int} {Fr : List HP} {w : World} {r : Int} {K : Value → World → Prop}  (hc : Ctx w (Fr)) (hp : round_Shift x0 x1 = some r)
    (k : ∀ w', Ctx w' (Fr) → K (.int .i64 r) w') : Calls Try.prog 25 #[.int .i64 x0, .int .i64 x1] w (Ret K) := by
 unfold round_Shift at hp
 refine Center (args := [.int .i64 x0, .int .i64 x1]) (l := [(0, .int .i64 x0), (1, .int .i64 x1)]) Try.func25 Try.ntmps25 rfl rfl rfl ?_
 refine Wseq ?_
 refine Wreg ?_
 refine rs (v := .int .i64 0) (av (v := .int .i64 0) rfl) rfl ?_
 refine rn ?_
 refine qn ?_
 refine Wseq ?_
 refine Wreg ?_
 refine rs (v := .int .i64 x1) (mv (v := .int .i64 x1) rfl) rfl ?_
 refine rs (v := .int .i64 (max x1 0)) (bmx rfl rfl Try.underlying3) rfl ?_
 refine rs (v := .int .i64 (min (max x1 0) 62)) (bmn rfl rfl Try.underlying3) rfl ?_
 refine rs (v := .int .i64 (min (max x1 0) 62)) (av (v := .int .i64 (min (max x1 0) 62)) rfl) rfl ?_
 refine rn ?_
 refine qn ?_
 refine Wseq ?_
 refine Wreg ?_
 refine rs (v := .int .i64 x0) (mv (v := .int .i64 x0) rfl) rfl ?_
 refine rs (v := .int .i64 (min (max x1 0) 62)) (mv (v := .int .i64 (min (max x1 0) 62)) rfl) rfl ?_
 replace hp := chk_some hp; obtain ⟨hg1, hp⟩ := hp
 refine rs (v := .int .i64 (ishr .i64 x0 (min (max x1 0) 62))) (shr_ rfl rfl hg1) rfl ?_
 replace hp := bind_some hp; obtain ⟨e2, he2, hp⟩ := hp
 injection he2 with he2
 refine rs (v := .int .i64 e2) (av (v := .int .i64 e2) (by rw [← he2]; rfl)) rfl ?_
 refine rn ?_
 refine qn ?_
 refine Wseq ?_
 refine Wreg ?_
 refine rs (v := .int .i64 x0) (mv (v := .int .i64 x0) rfl) rfl ?_
 refine rs (v := .int .u64 (IntKind.u64.wrap x0)) (cvi rfl Try.underlying2 Try.underlying52) rfl ?_
 refine rs (v := .int .i64 (min (max x1 0) 62)) (mv (v := .int .i64 (min (max x1 0) 62)) rfl) rfl ?_
 replace hp := chk_some hp; obtain ⟨hg3, hp⟩ := hp
 refine rs (v := .int .u64 (ishl .u64 1 (min (max x1 0) 62))) (shl_ rfl rfl hg3) rfl ?_
 refine rs (v := .int .u64 (IntKind.u64.wrap ((ishl .u64 1 (min (max x1 0) 62)) - 1))) (sbw rfl rfl) rfl ?_
 refine rs (v := .int .u64 (iand .u64 (IntKind.u64.wrap x0) (IntKind.u64.wrap ((ishl .u64 1 (min (max x1 0) 62)) - 1)))) (and_ rfl rfl) rfl ?_
 replace hp := bind_some hp; obtain ⟨e4, he4, hp⟩ := hp
 injection he4 with he4
 refine rs (v := .int .u64 e4) (av (v := .int .u64 e4) (by rw [← he4]; rfl)) rfl ?_
 refine rn ?_
 refine qn ?_
 refine Wseq ?_
 refine Wreg ?_
 refine rs (v := .int .i64 (min (max x1 0) 62)) (mv (v := .int .i64 (min (max x1 0) 62)) rfl) rfl ?_
 replace hp := chk_some hp; obtain ⟨hg5, hp⟩ := hp
 refine rs (v := .int .u64 (ishl .u64 1 (min (max x1 0) 62))) (shl_ rfl rfl hg5) rfl ?_
 refine rs (v := .int .u64 (ishr .u64 (ishl .u64 1 (min (max x1 0) 62)) 1)) (shr_ rfl rfl (by decide)) rfl ?_
 replace hp := bind_some hp; obtain ⟨e6, he6, hp⟩ := hp
 injection he6 with he6
 refine rs (v := .int .u64 e6) (av (v := .int .u64 e6) (by rw [← he6]; rfl)) rfl ?_
 refine rn ?_
 refine qn ?_
 refine Wseq ?_
 refine Wseqm [23, 24, 25, 26, 27, 28, 29, 30, 31, 32, 33, 34, 35, 36, 37, 38, 39] [39] (fun vs w' => ∃ j7 : Bool, vs = [.bool j7] ∧ round_Shift.J1 e2 j7 = some r ∧ Ctx w' (Fr)) ?_ ?_
 · refine Wreg ?_
   refine rs (v := .int .u64 e4) (mv (v := .int .u64 e4) rfl) rfl ?_
   refine rs (v := .int .u64 e6) (mv (v := .int .u64 e6) rfl) rfl ?_
   refine rs (v := .bool (decide (e4 > e6))) (gt' rfl rfl) rfl ?_
   refine rs (v := .bool (decide (e4 > e6))) (mv (v := .bool (decide (e4 > e6))) rfl) rfl ?_
   cases hb8 : (decide (e4 > e6))
   · replace hp := gneg hp (of_decide_eq_false hb8)
     refine rs (v := .int .u64 e4) (mv (v := .int .u64 e4) rfl) rfl ?_
     refine rs (v := .int .u64 e6) (mv (v := .int .u64 e6) rfl) rfl ?_
     refine rs (v := .bool (decide (e4 = e6))) (eqd rfl rfl) rfl ?_
     refine rs (v := .bool (decide (e4 = e6))) (mv (v := .bool (decide (e4 = e6))) rfl) rfl ?_
     cases hb9 : (decide (e4 = e6))
     · replace hp := gneg hp (of_decide_eq_false hb9)
       refine r0 rfl ?_
       refine r0 rfl ?_
       refine rs (v := .bool false) (pkf (v := .bool false) rfl rfl) rfl ?_
       refine rs (v := .bool false) (mv (v := .bool false) rfl) rfl ?_
       refine r0 rfl ?_
       refine r0 rfl ?_
       refine r0 rfl ?_
       refine rs (v := .bool false) (pkf (v := .bool false) rfl rfl) rfl ?_
       refine rs (v := .bool false) (pkf (v := .bool false) rfl rfl) rfl ?_
       refine rn ?_
       refine qn ?_
       exact ⟨⟨false, rfl, hp, hc⟩, (kl rfl kb)⟩
     · replace hp := gpos hp (of_decide_eq_true hb9)
       refine rs (v := .int .i64 (min (max x1 0) 62)) (mv (v := .int .i64 (min (max x1 0) 62)) rfl) rfl ?_
       refine rs (v := .bool (decide ((min (max x1 0) 62) > 0))) (gt' rfl rfl) rfl ?_
       refine rs (v := .bool (decide ((min (max x1 0) 62) > 0))) (pkt (v := .bool (decide ((min (max x1 0) 62) > 0))) rfl rfl) rfl ?_
       refine rs (v := .bool (decide ((min (max x1 0) 62) > 0))) (mv (v := .bool (decide ((min (max x1 0) 62) > 0))) rfl) rfl ?_
       cases hb10 : (decide ((min (max x1 0) 62) > 0))
       · replace hp := gneg hp (of_decide_eq_false hb10)
         refine r0 rfl ?_
         refine r0 rfl ?_
         refine r0 rfl ?_
         refine rs (v := .bool false) (pkf (v := .bool false) rfl rfl) rfl ?_
         refine rs (v := .bool false) (pkf (v := .bool false) rfl rfl) rfl ?_
         refine rn ?_
         refine qn ?_
         exact ⟨⟨false, rfl, hp, hc⟩, (kl rfl kb)⟩
       · replace hp := gpos hp (of_decide_eq_true hb10)
         refine rs (v := .int .i64 e2) (mv (v := .int .i64 e2) rfl) rfl ?_
         refine rs (v := .int .i64 (iand .i64 e2 1)) (and_ rfl rfl) rfl ?_
         refine rs (v := .bool (decide ((iand .i64 e2 1) = 1))) (eqd rfl rfl) rfl ?_
         refine rs (v := .bool (decide ((iand .i64 e2 1) = 1))) (pkt (v := .bool (decide ((iand .i64 e2 1) = 1))) rfl rfl) rfl ?_
         refine rs (v := .bool (decide ((iand .i64 e2 1) = 1))) (pkf (v := .bool (decide ((iand .i64 e2 1) = 1))) rfl rfl) rfl ?_
         refine rn ?_
         refine qn ?_
         exact ⟨⟨decide ((iand .i64 e2 1) = 1), rfl, hp, hc⟩, (kl rfl kb)⟩
   · replace hp := gpos hp (of_decide_eq_true hb8)
     refine r0 rfl ?_
     refine r0 rfl ?_
     refine r0 rfl ?_
     refine r0 rfl ?_
     refine r0 rfl ?_
     refine r0 rfl ?_
     refine r0 rfl ?_
     refine r0 rfl ?_
     refine r0 rfl ?_
     refine r0 rfl ?_
     refine r0 rfl ?_
     refine r0 rfl ?_
     refine rs (v := .bool true) (pkt (v := .bool true) rfl rfl) rfl ?_
     refine rn ?_
     refine qn ?_
     exact ⟨⟨true, rfl, hp, hc⟩, (kl rfl kb)⟩
 · clear hp hc; intro vs u w11 hJ
   obtain ⟨j7, rfl, hp, hc⟩ := hJ
   unfold round_Shift.J1 at hp
   cases hb12 : j7
   · replace hp := gneg hp (by rw [hb12]; exact Bool.false_ne_true)
     subst hb12
     refine Wcf rfl ?_
     refine Wskip ?_
     refine qn ?_
     refine Wseq ?_
     refine Wreg ?_
     refine rs (v := .int .i64 e2) (mv (v := .int .i64 e2) rfl) rfl ?_
     refine rs (v := .int .i64 e2) (av (v := .int .i64 e2) rfl) rfl ?_
     refine rn ?_
     refine qn ?_
     refine Wret ?_
     injection hp with hp; subst hp
     refine f1 (v := .int .i64 e2) Try.results25 Try.ntmps25 rfl ?_
     exact ⟨_, rfl, k _ hc⟩
   · replace hp := gpos hp hb12
     subst hb12
     refine Wct rfl ?_
     refine Wreg ?_
     refine rs (v := .int .i64 e2) (mv (v := .int .i64 e2) rfl) rfl ?_
     refine rs (v := .int .i64 (IntKind.i64.wrap (e2 + 1))) (adw rfl rfl) rfl ?_
     refine rs (v := .int .i64 (IntKind.i64.wrap (e2 + 1))) (av (v := .int .i64 (IntKind.i64.wrap (e2 + 1))) rfl) rfl ?_
     refine rn ?_
     refine qn ?_
     refine Wseq ?_
     refine Wreg ?_
     refine rs (v := .int .i64 (IntKind.i64.wrap (e2 + 1))) (mv (v := .int .i64 (IntKind.i64.wrap (e2 + 1))) rfl) rfl ?_
     refine rs (v := .int .i64 (IntKind.i64.wrap (e2 + 1))) (av (v := .int .i64 (IntKind.i64.wrap (e2 + 1))) rfl) rfl ?_
     refine rn ?_
     refine qn ?_
     refine Wret ?_
     injection hp with hp; subst hp
     refine f1 (v := .int .i64 (IntKind.i64.wrap (e2 + 1))) Try.results25 Try.ntmps25 rfl ?_
     exact ⟨_, rfl, k _ hc⟩

-- FN peloton/round.Scale
def round_Scale (x0 : Int) (x1 : Int) (x2 : Int) : Option (Int) :=
  (round_Shift (IntKind.i64.wrap ((IntKind.i64.wrap x0) * (IntKind.i64.wrap x1))) x2).bind fun r1 =>
  (round_Sat32 r1).bind fun r3 =>
  some r3

set_option maxHeartbeats 8000000 in
theorem round_Scale_any {x0 : Int} {x1 : Int} {x2 : Int} {Fr : List HP} {w : World} {r : Int} {K : Value → World → Prop}  (hc : Ctx w (Fr)) (hp : round_Scale x0 x1 x2 = some r)
    (k : ∀ w', Ctx w' (Fr) → K (.int .i32 r) w') : Calls Try.prog 37 #[.int .i32 x0, .int .i32 x1, .int .i64 x2] w (Ret K) := by
 unfold round_Scale at hp
 refine Center (args := [.int .i32 x0, .int .i32 x1, .int .i64 x2]) (l := [(0, .int .i32 x0), (1, .int .i32 x1), (2, .int .i64 x2)]) Try.func37 Try.ntmps37 rfl rfl rfl ?_
 refine Wseq ?_
 refine Wreg ?_
 refine rs (v := .int .i32 0) (av (v := .int .i32 0) rfl) rfl ?_
 refine rn ?_
 refine qn ?_
 refine Wseq ?_
 refine Wreg ?_
 refine rs (v := .int .i32 x0) (mv (v := .int .i32 x0) rfl) rfl ?_
 refine rs (v := .int .i64 (IntKind.i64.wrap x0)) (cvi rfl Try.underlying21 Try.underlying2) rfl ?_
 refine rs (v := .int .i32 x1) (mv (v := .int .i32 x1) rfl) rfl ?_
 refine rs (v := .int .i64 (IntKind.i64.wrap x1)) (cvi rfl Try.underlying21 Try.underlying2) rfl ?_
 refine rs (v := .int .i64 (IntKind.i64.wrap ((IntKind.i64.wrap x0) * (IntKind.i64.wrap x1)))) (mlw rfl rfl) rfl ?_
 refine rs (v := .int .i64 x2) (mv (v := .int .i64 x2) rfl) rfl ?_
 replace hp := bind_some hp; obtain ⟨r1, hr1, hp⟩ := hp
 refine rc (cl Try.call25 rfl rfl) rfl ?_
 refine round_Shift_any hc hr1 ?_
 clear hc; intro w2 hc
 replace hp := bind_some hp; obtain ⟨r3, hr3, hp⟩ := hp
 refine rc (cl Try.call45 rfl rfl) rfl ?_
 refine round_Sat32_any hc hr3 ?_
 clear hc; intro w4 hc
 refine rs (v := .int .i32 r3) (av (v := .int .i32 r3) rfl) rfl ?_
 refine rn ?_
 refine qn ?_
 refine Wret ?_
 injection hp with hp; subst hp
 refine f1 (v := .int .i32 r3) Try.results37 Try.ntmps37 rfl ?_
 exact ⟨_, rfl, k _ hc⟩

-- FN peloton/round.Sum
def round_Sum.L1 (x0 : (List Int)) : Nat → Int → Int → Option (Int)
  | 0, _, _ => none
  | m1 + 1, j1, j2 =>
    if j2 < ((x0.length : Nat) : Int) then
      (idx x0 j2).bind fun y5 =>
      (some (IntKind.u32.wrap (j1 + (IntKind.u32.wrap y5)))).bind fun e14 =>
      (round_Sum.L1 x0 m1) e14 (IntKind.i64.wrap (j2 + 1))
    else
      some (IntKind.i32.wrap j1)

def round_Sum (N : Nat) (x0 : (List Int)) : Option (Int) :=
  round_Sum.L1 x0 N 0 0

set_option maxHeartbeats 8000000 in
theorem round_Sum_any {N : Nat} {x0 : (List Int)} {ax0 : Option Addr} {nx0 : Nat} {qx0 : Nat} {P0 : HP} {Fr : List HP} {w : World} {r : Int} {K : Value → World → Prop} (hrd0 : Reads P0 (pInt .i32) (.slice ax0 nx0 qx0) x0) (hc : Ctx w (P0 :: Fr)) (hp : round_Sum N x0 = some r)
    (k : ∀ w', Ctx w' (P0 :: Fr) → K (.int .i32 r) w') : Calls Try.prog 36 #[.slice ax0 nx0 qx0] w (Ret K) := by
 unfold round_Sum at hp
 refine Center (args := [.slice ax0 nx0 qx0]) (l := [(0, .slice ax0 nx0 qx0)]) Try.func36 Try.ntmps36 rfl rfl rfl ?_
 obtain ⟨hn0, _⟩ := Ctx.rdLen hc (k := 0) rfl rfl hrd0; subst hn0
 refine Wseq ?_
 refine Wreg ?_
 refine rs (v := .int .i32 0) (av (v := .int .i32 0) rfl) rfl ?_
 refine rn ?_
 refine qn ?_
 refine Wseq ?_
 refine Wreg ?_
 refine rs (v := .int .u32 0) (av (v := .int .u32 0) rfl) rfl ?_
 refine rn ?_
 refine qn ?_
 refine Wseq ?_
 refine Wseq ?_
 refine Wreg ?_
 refine rs (v := .slice ax0 x0.length qx0) (mv (v := .slice ax0 x0.length qx0) rfl) rfl ?_
 refine rs (v := .int .i64 ((x0.length : Nat) : Int)) (ln rfl Try.underlying23) rfl ?_
 refine rs (v := .int .i64 0) (mv (v := .int .i64 0) rfl) rfl ?_
 refine rn ?_
 refine qn ?_
 refine Wblk ?_
 refine Wloop [3, 5, 8, 9, 10, 11, 12, 13, 14, 15, 16] [3, 8] (fun m vs w' => ∃ j1 : Int, ∃ j2 : Int, vs = [.int .u32 j1, .int .i64 j2] ∧ round_Sum.L1 x0 m j1 j2 = some r ∧ Ctx w' (P0 :: Fr)) N ?_ ?_
 · exact ⟨0, 0, rfl, hp, hc⟩
 · clear hp hc; intro m vs u w3 hJ
   obtain ⟨j1, j2, rfl, hp, hc⟩ := hJ
   rcases m with _ | m1
   · cases (show none = some r from hp)
   rw [round_Sum.L1] at hp
   refine Wseq ?_
   refine Wreg ?_
   refine rs (v := .bool (decide (j2 < ((x0.length : Nat) : Int)))) (lt' rfl rfl) rfl ?_
   refine rn ?_
   refine qn ?_
   refine Wseq ?_
   cases hb4 : (decide (j2 < ((x0.length : Nat) : Int)))
   · replace hp := gneg hp (of_decide_eq_false hb4)
     refine Wcf rfl ?_
     refine Wexit ?_
     refine qx ?_
     refine qx ?_
     refine be ?_
     refine qn ?_
     refine Wseq ?_
     refine Wreg ?_
     refine rs (v := .int .u32 j1) (mv (v := .int .u32 j1) rfl) rfl ?_
     refine rs (v := .int .i32 (IntKind.i32.wrap j1)) (cvi rfl Try.underlying74 Try.underlying21) rfl ?_
     refine rs (v := .int .i32 (IntKind.i32.wrap j1)) (av (v := .int .i32 (IntKind.i32.wrap j1)) rfl) rfl ?_
     refine rn ?_
     refine qn ?_
     refine Wret ?_
     injection hp with hp; subst hp
     refine f1 (v := .int .i32 (IntKind.i32.wrap j1)) Try.results36 Try.ntmps36 rfl ?_
     exact ⟨_, rfl, k _ hc⟩
   · replace hp := gpos hp (of_decide_eq_true hb4)
     refine Wct rfl ?_
     refine Wskip ?_
     refine qn ?_
     refine Wseq ?_
     refine Wblk ?_
     refine Wseq ?_
     refine Wreg ?_
     replace hp := bind_some hp; obtain ⟨y5, hy5, hp⟩ := hp
     obtain ⟨b8, o9, u10, hi6, hi7⟩ := Ctx.rdAt hc (k := 0) rfl rfl hrd0 hy5
     subst u10
     refine rs (v := .pointer (some ⟨b8, o9 + (j2).toNat * 1, none⟩)) (ixx rfl rfl Try.underlying23 Try.sizeOf21 hi6 hi7 rfl) rfl ?_
     replace hc := Ctx.rdCell hc (k := 0) rfl rfl hrd0 hy5; obtain ⟨cs11, hc, hcell12⟩ := hc
     replace hc := Ctx.holdC hc; obtain ⟨u13, hc⟩ := hc; subst u13
     refine rs (v := .int .i32 y5) (ld rfl Try.isAgg21 (hcell12 0 _ rfl)) rfl ?_
     refine rs (v := .int .i32 y5) (av (v := .int .i32 y5) rfl) rfl ?_
     refine rn ?_
     refine qn ?_
     refine Wreg ?_
     refine rs (v := .int .u32 j1) (mv (v := .int .u32 j1) rfl) rfl ?_
     refine rs (v := .int .i32 y5) (mv (v := .int .i32 y5) rfl) rfl ?_
     refine rs (v := .int .u32 (IntKind.u32.wrap y5)) (cvi rfl Try.underlying21 Try.underlying74) rfl ?_
     refine rs (v := .int .u32 (IntKind.u32.wrap (j1 + (IntKind.u32.wrap y5)))) (adw rfl rfl) rfl ?_
     replace hp := bind_some hp; obtain ⟨e14, he14, hp⟩ := hp
     injection he14 with he14
     refine rs (v := .int .u32 e14) (av (v := .int .u32 e14) (by rw [← he14]; rfl)) rfl ?_
     refine rn ?_
     refine bn ?_
     refine qn ?_
     refine Wreg ?_
     refine rs (v := .int .i64 (IntKind.i64.wrap (j2 + 1))) (adw rfl rfl) rfl ?_
     refine rs (v := .int .i64 (IntKind.i64.wrap (j2 + 1))) (mv (v := .int .i64 (IntKind.i64.wrap (j2 + 1))) rfl) rfl ?_
     refine rn ?_
     refine qn ?_
     exact ⟨m1, Nat.lt_succ_self _, ⟨e14, (IntKind.i64.wrap (j2 + 1)), rfl, hp, hc⟩, (kl rfl k0)⟩

-- FN math/bits.Mul64
def bits_Mul64 (x0 : Int) (x1 : Int) : Option (Int × Int) :=
  (some (IntKind.u64.wrap ((iand .u64 x0 4294967295) * (iand .u64 x1 4294967295)))).bind fun e1 =>
  (some (IntKind.u64.wrap ((IntKind.u64.wrap ((ishr .u64 x0 32) * (iand .u64 x1 4294967295))) + (ishr .u64 e1 32)))).bind fun e2 =>
  (some (IntKind.u64.wrap ((iand .u64 e2 4294967295) + (IntKind.u64.wrap ((iand .u64 x0 4294967295) * (ishr .u64 x1 32)))))).bind fun e3 =>
  (some (IntKind.u64.wrap ((IntKind.u64.wrap ((IntKind.u64.wrap ((ishr .u64 x0 32) * (ishr .u64 x1 32))) + (ishr .u64 e2 32))) + (ishr .u64 e3 32)))).bind fun e4 =>
  some (e4, (IntKind.u64.wrap (x0 * x1)))

set_option maxHeartbeats 8000000 in
theorem bits_Mul64_any {x0 : Int} {x1 : Int} {Fr : List HP} {w : World} {r : Int × Int} {K : Value → World → Prop}  (hc : Ctx w (Fr)) (hp : bits_Mul64 x0 x1 = some r)
    (k : ∀ w', Ctx w' (Fr) → K (.tuple #[.int .u64 r.1, .int .u64 r.2]) w') : Calls Try.prog 48 #[.int .u64 x0, .int .u64 x1] w (Ret K) := by
 unfold bits_Mul64 at hp
 refine Center (args := [.int .u64 x0, .int .u64 x1]) (l := [(0, .int .u64 x0), (1, .int .u64 x1)]) Try.func48 Try.ntmps48 rfl rfl rfl ?_
 refine Wseq ?_
 refine Wreg ?_
 refine rs (v := .int .u64 0) (av (v := .int .u64 0) rfl) rfl ?_
 refine rs (v := .int .u64 0) (av (v := .int .u64 0) rfl) rfl ?_
 refine rn ?_
 refine qn ?_
 refine Wseq ?_
 refine Wreg ?_
 refine rs (v := .int .u64 x0) (mv (v := .int .u64 x0) rfl) rfl ?_
 refine rs (v := .int .u64 (iand .u64 x0 4294967295)) (and_ rfl rfl) rfl ?_
 refine rs (v := .int .u64 (iand .u64 x0 4294967295)) (av (v := .int .u64 (iand .u64 x0 4294967295)) rfl) rfl ?_
 refine rn ?_
 refine qn ?_
 refine Wseq ?_
 refine Wreg ?_
 refine rs (v := .int .u64 x0) (mv (v := .int .u64 x0) rfl) rfl ?_
 refine rs (v := .int .u64 (ishr .u64 x0 32)) (shr_ rfl rfl (by decide)) rfl ?_
 refine rs (v := .int .u64 (ishr .u64 x0 32)) (av (v := .int .u64 (ishr .u64 x0 32)) rfl) rfl ?_
 refine rn ?_
 refine qn ?_
 refine Wseq ?_
 refine Wreg ?_
 refine rs (v := .int .u64 x1) (mv (v := .int .u64 x1) rfl) rfl ?_
 refine rs (v := .int .u64 (iand .u64 x1 4294967295)) (and_ rfl rfl) rfl ?_
 refine rs (v := .int .u64 (iand .u64 x1 4294967295)) (av (v := .int .u64 (iand .u64 x1 4294967295)) rfl) rfl ?_
 refine rn ?_
 refine qn ?_
 refine Wseq ?_
 refine Wreg ?_
 refine rs (v := .int .u64 x1) (mv (v := .int .u64 x1) rfl) rfl ?_
 refine rs (v := .int .u64 (ishr .u64 x1 32)) (shr_ rfl rfl (by decide)) rfl ?_
 refine rs (v := .int .u64 (ishr .u64 x1 32)) (av (v := .int .u64 (ishr .u64 x1 32)) rfl) rfl ?_
 refine rn ?_
 refine qn ?_
 refine Wseq ?_
 refine Wreg ?_
 refine rs (v := .int .u64 (iand .u64 x0 4294967295)) (mv (v := .int .u64 (iand .u64 x0 4294967295)) rfl) rfl ?_
 refine rs (v := .int .u64 (iand .u64 x1 4294967295)) (mv (v := .int .u64 (iand .u64 x1 4294967295)) rfl) rfl ?_
 refine rs (v := .int .u64 (IntKind.u64.wrap ((iand .u64 x0 4294967295) * (iand .u64 x1 4294967295)))) (mlw rfl rfl) rfl ?_
 replace hp := bind_some hp; obtain ⟨e1, he1, hp⟩ := hp
 injection he1 with he1
 refine rs (v := .int .u64 e1) (av (v := .int .u64 e1) (by rw [← he1]; rfl)) rfl ?_
 refine rn ?_
 refine qn ?_
 refine Wseq ?_
 refine Wreg ?_
 refine rs (v := .int .u64 (ishr .u64 x0 32)) (mv (v := .int .u64 (ishr .u64 x0 32)) rfl) rfl ?_
 refine rs (v := .int .u64 (iand .u64 x1 4294967295)) (mv (v := .int .u64 (iand .u64 x1 4294967295)) rfl) rfl ?_
 refine rs (v := .int .u64 (IntKind.u64.wrap ((ishr .u64 x0 32) * (iand .u64 x1 4294967295)))) (mlw rfl rfl) rfl ?_
 refine rs (v := .int .u64 e1) (mv (v := .int .u64 e1) rfl) rfl ?_
 refine rs (v := .int .u64 (ishr .u64 e1 32)) (shr_ rfl rfl (by decide)) rfl ?_
 refine rs (v := .int .u64 (IntKind.u64.wrap ((IntKind.u64.wrap ((ishr .u64 x0 32) * (iand .u64 x1 4294967295))) + (ishr .u64 e1 32)))) (adw rfl rfl) rfl ?_
 replace hp := bind_some hp; obtain ⟨e2, he2, hp⟩ := hp
 injection he2 with he2
 refine rs (v := .int .u64 e2) (av (v := .int .u64 e2) (by rw [← he2]; rfl)) rfl ?_
 refine rn ?_
 refine qn ?_
 refine Wseq ?_
 refine Wreg ?_
 refine rs (v := .int .u64 e2) (mv (v := .int .u64 e2) rfl) rfl ?_
 refine rs (v := .int .u64 (iand .u64 e2 4294967295)) (and_ rfl rfl) rfl ?_
 refine rs (v := .int .u64 (iand .u64 e2 4294967295)) (av (v := .int .u64 (iand .u64 e2 4294967295)) rfl) rfl ?_
 refine rn ?_
 refine qn ?_
 refine Wseq ?_
 refine Wreg ?_
 refine rs (v := .int .u64 e2) (mv (v := .int .u64 e2) rfl) rfl ?_
 refine rs (v := .int .u64 (ishr .u64 e2 32)) (shr_ rfl rfl (by decide)) rfl ?_
 refine rs (v := .int .u64 (ishr .u64 e2 32)) (av (v := .int .u64 (ishr .u64 e2 32)) rfl) rfl ?_
 refine rn ?_
 refine qn ?_
 refine Wseq ?_
 refine Wreg ?_
 refine rs (v := .int .u64 (iand .u64 e2 4294967295)) (mv (v := .int .u64 (iand .u64 e2 4294967295)) rfl) rfl ?_
 refine rs (v := .int .u64 (iand .u64 x0 4294967295)) (mv (v := .int .u64 (iand .u64 x0 4294967295)) rfl) rfl ?_
 refine rs (v := .int .u64 (ishr .u64 x1 32)) (mv (v := .int .u64 (ishr .u64 x1 32)) rfl) rfl ?_
 refine rs (v := .int .u64 (IntKind.u64.wrap ((iand .u64 x0 4294967295) * (ishr .u64 x1 32)))) (mlw rfl rfl) rfl ?_
 refine rs (v := .int .u64 (IntKind.u64.wrap ((iand .u64 e2 4294967295) + (IntKind.u64.wrap ((iand .u64 x0 4294967295) * (ishr .u64 x1 32)))))) (adw rfl rfl) rfl ?_
 replace hp := bind_some hp; obtain ⟨e3, he3, hp⟩ := hp
 injection he3 with he3
 refine rs (v := .int .u64 e3) (av (v := .int .u64 e3) (by rw [← he3]; rfl)) rfl ?_
 refine rn ?_
 refine qn ?_
 refine Wseq ?_
 refine Wreg ?_
 refine rs (v := .int .u64 (ishr .u64 x0 32)) (mv (v := .int .u64 (ishr .u64 x0 32)) rfl) rfl ?_
 refine rs (v := .int .u64 (ishr .u64 x1 32)) (mv (v := .int .u64 (ishr .u64 x1 32)) rfl) rfl ?_
 refine rs (v := .int .u64 (IntKind.u64.wrap ((ishr .u64 x0 32) * (ishr .u64 x1 32)))) (mlw rfl rfl) rfl ?_
 refine rs (v := .int .u64 (ishr .u64 e2 32)) (mv (v := .int .u64 (ishr .u64 e2 32)) rfl) rfl ?_
 refine rs (v := .int .u64 (IntKind.u64.wrap ((IntKind.u64.wrap ((ishr .u64 x0 32) * (ishr .u64 x1 32))) + (ishr .u64 e2 32)))) (adw rfl rfl) rfl ?_
 refine rs (v := .int .u64 e3) (mv (v := .int .u64 e3) rfl) rfl ?_
 refine rs (v := .int .u64 (ishr .u64 e3 32)) (shr_ rfl rfl (by decide)) rfl ?_
 refine rs (v := .int .u64 (IntKind.u64.wrap ((IntKind.u64.wrap ((IntKind.u64.wrap ((ishr .u64 x0 32) * (ishr .u64 x1 32))) + (ishr .u64 e2 32))) + (ishr .u64 e3 32)))) (adw rfl rfl) rfl ?_
 replace hp := bind_some hp; obtain ⟨e4, he4, hp⟩ := hp
 injection he4 with he4
 refine rs (v := .int .u64 e4) (av (v := .int .u64 e4) (by rw [← he4]; rfl)) rfl ?_
 refine rn ?_
 refine qn ?_
 refine Wseq ?_
 refine Wreg ?_
 refine rs (v := .int .u64 x0) (mv (v := .int .u64 x0) rfl) rfl ?_
 refine rs (v := .int .u64 x1) (mv (v := .int .u64 x1) rfl) rfl ?_
 refine rs (v := .int .u64 (IntKind.u64.wrap (x0 * x1))) (mlw rfl rfl) rfl ?_
 refine rs (v := .int .u64 (IntKind.u64.wrap (x0 * x1))) (av (v := .int .u64 (IntKind.u64.wrap (x0 * x1))) rfl) rfl ?_
 refine rn ?_
 refine qn ?_
 refine Wret ?_
 injection hp with hp; subst hp
 refine f2 (v := .int .u64 e4) (u := .int .u64 (IntKind.u64.wrap (x0 * x1))) Try.results48 Try.ntmps48 rfl rfl ?_
 exact ⟨_, rfl, k _ hc⟩

-- FN peloton/curve.Exp
def curve_Exp (x0 : Int) : Option (Int) :=
  if x0 ≥ 0 then
    some 65536
  else
    if x0 < (-4294967296) then
      some 0
    else
      (some (ishr .i64 (IntKind.i64.wrap ((IntKind.i64.wrap (0 - x0)) * 94548)) 16)).bind fun e3 =>
      if (ishr .i64 e3 16) > 31 then
        some 0
      else
        (some (ishr .i64 (iand .i64 e3 65535) 11)).bind fun e5 =>
        (some (iand .i64 (iand .i64 e3 65535) 2047)).bind fun e6 =>
        (curve_step e5).bind fun r7 =>
        (curve_step e5).bind fun r9 =>
        (curve_step (IntKind.i64.wrap (e5 + 1))).bind fun r11 =>
        (round_Shift (IntKind.i64.wrap ((IntKind.i64.wrap (r9 - r11)) * e6)) 11).bind fun r13 =>
        (round_Shift (IntKind.i64.wrap (r7 - r13)) (ishr .i64 e3 16)).bind fun r15 =>
        some (IntKind.i32.wrap r15)

set_option maxHeartbeats 8000000 in
theorem curve_Exp_any {x0 : Int} {Fr : List HP} {w : World} {r : Int} {K : Value → World → Prop}  (hc : Ctx w (Fr)) (hp : curve_Exp x0 = some r)
    (k : ∀ w', Ctx w' (Fr) → K (.int .i32 r) w') : Calls Try.prog 31 #[.int .i64 x0] w (Ret K) := by
 unfold curve_Exp at hp
 refine Center (args := [.int .i64 x0]) (l := [(0, .int .i64 x0)]) Try.func31 Try.ntmps31 rfl rfl rfl ?_
 refine Wseq ?_
 refine Wreg ?_
 refine rs (v := .int .i32 0) (av (v := .int .i32 0) rfl) rfl ?_
 refine rn ?_
 refine qn ?_
 refine Wseq ?_
 refine Wseq ?_
 refine Wreg ?_
 refine rs (v := .int .i64 x0) (mv (v := .int .i64 x0) rfl) rfl ?_
 refine rs (v := .bool (decide (x0 ≥ 0))) (ge' rfl rfl) rfl ?_
 refine rn ?_
 refine qn ?_
 cases hb1 : (decide (x0 ≥ 0))
 · replace hp := gneg hp (of_decide_eq_false hb1)
   refine Wcf rfl ?_
   refine Wskip ?_
   refine qn ?_
   refine Wseq ?_
   refine Wseq ?_
   refine Wreg ?_
   refine rs (v := .int .i64 x0) (mv (v := .int .i64 x0) rfl) rfl ?_
   refine rs (v := .bool (decide (x0 < (-4294967296)))) (lt' rfl rfl) rfl ?_
   refine rn ?_
   refine qn ?_
   cases hb2 : (decide (x0 < (-4294967296)))
   · replace hp := gneg hp (of_decide_eq_false hb2)
     refine Wcf rfl ?_
     refine Wskip ?_
     refine qn ?_
     refine Wseq ?_
     refine Wreg ?_
     refine rs (v := .int .i64 x0) (mv (v := .int .i64 x0) rfl) rfl ?_
     refine rs (v := .int .i64 (IntKind.i64.wrap (0 - x0))) (neg_ rfl) rfl ?_
     refine rs (v := .int .i64 (IntKind.i64.wrap ((IntKind.i64.wrap (0 - x0)) * 94548))) (mlw rfl rfl) rfl ?_
     refine rs (v := .int .i64 (ishr .i64 (IntKind.i64.wrap ((IntKind.i64.wrap (0 - x0)) * 94548)) 16)) (shr_ rfl rfl (by decide)) rfl ?_
     replace hp := bind_some hp; obtain ⟨e3, he3, hp⟩ := hp
     injection he3 with he3
     refine rs (v := .int .i64 e3) (av (v := .int .i64 e3) (by rw [← he3]; rfl)) rfl ?_
     refine rn ?_
     refine qn ?_
     refine Wseq ?_
     refine Wreg ?_
     refine rs (v := .int .i64 e3) (mv (v := .int .i64 e3) rfl) rfl ?_
     refine rs (v := .int .i64 (ishr .i64 e3 16)) (shr_ rfl rfl (by decide)) rfl ?_
     refine rs (v := .int .i64 e3) (mv (v := .int .i64 e3) rfl) rfl ?_
     refine rs (v := .int .i64 (iand .i64 e3 65535)) (and_ rfl rfl) rfl ?_
     refine rs (v := .int .i64 (ishr .i64 e3 16)) (av (v := .int .i64 (ishr .i64 e3 16)) rfl) rfl ?_
     refine rs (v := .int .i64 (iand .i64 e3 65535)) (av (v := .int .i64 (iand .i64 e3 65535)) rfl) rfl ?_
     refine rn ?_
     refine qn ?_
     refine Wseq ?_
     refine Wseq ?_
     refine Wreg ?_
     refine rs (v := .int .i64 (ishr .i64 e3 16)) (mv (v := .int .i64 (ishr .i64 e3 16)) rfl) rfl ?_
     refine rs (v := .bool (decide ((ishr .i64 e3 16) > 31))) (gt' rfl rfl) rfl ?_
     refine rn ?_
     refine qn ?_
     cases hb4 : (decide ((ishr .i64 e3 16) > 31))
     · replace hp := gneg hp (of_decide_eq_false hb4)
       refine Wcf rfl ?_
       refine Wskip ?_
       refine qn ?_
       refine Wseq ?_
       refine Wreg ?_
       refine rs (v := .int .i64 (iand .i64 e3 65535)) (mv (v := .int .i64 (iand .i64 e3 65535)) rfl) rfl ?_
       refine rs (v := .int .i64 (ishr .i64 (iand .i64 e3 65535) 11)) (shr_ rfl rfl (by decide)) rfl ?_
       refine rs (v := .int .i64 (iand .i64 e3 65535)) (mv (v := .int .i64 (iand .i64 e3 65535)) rfl) rfl ?_
       refine rs (v := .int .i64 (iand .i64 (iand .i64 e3 65535) 2047)) (and_ rfl rfl) rfl ?_
       replace hp := bind_some hp; obtain ⟨e5, he5, hp⟩ := hp
       injection he5 with he5
       refine rs (v := .int .i64 e5) (av (v := .int .i64 e5) (by rw [← he5]; rfl)) rfl ?_
       replace hp := bind_some hp; obtain ⟨e6, he6, hp⟩ := hp
       injection he6 with he6
       refine rs (v := .int .i64 e6) (av (v := .int .i64 e6) (by rw [← he6]; rfl)) rfl ?_
       refine rn ?_
       refine qn ?_
       refine Wseq ?_
       refine Wreg ?_
       refine rs (v := .int .i64 e5) (mv (v := .int .i64 e5) rfl) rfl ?_
       replace hp := bind_some hp; obtain ⟨r7, hr7, hp⟩ := hp
       refine rc (cl Try.call43 rfl rfl) rfl ?_
       refine curve_step_any hc hr7 ?_
       clear hc; intro w8 hc
       refine rs (v := .int .i64 e5) (mv (v := .int .i64 e5) rfl) rfl ?_
       replace hp := bind_some hp; obtain ⟨r9, hr9, hp⟩ := hp
       refine rc (cl Try.call43 rfl rfl) rfl ?_
       refine curve_step_any hc hr9 ?_
       clear hc; intro w10 hc
       refine rs (v := .int .i64 e5) (mv (v := .int .i64 e5) rfl) rfl ?_
       refine rs (v := .int .i64 (IntKind.i64.wrap (e5 + 1))) (adw rfl rfl) rfl ?_
       replace hp := bind_some hp; obtain ⟨r11, hr11, hp⟩ := hp
       refine rc (cl Try.call43 rfl rfl) rfl ?_
       refine curve_step_any hc hr11 ?_
       clear hc; intro w12 hc
       refine rs (v := .int .i64 (IntKind.i64.wrap (r9 - r11))) (sbw rfl rfl) rfl ?_
       refine rs (v := .int .i64 e6) (mv (v := .int .i64 e6) rfl) rfl ?_
       refine rs (v := .int .i64 (IntKind.i64.wrap ((IntKind.i64.wrap (r9 - r11)) * e6))) (mlw rfl rfl) rfl ?_
       replace hp := bind_some hp; obtain ⟨r13, hr13, hp⟩ := hp
       refine rc (cl Try.call25 rfl rfl) rfl ?_
       refine round_Shift_any hc hr13 ?_
       clear hc; intro w14 hc
       refine rs (v := .int .i64 (IntKind.i64.wrap (r7 - r13))) (sbw rfl rfl) rfl ?_
       refine rs (v := .int .i64 (IntKind.i64.wrap (r7 - r13))) (av (v := .int .i64 (IntKind.i64.wrap (r7 - r13))) rfl) rfl ?_
       refine rn ?_
       refine qn ?_
       refine Wseq ?_
       refine Wreg ?_
       refine rs (v := .int .i64 (IntKind.i64.wrap (r7 - r13))) (mv (v := .int .i64 (IntKind.i64.wrap (r7 - r13))) rfl) rfl ?_
       refine rs (v := .int .i64 (ishr .i64 e3 16)) (mv (v := .int .i64 (ishr .i64 e3 16)) rfl) rfl ?_
       replace hp := bind_some hp; obtain ⟨r15, hr15, hp⟩ := hp
       refine rc (cl Try.call25 rfl rfl) rfl ?_
       refine round_Shift_any hc hr15 ?_
       clear hc; intro w16 hc
       refine rs (v := .int .i32 (IntKind.i32.wrap r15)) (cvi rfl Try.underlying2 Try.underlying21) rfl ?_
       refine rs (v := .int .i32 (IntKind.i32.wrap r15)) (av (v := .int .i32 (IntKind.i32.wrap r15)) rfl) rfl ?_
       refine rn ?_
       refine qn ?_
       refine Wret ?_
       injection hp with hp; subst hp
       refine f1 (v := .int .i32 (IntKind.i32.wrap r15)) Try.results31 Try.ntmps31 rfl ?_
       exact ⟨_, rfl, k _ hc⟩
     · replace hp := gpos hp (of_decide_eq_true hb4)
       refine Wct rfl ?_
       refine Wseq ?_
       refine Wreg ?_
       refine rs (v := .int .i32 0) (av (v := .int .i32 0) rfl) rfl ?_
       refine rn ?_
       refine qn ?_
       refine Wret ?_
       refine qr ?_
       injection hp with hp; subst hp
       refine f1 (v := .int .i32 0) Try.results31 Try.ntmps31 rfl ?_
       exact ⟨_, rfl, k _ hc⟩
   · replace hp := gpos hp (of_decide_eq_true hb2)
     refine Wct rfl ?_
     refine Wseq ?_
     refine Wreg ?_
     refine rs (v := .int .i32 0) (av (v := .int .i32 0) rfl) rfl ?_
     refine rn ?_
     refine qn ?_
     refine Wret ?_
     refine qr ?_
     injection hp with hp; subst hp
     refine f1 (v := .int .i32 0) Try.results31 Try.ntmps31 rfl ?_
     exact ⟨_, rfl, k _ hc⟩
 · replace hp := gpos hp (of_decide_eq_true hb1)
   refine Wct rfl ?_
   refine Wseq ?_
   refine Wreg ?_
   refine rs (v := .int .i32 65536) (av (v := .int .i32 65536) rfl) rfl ?_
   refine rn ?_
   refine qn ?_
   refine Wret ?_
   refine qr ?_
   injection hp with hp; subst hp
   refine f1 (v := .int .i32 65536) Try.results31 Try.ntmps31 rfl ?_
   exact ⟨_, rfl, k _ hc⟩

-- FN peloton/curve.Root
def curve_Root.J2 (j5 : Int) (k1 : Int → Int → Option (Int)) (j8 : Int) : Option (Int) :=
  k1 j8 (IntKind.u64.wrap (j5 - 1))

def curve_Root.J3 (j4 : Int) (j5 : Int) (e10 : Int) (k1 : Int → Int → Option (Int)) (j13 : Bool) : Option (Int) :=
  if j13 = true then
    curve_Root.J2 j5 k1 e10
  else
    curve_Root.J2 j5 k1 j4

def curve_Root.L1 (x0 : Int) : Nat → Int → Int → Option (Int)
  | 0, _, _ => none
  | m1 + 1, j4, j5 =>
    if j5 > 0 then
      chk (0 ≤ (IntKind.u64.wrap (j5 - 1))) <|
      (some (ior .u64 j4 (ishl .u64 1 (IntKind.u64.wrap (j5 - 1))))).bind fun e10 =>
      (bits_Mul64 e10 e10).bind fun r11 =>
      if r11.1 = 0 then
        curve_Root.J3 j4 j5 e10 (curve_Root.L1 x0 m1) (decide (r11.2 ≤ x0))
      else
        curve_Root.J3 j4 j5 e10 (curve_Root.L1 x0 m1) false
    else
      some j4

def curve_Root (N : Nat) (x0 : Int) : Option (Int) :=
  (bits_Len64 x0).bind fun r1 =>
  (some (IntKind.u64.wrap (Int.tdiv (IntKind.u64.wrap (IntKind.i64.wrap (r1 + 1))) 2))).bind fun e3 =>
  curve_Root.L1 x0 N 0 e3

set_option maxHeartbeats 8000000 in
theorem curve_Root_any {N : Nat} {x0 : Int} {Fr : List HP} {w : World} {r : Int} {K : Value → World → Prop}  (hc : Ctx w (Fr)) (hp : curve_Root N x0 = some r)
    (k : ∀ w', Ctx w' (Fr) → K (.int .u64 r) w') : Calls Try.prog 40 #[.int .u64 x0] w (Ret K) := by
 unfold curve_Root at hp
 refine Center (args := [.int .u64 x0]) (l := [(0, .int .u64 x0)]) Try.func40 Try.ntmps40 rfl rfl rfl ?_
 refine Wseq ?_
 refine Wreg ?_
 refine rs (v := .int .u64 0) (av (v := .int .u64 0) rfl) rfl ?_
 refine rn ?_
 refine qn ?_
 refine Wseq ?_
 refine Wreg ?_
 refine rs (v := .int .u64 0) (av (v := .int .u64 0) rfl) rfl ?_
 refine rn ?_
 refine qn ?_
 refine Wseq ?_
 refine Wseq ?_
 refine Wreg ?_
 refine rs (v := .int .u64 x0) (mv (v := .int .u64 x0) rfl) rfl ?_
 replace hp := bind_some hp; obtain ⟨r1, hr1, hp⟩ := hp
 refine rc (cl Try.call47 rfl rfl) rfl ?_
 refine bits_Len64_any hc hr1 ?_
 clear hc; intro w2 hc
 refine rs (v := .int .i64 (IntKind.i64.wrap (r1 + 1))) (adw rfl rfl) rfl ?_
 refine rs (v := .int .u64 (IntKind.u64.wrap (IntKind.i64.wrap (r1 + 1)))) (cvi rfl Try.underlying3 Try.underlying70) rfl ?_
 refine rs (v := .int .u64 (IntKind.u64.wrap (Int.tdiv (IntKind.u64.wrap (IntKind.i64.wrap (r1 + 1))) 2))) (quw rfl rfl (by decide)) rfl ?_
 replace hp := bind_some hp; obtain ⟨e3, he3, hp⟩ := hp
 injection he3 with he3
 refine rs (v := .int .u64 e3) (av (v := .int .u64 e3) (by rw [← he3]; rfl)) rfl ?_
 refine rn ?_
 refine qn ?_
 refine Wblk ?_
 refine Wloop [3, 4, 5, 6, 7, 13, 14, 15, 16, 17, 18, 19, 20, 21, 22, 23, 24, 25, 26, 27, 28, 29, 30, 31, 32, 33, 34, 35] [3, 4] (fun m vs w' => ∃ j4 : Int, ∃ j5 : Int, vs = [.int .u64 j4, .int .u64 j5] ∧ curve_Root.L1 x0 m j4 j5 = some r ∧ Ctx w' (Fr)) N ?_ ?_
 · exact ⟨0, e3, rfl, hp, hc⟩
 · clear hp hc; intro m vs u w6 hJ
   obtain ⟨j4, j5, rfl, hp, hc⟩ := hJ
   rcases m with _ | m1
   · cases (show none = some r from hp)
   rw [curve_Root.L1] at hp
   refine Wseq ?_
   refine Wseq ?_
   refine Wreg ?_
   refine rs (v := .int .u64 j5) (mv (v := .int .u64 j5) rfl) rfl ?_
   refine rs (v := .bool (decide (j5 > 0))) (gt' rfl rfl) rfl ?_
   refine rn ?_
   refine qn ?_
   cases hb7 : (decide (j5 > 0))
   · replace hp := gneg hp (of_decide_eq_false hb7)
     refine Wcf rfl ?_
     refine Wexit ?_
     refine qx ?_
     refine qx ?_
     refine be ?_
     refine qn ?_
     refine Wseq ?_
     refine Wreg ?_
     refine rs (v := .int .u64 j4) (mv (v := .int .u64 j4) rfl) rfl ?_
     refine rs (v := .int .u64 j4) (av (v := .int .u64 j4) rfl) rfl ?_
     refine rn ?_
     refine qn ?_
     refine Wret ?_
     injection hp with hp; subst hp
     refine f1 (v := .int .u64 j4) Try.results40 Try.ntmps40 rfl ?_
     exact ⟨_, rfl, k _ hc⟩
   · replace hp := gpos hp (of_decide_eq_true hb7)
     refine Wct rfl ?_
     refine Wskip ?_
     refine qn ?_
     refine Wseqm [3, 5, 6, 7, 17, 18, 19, 20, 21, 22, 23, 24, 25, 26, 27, 28, 29, 30, 31, 32, 33, 34, 35] [3] (fun vs w' => ∃ j8 : Int, vs = [.int .u64 j8] ∧ curve_Root.J2 j5 (curve_Root.L1 x0 m1) j8 = some r ∧ Ctx w' (Fr)) ?_ ?_
     · refine Wblk ?_
       refine Wseq ?_
       refine Wreg ?_
       refine rs (v := .int .u64 j4) (mv (v := .int .u64 j4) rfl) rfl ?_
       refine rs (v := .int .u64 j5) (mv (v := .int .u64 j5) rfl) rfl ?_
       refine rs (v := .int .u64 (IntKind.u64.wrap (j5 - 1))) (sbw rfl rfl) rfl ?_
       replace hp := chk_some hp; obtain ⟨hg9, hp⟩ := hp
       refine rs (v := .int .u64 (ishl .u64 1 (IntKind.u64.wrap (j5 - 1)))) (shl_ rfl rfl hg9) rfl ?_
       refine rs (v := .int .u64 (ior .u64 j4 (ishl .u64 1 (IntKind.u64.wrap (j5 - 1))))) (or_ rfl rfl) rfl ?_
       replace hp := bind_some hp; obtain ⟨e10, he10, hp⟩ := hp
       injection he10 with he10
       refine rs (v := .int .u64 e10) (av (v := .int .u64 e10) (by rw [← he10]; rfl)) rfl ?_
       refine rn ?_
       refine qn ?_
       refine Wseq ?_
       refine Wreg ?_
       refine rs (v := .int .u64 e10) (mv (v := .int .u64 e10) rfl) rfl ?_
       refine rs (v := .int .u64 e10) (mv (v := .int .u64 e10) rfl) rfl ?_
       replace hp := bind_some hp; obtain ⟨r11, hr11, hp⟩ := hp
       refine rc (cl Try.call48 rfl rfl) rfl ?_
       refine bits_Mul64_any hc hr11 ?_
       clear hc; intro w12 hc
       refine rs (v := .tuple #[.int .u64 r11.1, .int .u64 r11.2]) (mv (v := .tuple #[.int .u64 r11.1, .int .u64 r11.2]) rfl) rfl ?_
       refine rs (v := .int .u64 r11.1) (ext (v := .int .u64 r11.1) rfl rfl) rfl ?_
       refine rs (v := .int .u64 r11.2) (ext (v := .int .u64 r11.2) rfl rfl) rfl ?_
       refine rs (v := .int .u64 r11.1) (av (v := .int .u64 r11.1) rfl) rfl ?_
       refine rs (v := .int .u64 r11.2) (av (v := .int .u64 r11.2) rfl) rfl ?_
       refine rn ?_
       refine qn ?_
       refine Wseqm [28, 29, 30, 31, 32, 33, 34] [34] (fun vs w' => ∃ j13 : Bool, vs = [.bool j13] ∧ curve_Root.J3 j4 j5 e10 (curve_Root.L1 x0 m1) j13 = some r ∧ Ctx w' (Fr)) ?_ ?_
       · refine Wreg ?_
         refine rs (v := .int .u64 r11.1) (mv (v := .int .u64 r11.1) rfl) rfl ?_
         refine rs (v := .bool (decide (r11.1 = 0))) (eqd rfl rfl) rfl ?_
         refine rs (v := .bool (decide (r11.1 = 0))) (mv (v := .bool (decide (r11.1 = 0))) rfl) rfl ?_
         cases hb14 : (decide (r11.1 = 0))
         · replace hp := gneg hp (of_decide_eq_false hb14)
           refine r0 rfl ?_
           refine r0 rfl ?_
           refine r0 rfl ?_
           refine rs (v := .bool false) (pkf (v := .bool false) rfl rfl) rfl ?_
           refine rn ?_
           refine qn ?_
           exact ⟨⟨false, rfl, hp, hc⟩, (kl rfl kb)⟩
         · replace hp := gpos hp (of_decide_eq_true hb14)
           refine rs (v := .int .u64 r11.2) (mv (v := .int .u64 r11.2) rfl) rfl ?_
           refine rs (v := .int .u64 x0) (mv (v := .int .u64 x0) rfl) rfl ?_
           refine rs (v := .bool (decide (r11.2 ≤ x0))) (le' rfl rfl) rfl ?_
           refine rs (v := .bool (decide (r11.2 ≤ x0))) (pkt (v := .bool (decide (r11.2 ≤ x0))) rfl rfl) rfl ?_
           refine rn ?_
           refine qn ?_
           exact ⟨⟨decide (r11.2 ≤ x0), rfl, hp, hc⟩, (kl rfl kb)⟩
       · clear hp hc; intro vs u w15 hJ
         obtain ⟨j13, rfl, hp, hc⟩ := hJ
         unfold curve_Root.J3 at hp
         cases hb16 : j13
         · replace hp := gneg hp (by rw [hb16]; exact Bool.false_ne_true)
           subst hb16
           refine Wcf rfl ?_
           refine Wskip ?_
           refine bn ?_
           refine qn ?_
           exact ⟨⟨j4, rfl, hp, hc⟩, (kl rfl (km rfl (kl rfl kb)))⟩
         · replace hp := gpos hp hb16
           subst hb16
           refine Wct rfl ?_
           refine Wreg ?_
           refine rs (v := .int .u64 e10) (mv (v := .int .u64 e10) rfl) rfl ?_
           refine rs (v := .int .u64 e10) (av (v := .int .u64 e10) rfl) rfl ?_
           refine rn ?_
           refine bn ?_
           refine qn ?_
           exact ⟨⟨e10, rfl, hp, hc⟩, (kl rfl (km rfl (kl rfl kb)))⟩
     · clear hp hc; intro vs u w17 hJ
       obtain ⟨j8, rfl, hp, hc⟩ := hJ
       unfold curve_Root.J2 at hp
       refine Wreg ?_
       refine rs (v := .int .u64 j5) (mv (v := .int .u64 j5) rfl) rfl ?_
       refine rs (v := .int .u64 (IntKind.u64.wrap (j5 - 1))) (sbw rfl rfl) rfl ?_
       refine rs (v := .int .u64 (IntKind.u64.wrap (j5 - 1))) (av (v := .int .u64 (IntKind.u64.wrap (j5 - 1))) rfl) rfl ?_
       refine rn ?_
       refine qn ?_
       exact ⟨m1, Nat.lt_succ_self _, ⟨j8, (IntKind.u64.wrap (j5 - 1)), rfl, hp, hc⟩, (kl rfl (km rfl (kl rfl k0)))⟩

-- FN peloton/curve.Inverse
def curve_Inverse (N : Nat) (x0 : Int) : Option (Int) :=
  if x0 = 0 then
    some 16777216
  else
    chk (x0 ≠ 0) <|
    (curve_Root N (IntKind.u64.wrap (Int.tdiv 281474976710656 x0))).bind fun r3 =>
    some r3

set_option maxHeartbeats 8000000 in
theorem curve_Inverse_any {N : Nat} {x0 : Int} {Fr : List HP} {w : World} {r : Int} {K : Value → World → Prop}  (hc : Ctx w (Fr)) (hp : curve_Inverse N x0 = some r)
    (k : ∀ w', Ctx w' (Fr) → K (.int .u64 r) w') : Calls Try.prog 22 #[.int .u64 x0] w (Ret K) := by
 unfold curve_Inverse at hp
 refine Center (args := [.int .u64 x0]) (l := [(0, .int .u64 x0)]) Try.func22 Try.ntmps22 rfl rfl rfl ?_
 refine Wseq ?_
 refine Wreg ?_
 refine rs (v := .int .u64 0) (av (v := .int .u64 0) rfl) rfl ?_
 refine rn ?_
 refine qn ?_
 refine Wseq ?_
 refine Wseq ?_
 refine Wreg ?_
 refine rs (v := .int .u64 x0) (mv (v := .int .u64 x0) rfl) rfl ?_
 refine rs (v := .bool (decide (x0 = 0))) (eqd rfl rfl) rfl ?_
 refine rn ?_
 refine qn ?_
 cases hb1 : (decide (x0 = 0))
 · replace hp := gneg hp (of_decide_eq_false hb1)
   refine Wcf rfl ?_
   refine Wskip ?_
   refine qn ?_
   refine Wseq ?_
   refine Wreg ?_
   refine rs (v := .int .u64 x0) (mv (v := .int .u64 x0) rfl) rfl ?_
   replace hp := chk_some hp; obtain ⟨hg2, hp⟩ := hp
   refine rs (v := .int .u64 (IntKind.u64.wrap (Int.tdiv 281474976710656 x0))) (quw rfl rfl hg2) rfl ?_
   replace hp := bind_some hp; obtain ⟨r3, hr3, hp⟩ := hp
   refine rc (cl Try.call40 rfl rfl) rfl ?_
   refine curve_Root_any hc hr3 ?_
   clear hc; intro w4 hc
   refine rs (v := .int .u64 r3) (av (v := .int .u64 r3) rfl) rfl ?_
   refine rn ?_
   refine qn ?_
   refine Wret ?_
   injection hp with hp; subst hp
   refine f1 (v := .int .u64 r3) Try.results22 Try.ntmps22 rfl ?_
   exact ⟨_, rfl, k _ hc⟩
 · replace hp := gpos hp (of_decide_eq_true hb1)
   refine Wct rfl ?_
   refine Wseq ?_
   refine Wreg ?_
   refine rs (v := .int .u64 16777216) (av (v := .int .u64 16777216) rfl) rfl ?_
   refine rn ?_
   refine qn ?_
   refine Wret ?_
   refine qr ?_
   injection hp with hp; subst hp
   refine f1 (v := .int .u64 16777216) Try.results22 Try.ntmps22 rfl ?_
   exact ⟨_, rfl, k _ hc⟩

-- FN peloton/curve.Shares
def curve_Shares.J3 (j14 : Int) (k2 : (List Int) → Int → Option ((List Int))) (j17 : (List Int)) : Option ((List Int)) :=
  k2 j17 (IntKind.i64.wrap (j14 + 1))

def curve_Shares.J4 (x0 : Int) (j6 : Int) (j10 : (List Int)) (j14 : Int) (y21 : Int) (k2 : (List Int) → Int → Option ((List Int))) (j30 : Bool) : Option ((List Int)) :=
  if j30 = true then
    chk (j6 ≠ 0) <|
    (idx j10 j14).bind fun y35 =>
    curve_Shares.J3 j14 k2 (j10.set (j14).toNat (IntKind.i32.wrap (IntKind.u64.wrap (Int.tdiv (IntKind.u64.wrap ((IntKind.u64.wrap y21) * (IntKind.u64.wrap x0))) j6))))
  else
    curve_Shares.J3 j14 k2 j10

def curve_Shares.L2 (x0 : Int) (x1 : (List Int)) (j6 : Int) : Nat → (List Int) → Int → Option ((List Int))
  | 0, _, _ => none
  | m2 + 1, j10, j14 =>
    if j14 < ((x1.length : Nat) : Int) then
      (idx x1 j14).bind fun y21 =>
      if y21 > 0 then
        curve_Shares.J4 x0 j6 j10 j14 y21 (curve_Shares.L2 x0 x1 j6 m2) (decide (x0 > 0))
      else
        curve_Shares.J4 x0 j6 j10 j14 y21 (curve_Shares.L2 x0 x1 j6 m2) false
    else
      some j10

def curve_Shares.L1 (N : Nat) (x0 : Int) (x1 : (List Int)) : Nat → Int → Int → Option ((List Int))
  | 0, _, _ => none
  | m1 + 1, j6, j7 =>
    if j7 < ((x1.length : Nat) : Int) then
      (idx x1 j7).bind fun y43 =>
      (some (IntKind.u64.wrap (j6 + (IntKind.u64.wrap (max y43 0))))).bind fun e52 =>
      (curve_Shares.L1 N x0 x1 m1) e52 (IntKind.i64.wrap (j7 + 1))
    else
      curve_Shares.L2 x0 x1 j6 N (List.replicate (((x1.length : Nat) : Int)).toNat 0) 0

def curve_Shares (N : Nat) (x0 : Int) (x1 : (List Int)) : Option ((List Int)) :=
  chk (0 ≤ ((x1.length : Nat) : Int) ∧ ((x1.length : Nat) : Int) ≤ 4294967296) <|
  curve_Shares.L1 N x0 x1 N 0 0

set_option maxHeartbeats 8000000 in
theorem curve_Shares_any {N : Nat} {x0 : Int} {x1 : (List Int)} {ax1 : Option Addr} {nx1 : Nat} {qx1 : Nat} {P1 : HP} {Fr : List HP} {w : World} {r : (List Int)} {K : Value → World → Prop} (hrd1 : Reads P1 (pInt .i32) (.slice ax1 nx1 qx1) x1) (hc : Ctx w (P1 :: Fr)) (hp : curve_Shares N x0 x1 = some r)
    (k : ∀ (a53 : Option Addr) (n54 : Nat) (q55 : Nat) w', Ctx w' (Own (pInt .i32) 21 (.slice a53 n54 q55) r :: P1 :: Fr) → K (.slice a53 n54 q55) w') : Calls Try.prog 32 #[.int .i32 x0, .slice ax1 nx1 qx1] w (Ret K) := by
 unfold curve_Shares at hp
 refine Center (args := [.int .i32 x0, .slice ax1 nx1 qx1]) (l := [(0, .int .i32 x0), (1, .slice ax1 nx1 qx1)]) Try.func32 Try.ntmps32 rfl rfl rfl ?_
 obtain ⟨hn1, _⟩ := Ctx.rdLen hc (k := 0) rfl rfl hrd1; subst hn1
 refine Wseq ?_
 refine Wreg ?_
 refine rs (v := .slice none 0 0) (av (v := .slice none 0 0) rfl) rfl ?_
 refine rn ?_
 refine qn ?_
 refine Wseq ?_
 refine Wreg ?_
 refine rs (v := .slice ax1 x1.length qx1) (mv (v := .slice ax1 x1.length qx1) rfl) rfl ?_
 refine rs (v := .int .i64 ((x1.length : Nat) : Int)) (ln rfl Try.underlying23) rfl ?_
 replace hp := chk_some hp; obtain ⟨hg1, hp⟩ := hp
 have hm3 : ((((x1.length : Nat) : Int)).toNat : Int) = ((x1.length : Nat) : Int) := Int.toNat_of_nonneg hg1.1
 refine rsE (Ctx.make (n := (((x1.length : Nat) : Int)).toNat) (E := (pInt .i32)) (x0 := 0) hc (by rw [hm3]; rfl) (by rw [hm3]; rfl) Try.underlying23 (i := Try.t21) rfl rfl rfl rfl rfl rfl (fun _ _ => rfl) (by omega)) rfl ?_
 clear hc; rintro _ w5 ⟨a2, rfl, hc⟩
 refine rs (v := .slice a2 ((((x1.length : Nat) : Int)).toNat) ((((x1.length : Nat) : Int)).toNat)) (av (v := .slice a2 ((((x1.length : Nat) : Int)).toNat) ((((x1.length : Nat) : Int)).toNat)) rfl) rfl ?_
 refine rn ?_
 refine qn ?_
 refine Wseq ?_
 refine Wreg ?_
 refine rs (v := .int .u64 0) (av (v := .int .u64 0) rfl) rfl ?_
 refine rn ?_
 refine qn ?_
 refine Wseq ?_
 refine Wseq ?_
 refine Wreg ?_
 refine rs (v := .slice ax1 x1.length qx1) (mv (v := .slice ax1 x1.length qx1) rfl) rfl ?_
 refine rs (v := .int .i64 ((x1.length : Nat) : Int)) (ln rfl Try.underlying23) rfl ?_
 refine rs (v := .int .i64 0) (mv (v := .int .i64 0) rfl) rfl ?_
 refine rn ?_
 refine qn ?_
 refine Wblk ?_
 refine Wloop [6, 8, 16, 17, 18, 19, 20, 21, 22, 23, 24, 25] [6, 16] (fun m vs w' => ∃ j6 : Int, ∃ j7 : Int, vs = [.int .u64 j6, .int .i64 j7] ∧ curve_Shares.L1 N x0 x1 m j6 j7 = some r ∧ Ctx w' (Own (pInt .i32) 21 (.slice a2 ((((x1.length : Nat) : Int)).toNat) ((((x1.length : Nat) : Int)).toNat)) (List.replicate (((x1.length : Nat) : Int)).toNat 0) :: P1 :: Fr)) N ?_ ?_
 · exact ⟨0, 0, rfl, hp, hc⟩
 · clear hp hc; intro m vs u w8 hJ
   obtain ⟨j6, j7, rfl, hp, hc⟩ := hJ
   rcases m with _ | m1
   · cases (show none = some r from hp)
   rw [curve_Shares.L1] at hp
   refine Wseq ?_
   refine Wreg ?_
   refine rs (v := .bool (decide (j7 < ((x1.length : Nat) : Int)))) (lt' rfl rfl) rfl ?_
   refine rn ?_
   refine qn ?_
   refine Wseq ?_
   cases hb9 : (decide (j7 < ((x1.length : Nat) : Int)))
   · replace hp := gneg hp (of_decide_eq_false hb9)
     refine Wcf rfl ?_
     refine Wexit ?_
     refine qx ?_
     refine qx ?_
     refine be ?_
     refine qn ?_
     refine Wseq ?_
     refine Wseq ?_
     refine Wreg ?_
     refine rs (v := .slice ax1 x1.length qx1) (mv (v := .slice ax1 x1.length qx1) rfl) rfl ?_
     refine rs (v := .int .i64 ((x1.length : Nat) : Int)) (ln rfl Try.underlying23) rfl ?_
     refine rs (v := .int .i64 0) (mv (v := .int .i64 0) rfl) rfl ?_
     refine rn ?_
     refine qn ?_
     refine Wblk ?_
     refine Wloop [9, 10, 28, 29, 30, 31, 32, 33, 34, 35, 36, 37, 38, 39, 40, 41, 42, 43, 44, 45, 46, 47, 48, 49, 50] [28] (fun m vs w' => ∃ j10 : (List Int), ∃ j14 : Int, vs = [.int .i64 j14] ∧ curve_Shares.L2 x0 x1 j6 m j10 j14 = some r ∧ Ctx w' (Own (pInt .i32) 21 (.slice a2 ((((x1.length : Nat) : Int)).toNat) ((((x1.length : Nat) : Int)).toNat)) j10 :: P1 :: Fr)) N ?_ ?_
     · exact ⟨(List.replicate (((x1.length : Nat) : Int)).toNat 0), 0, rfl, hp, hc⟩
     · clear hp hc; intro m vs u w15 hJ
       obtain ⟨j10, j14, rfl, hp, hc⟩ := hJ
       rcases m with _ | m2
       · cases (show none = some r from hp)
       rw [curve_Shares.L2] at hp
       refine Wseq ?_
       refine Wreg ?_
       refine rs (v := .bool (decide (j14 < ((x1.length : Nat) : Int)))) (lt' rfl rfl) rfl ?_
       refine rn ?_
       refine qn ?_
       refine Wseq ?_
       cases hb16 : (decide (j14 < ((x1.length : Nat) : Int)))
       · replace hp := gneg hp (of_decide_eq_false hb16)
         refine Wcf rfl ?_
         refine Wexit ?_
         refine qx ?_
         refine qx ?_
         refine be ?_
         refine qn ?_
         refine Wseq ?_
         refine Wreg ?_
         refine rs (v := .slice a2 ((((x1.length : Nat) : Int)).toNat) ((((x1.length : Nat) : Int)).toNat)) (mv (v := .slice a2 ((((x1.length : Nat) : Int)).toNat) ((((x1.length : Nat) : Int)).toNat)) rfl) rfl ?_
         refine rs (v := .slice a2 ((((x1.length : Nat) : Int)).toNat) ((((x1.length : Nat) : Int)).toNat)) (av (v := .slice a2 ((((x1.length : Nat) : Int)).toNat) ((((x1.length : Nat) : Int)).toNat)) rfl) rfl ?_
         refine rn ?_
         refine qn ?_
         refine Wret ?_
         injection hp with hp; subst hp
         refine f1 (v := .slice a2 ((((x1.length : Nat) : Int)).toNat) ((((x1.length : Nat) : Int)).toNat)) Try.results32 Try.ntmps32 rfl ?_
         exact ⟨_, rfl, k _ _ _ _ hc⟩
       · replace hp := gpos hp (of_decide_eq_true hb16)
         refine Wct rfl ?_
         refine Wskip ?_
         refine qn ?_
         refine Wseqm [9, 10, 30, 31, 32, 33, 34, 35, 36, 37, 38, 39, 40, 41, 42, 43, 44, 45, 46, 47, 48, 49] [] (fun vs w' => ∃ j17 : (List Int), vs = [] ∧ curve_Shares.J3 j14 (curve_Shares.L2 x0 x1 j6 m2) j17 = some r ∧ Ctx w' (Own (pInt .i32) 21 (.slice a2 ((((x1.length : Nat) : Int)).toNat) ((((x1.length : Nat) : Int)).toNat)) j17 :: P1 :: Fr)) ?_ ?_
         · refine Wblk ?_
           refine Wseq ?_
           refine Wreg ?_
           refine rs (v := .int .i64 j14) (mv (v := .int .i64 j14) rfl) rfl ?_
           replace hp := bind_some hp; obtain ⟨y21, hy21, hp⟩ := hp
           obtain ⟨b24, o25, u26, hi22, hi23⟩ := Ctx.rdAt hc (k := 1) rfl rfl hrd1 hy21
           subst u26
           refine rs (v := .pointer (some ⟨b24, o25 + (j14).toNat * 1, none⟩)) (ixx rfl rfl Try.underlying23 Try.sizeOf21 hi22 hi23 rfl) rfl ?_
           replace hc := Ctx.rdCell hc (k := 1) rfl rfl hrd1 hy21; obtain ⟨cs27, hc, hcell28⟩ := hc
           replace hc := Ctx.holdC hc; obtain ⟨u29, hc⟩ := hc; subst u29
           refine rs (v := .int .i32 y21) (ld rfl Try.isAgg21 (hcell28 0 _ rfl)) rfl ?_
           refine rs (v := .int .i64 j14) (av (v := .int .i64 j14) rfl) rfl ?_
           refine rs (v := .int .i32 y21) (av (v := .int .i32 y21) rfl) rfl ?_
           refine rn ?_
           refine qn ?_
           refine Wseqm [33, 34, 35, 36, 37, 38] [38] (fun vs w' => ∃ j30 : Bool, vs = [.bool j30] ∧ curve_Shares.J4 x0 j6 j10 j14 y21 (curve_Shares.L2 x0 x1 j6 m2) j30 = some r ∧ Ctx w' (Own (pInt .i32) 21 (.slice a2 ((((x1.length : Nat) : Int)).toNat) ((((x1.length : Nat) : Int)).toNat)) j10 :: P1 :: Fr)) ?_ ?_
           · refine Wreg ?_
             refine rs (v := .int .i32 y21) (mv (v := .int .i32 y21) rfl) rfl ?_
             refine rs (v := .bool (decide (y21 > 0))) (gt' rfl rfl) rfl ?_
             refine rs (v := .bool (decide (y21 > 0))) (mv (v := .bool (decide (y21 > 0))) rfl) rfl ?_
             cases hb31 : (decide (y21 > 0))
             · replace hp := gneg hp (of_decide_eq_false hb31)
               refine r0 rfl ?_
               refine r0 rfl ?_
               refine rs (v := .bool false) (pkf (v := .bool false) rfl rfl) rfl ?_
               refine rn ?_
               refine qn ?_
               exact ⟨⟨false, rfl, hp, hc⟩, (kl rfl kb)⟩
             · replace hp := gpos hp (of_decide_eq_true hb31)
               refine rs (v := .int .i32 x0) (mv (v := .int .i32 x0) rfl) rfl ?_
               refine rs (v := .bool (decide (x0 > 0))) (gt' rfl rfl) rfl ?_
               refine rs (v := .bool (decide (x0 > 0))) (pkt (v := .bool (decide (x0 > 0))) rfl rfl) rfl ?_
               refine rn ?_
               refine qn ?_
               exact ⟨⟨decide (x0 > 0), rfl, hp, hc⟩, (kl rfl kb)⟩
           · clear hp hc; intro vs u w32 hJ
             obtain ⟨j30, rfl, hp, hc⟩ := hJ
             unfold curve_Shares.J4 at hp
             cases hb33 : j30
             · replace hp := gneg hp (by rw [hb33]; exact Bool.false_ne_true)
               subst hb33
               refine Wcf rfl ?_
               refine Wskip ?_
               refine bn ?_
               refine qn ?_
               exact ⟨⟨j10, rfl, hp, hc⟩, (kl rfl (km rfl (kl rfl kb)))⟩
             · replace hp := gpos hp hb33
               subst hb33
               refine Wct rfl ?_
               refine Wreg ?_
               refine rs (v := .slice a2 ((((x1.length : Nat) : Int)).toNat) ((((x1.length : Nat) : Int)).toNat)) (mv (v := .slice a2 ((((x1.length : Nat) : Int)).toNat) ((((x1.length : Nat) : Int)).toNat)) rfl) rfl ?_
               refine rs (v := .int .i64 j14) (mv (v := .int .i64 j14) rfl) rfl ?_
               refine rs (v := .int .i32 y21) (mv (v := .int .i32 y21) rfl) rfl ?_
               refine rs (v := .int .u64 (IntKind.u64.wrap y21)) (cvi rfl Try.underlying21 Try.underlying52) rfl ?_
               refine rs (v := .int .i32 x0) (mv (v := .int .i32 x0) rfl) rfl ?_
               refine rs (v := .int .u64 (IntKind.u64.wrap x0)) (cvi rfl Try.underlying21 Try.underlying52) rfl ?_
               refine rs (v := .int .u64 (IntKind.u64.wrap ((IntKind.u64.wrap y21) * (IntKind.u64.wrap x0)))) (mlw rfl rfl) rfl ?_
               refine rs (v := .int .u64 j6) (mv (v := .int .u64 j6) rfl) rfl ?_
               replace hp := chk_some hp; obtain ⟨hg34, hp⟩ := hp
               refine rs (v := .int .u64 (IntKind.u64.wrap (Int.tdiv (IntKind.u64.wrap ((IntKind.u64.wrap y21) * (IntKind.u64.wrap x0))) j6))) (quw rfl rfl hg34) rfl ?_
               refine rs (v := .int .i32 (IntKind.i32.wrap (IntKind.u64.wrap (Int.tdiv (IntKind.u64.wrap ((IntKind.u64.wrap y21) * (IntKind.u64.wrap x0))) j6)))) (cvi rfl Try.underlying52 Try.underlying21) rfl ?_
               replace hp := bind_some hp; obtain ⟨y35, hy35, hp⟩ := hp
               obtain ⟨b38, o39, u40, hi36, hi37⟩ := Ctx.rdAt hc (k := 0) rfl rfl reads_own hy35
               subst u40
               refine rs (v := .pointer (some ⟨b38, o39 + (j14).toNat * 1, none⟩)) (ixx rfl rfl Try.underlying23 Try.sizeOf21 hi36 hi37 rfl) rfl ?_
               refine ruE (A := fun w' => Ctx w' (Own (pInt .i32) 21 (.slice (some ⟨b38, o39, none⟩) ((((x1.length : Nat) : Int)).toNat) ((((x1.length : Nat) : Int)).toNat)) (j10.set (j14).toNat (IntKind.i32.wrap (IntKind.u64.wrap (Int.tdiv (IntKind.u64.wrap ((IntKind.u64.wrap y21) * (IntKind.u64.wrap x0))) j6)))) :: P1 :: Fr)) (Ctx.ownPutOp hc (k := 0) rfl rfl (z := y35) (z' := (IntKind.i32.wrap (IntKind.u64.wrap (Int.tdiv (IntKind.u64.wrap ((IntKind.u64.wrap y21) * (IntKind.u64.wrap x0))) j6)))) hy35 0 rfl (u := .int .i32 (IntKind.i32.wrap (IntKind.u64.wrap (Int.tdiv (IntKind.u64.wrap ((IntKind.u64.wrap y21) * (IntKind.u64.wrap x0))) j6)))) rfl rfl rfl Try.sizeOf21 (fun _ _ _ h => by cases h; rfl) rfl) rfl ?_
               clear hc; rintro w41 hc
               refine rn ?_
               refine bn ?_
               refine qn ?_
               exact ⟨⟨(j10.set (j14).toNat (IntKind.i32.wrap (IntKind.u64.wrap (Int.tdiv (IntKind.u64.wrap ((IntKind.u64.wrap y21) * (IntKind.u64.wrap x0))) j6)))), rfl, hp, hc⟩, (kl rfl (km rfl (kl rfl kb)))⟩
         · clear hp hc; intro vs u w42 hJ
           obtain ⟨j17, rfl, hp, hc⟩ := hJ
           unfold curve_Shares.J3 at hp
           refine Wreg ?_
           refine rs (v := .int .i64 (IntKind.i64.wrap (j14 + 1))) (adw rfl rfl) rfl ?_
           refine rs (v := .int .i64 (IntKind.i64.wrap (j14 + 1))) (mv (v := .int .i64 (IntKind.i64.wrap (j14 + 1))) rfl) rfl ?_
           refine rn ?_
           refine qn ?_
           exact ⟨m2, Nat.lt_succ_self _, ⟨j17, (IntKind.i64.wrap (j14 + 1)), rfl, hp, hc⟩, (kl rfl (km rfl (kl rfl k0)))⟩
   · replace hp := gpos hp (of_decide_eq_true hb9)
     refine Wct rfl ?_
     refine Wskip ?_
     refine qn ?_
     refine Wseq ?_
     refine Wblk ?_
     refine Wseq ?_
     refine Wreg ?_
     replace hp := bind_some hp; obtain ⟨y43, hy43, hp⟩ := hp
     obtain ⟨b46, o47, u48, hi44, hi45⟩ := Ctx.rdAt hc (k := 1) rfl rfl hrd1 hy43
     subst u48
     refine rs (v := .pointer (some ⟨b46, o47 + (j7).toNat * 1, none⟩)) (ixx rfl rfl Try.underlying23 Try.sizeOf21 hi44 hi45 rfl) rfl ?_
     replace hc := Ctx.rdCell hc (k := 1) rfl rfl hrd1 hy43; obtain ⟨cs49, hc, hcell50⟩ := hc
     replace hc := Ctx.holdC hc; obtain ⟨u51, hc⟩ := hc; subst u51
     refine rs (v := .int .i32 y43) (ld rfl Try.isAgg21 (hcell50 0 _ rfl)) rfl ?_
     refine rs (v := .int .i32 y43) (av (v := .int .i32 y43) rfl) rfl ?_
     refine rn ?_
     refine qn ?_
     refine Wreg ?_
     refine rs (v := .int .u64 j6) (mv (v := .int .u64 j6) rfl) rfl ?_
     refine rs (v := .int .i32 y43) (mv (v := .int .i32 y43) rfl) rfl ?_
     refine rs (v := .int .i32 (max y43 0)) (bmx rfl rfl Try.underlying21) rfl ?_
     refine rs (v := .int .u64 (IntKind.u64.wrap (max y43 0))) (cvi rfl Try.underlying21 Try.underlying52) rfl ?_
     refine rs (v := .int .u64 (IntKind.u64.wrap (j6 + (IntKind.u64.wrap (max y43 0))))) (adw rfl rfl) rfl ?_
     replace hp := bind_some hp; obtain ⟨e52, he52, hp⟩ := hp
     injection he52 with he52
     refine rs (v := .int .u64 e52) (av (v := .int .u64 e52) (by rw [← he52]; rfl)) rfl ?_
     refine rn ?_
     refine bn ?_
     refine qn ?_
     refine Wreg ?_
     refine rs (v := .int .i64 (IntKind.i64.wrap (j7 + 1))) (adw rfl rfl) rfl ?_
     refine rs (v := .int .i64 (IntKind.i64.wrap (j7 + 1))) (mv (v := .int .i64 (IntKind.i64.wrap (j7 + 1))) rfl) rfl ?_
     refine rn ?_
     refine qn ?_
     exact ⟨m1, Nat.lt_succ_self _, ⟨e52, (IntKind.i64.wrap (j7 + 1)), rfl, hp, hc⟩, (kl rfl k0)⟩

-- FN peloton/norm.tame
def norm_tame (x0 : Int) : Option (Int) :=
  (some (min (max (IntKind.i64.wrap x0) (-8388608)) 8388607)).bind fun e1 =>
  some e1

set_option maxHeartbeats 8000000 in
theorem norm_tame_any {x0 : Int} {Fr : List HP} {w : World} {r : Int} {K : Value → World → Prop}  (hc : Ctx w (Fr)) (hp : norm_tame x0 = some r)
    (k : ∀ w', Ctx w' (Fr) → K (.int .i64 r) w') : Calls Try.prog 26 #[.int .i32 x0] w (Ret K) := by
 unfold norm_tame at hp
 refine Center (args := [.int .i32 x0]) (l := [(0, .int .i32 x0)]) Try.func26 Try.ntmps26 rfl rfl rfl ?_
 refine Wseq ?_
 refine Wreg ?_
 refine rs (v := .int .i64 0) (av (v := .int .i64 0) rfl) rfl ?_
 refine rn ?_
 refine qn ?_
 refine Wseq ?_
 refine Wreg ?_
 refine rs (v := .int .i32 x0) (mv (v := .int .i32 x0) rfl) rfl ?_
 refine rs (v := .int .i64 (IntKind.i64.wrap x0)) (cvi rfl Try.underlying21 Try.underlying2) rfl ?_
 refine rs (v := .int .i64 (max (IntKind.i64.wrap x0) (-8388608))) (bmx rfl rfl Try.underlying2) rfl ?_
 refine rs (v := .int .i64 (min (max (IntKind.i64.wrap x0) (-8388608)) 8388607)) (bmn rfl rfl Try.underlying2) rfl ?_
 replace hp := bind_some hp; obtain ⟨e1, he1, hp⟩ := hp
 injection he1 with he1
 refine rs (v := .int .i64 e1) (av (v := .int .i64 e1) (by rw [← he1]; rfl)) rfl ?_
 refine rn ?_
 refine qn ?_
 refine Wret ?_
 injection hp with hp; subst hp
 refine f1 (v := .int .i64 e1) Try.results26 Try.ntmps26 rfl ?_
 exact ⟨_, rfl, k _ hc⟩

-- FN peloton/norm.square
def norm_square.L1 (x0 : (List Int)) : Nat → Int → Int → Option (Int)
  | 0, _, _ => none
  | m1 + 1, j1, j2 =>
    if j2 < ((x0.length : Nat) : Int) then
      (idx x0 j2).bind fun y7 =>
      (norm_tame y7).bind fun r16 =>
      (norm_tame y7).bind fun r18 =>
      (some (IntKind.u64.wrap (j1 + (IntKind.u64.wrap (IntKind.i64.wrap (r16 * r18)))))).bind fun e20 =>
      (norm_square.L1 x0 m1) e20 (IntKind.i64.wrap (j2 + 1))
    else
      chk ((IntKind.u64.wrap ((x0.length : Nat) : Int)) ≠ 0) <|
      (some (IntKind.u64.wrap (Int.tdiv j1 (IntKind.u64.wrap ((x0.length : Nat) : Int))))).bind fun e6 =>
      some e6

def norm_square (N : Nat) (x0 : (List Int)) : Option (Int) :=
  norm_square.L1 x0 N 0 0

set_option maxHeartbeats 8000000 in
theorem norm_square_any {N : Nat} {x0 : (List Int)} {ax0 : Option Addr} {nx0 : Nat} {qx0 : Nat} {P0 : HP} {Fr : List HP} {w : World} {r : Int} {K : Value → World → Prop} (hrd0 : Reads P0 (pInt .i32) (.slice ax0 nx0 qx0) x0) (hc : Ctx w (P0 :: Fr)) (hp : norm_square N x0 = some r)
    (k : ∀ w', Ctx w' (P0 :: Fr) → K (.int .u64 r) w') : Calls Try.prog 23 #[.slice ax0 nx0 qx0] w (Ret K) := by
 unfold norm_square at hp
 refine Center (args := [.slice ax0 nx0 qx0]) (l := [(0, .slice ax0 nx0 qx0)]) Try.func23 Try.ntmps23 rfl rfl rfl ?_
 obtain ⟨hn0, _⟩ := Ctx.rdLen hc (k := 0) rfl rfl hrd0; subst hn0
 refine Wseq ?_
 refine Wreg ?_
 refine rs (v := .int .u64 0) (av (v := .int .u64 0) rfl) rfl ?_
 refine rn ?_
 refine qn ?_
 refine Wseq ?_
 refine Wreg ?_
 refine rs (v := .int .u64 0) (av (v := .int .u64 0) rfl) rfl ?_
 refine rn ?_
 refine qn ?_
 refine Wseq ?_
 refine Wseq ?_
 refine Wreg ?_
 refine rs (v := .slice ax0 x0.length qx0) (mv (v := .slice ax0 x0.length qx0) rfl) rfl ?_
 refine rs (v := .int .i64 ((x0.length : Nat) : Int)) (ln rfl Try.underlying23) rfl ?_
 refine rs (v := .int .i64 0) (mv (v := .int .i64 0) rfl) rfl ?_
 refine rn ?_
 refine qn ?_
 refine Wblk ?_
 refine Wloop [3, 5, 8, 9, 10, 11, 12, 13, 14, 15, 16, 17, 18, 19, 20] [3, 8] (fun m vs w' => ∃ j1 : Int, ∃ j2 : Int, vs = [.int .u64 j1, .int .i64 j2] ∧ norm_square.L1 x0 m j1 j2 = some r ∧ Ctx w' (P0 :: Fr)) N ?_ ?_
 · exact ⟨0, 0, rfl, hp, hc⟩
 · clear hp hc; intro m vs u w3 hJ
   obtain ⟨j1, j2, rfl, hp, hc⟩ := hJ
   rcases m with _ | m1
   · cases (show none = some r from hp)
   rw [norm_square.L1] at hp
   refine Wseq ?_
   refine Wreg ?_
   refine rs (v := .bool (decide (j2 < ((x0.length : Nat) : Int)))) (lt' rfl rfl) rfl ?_
   refine rn ?_
   refine qn ?_
   refine Wseq ?_
   cases hb4 : (decide (j2 < ((x0.length : Nat) : Int)))
   · replace hp := gneg hp (of_decide_eq_false hb4)
     refine Wcf rfl ?_
     refine Wexit ?_
     refine qx ?_
     refine qx ?_
     refine be ?_
     refine qn ?_
     refine Wseq ?_
     refine Wreg ?_
     refine rs (v := .int .u64 j1) (mv (v := .int .u64 j1) rfl) rfl ?_
     refine rs (v := .slice ax0 x0.length qx0) (mv (v := .slice ax0 x0.length qx0) rfl) rfl ?_
     refine rs (v := .int .i64 ((x0.length : Nat) : Int)) (ln rfl Try.underlying23) rfl ?_
     refine rs (v := .int .u64 (IntKind.u64.wrap ((x0.length : Nat) : Int))) (cvi rfl Try.underlying3 Try.underlying52) rfl ?_
     replace hp := chk_some hp; obtain ⟨hg5, hp⟩ := hp
     refine rs (v := .int .u64 (IntKind.u64.wrap (Int.tdiv j1 (IntKind.u64.wrap ((x0.length : Nat) : Int))))) (quw rfl rfl hg5) rfl ?_
     replace hp := bind_some hp; obtain ⟨e6, he6, hp⟩ := hp
     injection he6 with he6
     refine rs (v := .int .u64 e6) (av (v := .int .u64 e6) (by rw [← he6]; rfl)) rfl ?_
     refine rn ?_
     refine qn ?_
     refine Wret ?_
     injection hp with hp; subst hp
     refine f1 (v := .int .u64 e6) Try.results23 Try.ntmps23 rfl ?_
     exact ⟨_, rfl, k _ hc⟩
   · replace hp := gpos hp (of_decide_eq_true hb4)
     refine Wct rfl ?_
     refine Wskip ?_
     refine qn ?_
     refine Wseq ?_
     refine Wblk ?_
     refine Wseq ?_
     refine Wreg ?_
     replace hp := bind_some hp; obtain ⟨y7, hy7, hp⟩ := hp
     obtain ⟨b10, o11, u12, hi8, hi9⟩ := Ctx.rdAt hc (k := 0) rfl rfl hrd0 hy7
     subst u12
     refine rs (v := .pointer (some ⟨b10, o11 + (j2).toNat * 1, none⟩)) (ixx rfl rfl Try.underlying23 Try.sizeOf21 hi8 hi9 rfl) rfl ?_
     replace hc := Ctx.rdCell hc (k := 0) rfl rfl hrd0 hy7; obtain ⟨cs13, hc, hcell14⟩ := hc
     replace hc := Ctx.holdC hc; obtain ⟨u15, hc⟩ := hc; subst u15
     refine rs (v := .int .i32 y7) (ld rfl Try.isAgg21 (hcell14 0 _ rfl)) rfl ?_
     refine rs (v := .int .i32 y7) (av (v := .int .i32 y7) rfl) rfl ?_
     refine rn ?_
     refine qn ?_
     refine Wreg ?_
     refine rs (v := .int .u64 j1) (mv (v := .int .u64 j1) rfl) rfl ?_
     refine rs (v := .int .i32 y7) (mv (v := .int .i32 y7) rfl) rfl ?_
     replace hp := bind_some hp; obtain ⟨r16, hr16, hp⟩ := hp
     refine rc (cl Try.call26 rfl rfl) rfl ?_
     refine norm_tame_any hc hr16 ?_
     clear hc; intro w17 hc
     refine rs (v := .int .i32 y7) (mv (v := .int .i32 y7) rfl) rfl ?_
     replace hp := bind_some hp; obtain ⟨r18, hr18, hp⟩ := hp
     refine rc (cl Try.call26 rfl rfl) rfl ?_
     refine norm_tame_any hc hr18 ?_
     clear hc; intro w19 hc
     refine rs (v := .int .i64 (IntKind.i64.wrap (r16 * r18))) (mlw rfl rfl) rfl ?_
     refine rs (v := .int .u64 (IntKind.u64.wrap (IntKind.i64.wrap (r16 * r18)))) (cvi rfl Try.underlying2 Try.underlying52) rfl ?_
     refine rs (v := .int .u64 (IntKind.u64.wrap (j1 + (IntKind.u64.wrap (IntKind.i64.wrap (r16 * r18)))))) (adw rfl rfl) rfl ?_
     replace hp := bind_some hp; obtain ⟨e20, he20, hp⟩ := hp
     injection he20 with he20
     refine rs (v := .int .u64 e20) (av (v := .int .u64 e20) (by rw [← he20]; rfl)) rfl ?_
     refine rn ?_
     refine bn ?_
     refine qn ?_
     refine Wreg ?_
     refine rs (v := .int .i64 (IntKind.i64.wrap (j2 + 1))) (adw rfl rfl) rfl ?_
     refine rs (v := .int .i64 (IntKind.i64.wrap (j2 + 1))) (mv (v := .int .i64 (IntKind.i64.wrap (j2 + 1))) rfl) rfl ?_
     refine rn ?_
     refine qn ?_
     exact ⟨m1, Nat.lt_succ_self _, ⟨e20, (IntKind.i64.wrap (j2 + 1)), rfl, hp, hc⟩, (kl rfl k0)⟩

-- FN peloton/norm.Norm
def norm_Norm.L1 (x0 : (List Int)) (x1 : (List Int)) (r6 : (Int)) : Nat → (List Int) → Int → Option ((List Int) × Int)
  | 0, _, _ => none
  | m1 + 1, j13, j17 =>
    if j17 < ((x1.length : Nat) : Int) then
      (idx x1 j17).bind fun y20 =>
      (norm_tame y20).bind fun r30 =>
      (idx x0 j17).bind fun y32 =>
      (round_Shift (IntKind.i64.wrap ((IntKind.i64.wrap (r30 * (IntKind.i64.wrap r6))) * (IntKind.i64.wrap y32))) 23).bind fun r41 =>
      (round_Sat8 r41).bind fun r43 =>
      (idx j13 j17).bind fun y45 =>
      (norm_Norm.L1 x0 x1 r6 m1) (j13.set (j17).toNat r43) (IntKind.i64.wrap (j17 + 1))
    else
      some (j13, 0)

def norm_Norm (N : Nat) (x0 : (List Int)) (x1 : (List Int)) : Option ((List Int) × Int) :=
  if ((x0.length : Nat) : Int) ≠ ((x1.length : Nat) : Int) then
    some ([], 30)
  else
    if ((x1.length : Nat) : Int) > 4096 then
      some ([], 30)
    else
      if ((x1.length : Nat) : Int) = 0 then
        some ([], 0)
      else
        (norm_square N x1).bind fun r4 =>
        (curve_Inverse N r4).bind fun r6 =>
        chk (0 ≤ ((x1.length : Nat) : Int) ∧ ((x1.length : Nat) : Int) ≤ 4294967296) <|
        norm_Norm.L1 x0 x1 r6 N (List.replicate (((x1.length : Nat) : Int)).toNat 0) 0

set_option maxHeartbeats 8000000 in
theorem norm_Norm_any {N : Nat} {x0 : (List Int)} {ax0 : Option Addr} {nx0 : Nat} {qx0 : Nat} {P0 : HP} {x1 : (List Int)} {ax1 : Option Addr} {nx1 : Nat} {qx1 : Nat} {P1 : HP} {Fr : List HP} {w : World} {r : (List Int) × Int} {K : Value → World → Prop} (hrd0 : Reads P0 (pInt .i8) (.slice ax0 nx0 qx0) x0) (hrd1 : Reads P1 (pInt .i32) (.slice ax1 nx1 qx1) x1) (hc : Ctx w (P0 :: P1 :: Fr)) (hp : norm_Norm N x0 x1 = some r)
    (k : ∀ (a52 : Option Addr) (n53 : Nat) (q54 : Nat) w', Ctx w' (Own (pInt .i8) 38 (.slice a52 n53 q54) r.1 :: P0 :: P1 :: Fr) → K (.tuple #[.slice a52 n53 q54, .int .i64 r.2]) w') : Calls Try.prog 11 #[.slice ax0 nx0 qx0, .slice ax1 nx1 qx1] w (Ret K) := by
 unfold norm_Norm at hp
 refine Center (args := [.slice ax0 nx0 qx0, .slice ax1 nx1 qx1]) (l := [(0, .slice ax0 nx0 qx0), (1, .slice ax1 nx1 qx1)]) Try.func11 Try.ntmps11 rfl rfl rfl ?_
 obtain ⟨hn0, _⟩ := Ctx.rdLen hc (k := 0) rfl rfl hrd0; subst hn0
 obtain ⟨hn1, _⟩ := Ctx.rdLen hc (k := 1) rfl rfl hrd1; subst hn1
 refine Wseq ?_
 refine Wreg ?_
 refine rs (v := .slice none 0 0) (av (v := .slice none 0 0) rfl) rfl ?_
 refine rs (v := .int .i64 0) (av (v := .int .i64 0) rfl) rfl ?_
 refine rn ?_
 refine qn ?_
 refine Wseq ?_
 refine Wseq ?_
 refine Wreg ?_
 refine rs (v := .slice ax0 x0.length qx0) (mv (v := .slice ax0 x0.length qx0) rfl) rfl ?_
 refine rs (v := .int .i64 ((x0.length : Nat) : Int)) (ln rfl Try.underlying22) rfl ?_
 refine rs (v := .slice ax1 x1.length qx1) (mv (v := .slice ax1 x1.length qx1) rfl) rfl ?_
 refine rs (v := .int .i64 ((x1.length : Nat) : Int)) (ln rfl Try.underlying23) rfl ?_
 refine rs (v := .bool (decide (((x0.length : Nat) : Int) ≠ ((x1.length : Nat) : Int)))) (ned rfl rfl) rfl ?_
 refine rs (v := .bool (decide (((x0.length : Nat) : Int) ≠ ((x1.length : Nat) : Int)))) (mv (v := .bool (decide (((x0.length : Nat) : Int) ≠ ((x1.length : Nat) : Int)))) rfl) rfl ?_
 cases hb1 : (decide (((x0.length : Nat) : Int) ≠ ((x1.length : Nat) : Int)))
 · replace hp := gneg hp (of_decide_eq_false hb1)
   refine rs (v := .slice ax1 x1.length qx1) (mv (v := .slice ax1 x1.length qx1) rfl) rfl ?_
   refine rs (v := .int .i64 ((x1.length : Nat) : Int)) (ln rfl Try.underlying23) rfl ?_
   refine rs (v := .bool (decide (((x1.length : Nat) : Int) > 4096))) (gt' rfl rfl) rfl ?_
   refine rs (v := .bool (decide (((x1.length : Nat) : Int) > 4096))) (pkf (v := .bool (decide (((x1.length : Nat) : Int) > 4096))) rfl rfl) rfl ?_
   refine rn ?_
   refine qn ?_
   cases hb2 : (decide (((x1.length : Nat) : Int) > 4096))
   · replace hp := gneg hp (of_decide_eq_false hb2)
     refine Wcf rfl ?_
     refine Wskip ?_
     refine qn ?_
     refine Wseq ?_
     refine Wseq ?_
     refine Wreg ?_
     refine rs (v := .slice ax1 x1.length qx1) (mv (v := .slice ax1 x1.length qx1) rfl) rfl ?_
     refine rs (v := .int .i64 ((x1.length : Nat) : Int)) (ln rfl Try.underlying23) rfl ?_
     refine rs (v := .bool (decide (((x1.length : Nat) : Int) = 0))) (eqd rfl rfl) rfl ?_
     refine rn ?_
     refine qn ?_
     cases hb3 : (decide (((x1.length : Nat) : Int) = 0))
     · replace hp := gneg hp (of_decide_eq_false hb3)
       refine Wcf rfl ?_
       refine Wskip ?_
       refine qn ?_
       refine Wseq ?_
       refine Wreg ?_
       refine rs (v := .slice ax1 x1.length qx1) (mv (v := .slice ax1 x1.length qx1) rfl) rfl ?_
       replace hp := bind_some hp; obtain ⟨r4, hr4, hp⟩ := hp
       replace hc := hc.pull 1 rfl rfl
       refine rc (cl Try.call23 rfl rfl) rfl ?_
       refine norm_square_any hrd1 hc hr4 ?_
       clear hc; intro w5 hc
       replace hp := bind_some hp; obtain ⟨r6, hr6, hp⟩ := hp
       refine rc (cl Try.call22 rfl rfl) rfl ?_
       refine curve_Inverse_any hc hr6 ?_
       clear hc; intro w7 hc
       refine rs (v := .int .i64 (IntKind.i64.wrap r6)) (cvi rfl Try.underlying52 Try.underlying2) rfl ?_
       refine rs (v := .int .i64 (IntKind.i64.wrap r6)) (av (v := .int .i64 (IntKind.i64.wrap r6)) rfl) rfl ?_
       refine rn ?_
       refine qn ?_
       refine Wseq ?_
       refine Wreg ?_
       refine rs (v := .slice ax1 x1.length qx1) (mv (v := .slice ax1 x1.length qx1) rfl) rfl ?_
       refine rs (v := .int .i64 ((x1.length : Nat) : Int)) (ln rfl Try.underlying23) rfl ?_
       replace hp := chk_some hp; obtain ⟨hg8, hp⟩ := hp
       have hm10 : ((((x1.length : Nat) : Int)).toNat : Int) = ((x1.length : Nat) : Int) := Int.toNat_of_nonneg hg8.1
       refine rsE (Ctx.make (n := (((x1.length : Nat) : Int)).toNat) (E := (pInt .i8)) (x0 := 0) hc (by rw [hm10]; rfl) (by rw [hm10]; rfl) Try.underlying22 (i := Try.t38) rfl rfl rfl rfl rfl rfl (fun _ _ => rfl) (by omega)) rfl ?_
       clear hc; rintro _ w12 ⟨a9, rfl, hc⟩
       refine rs (v := .slice a9 ((((x1.length : Nat) : Int)).toNat) ((((x1.length : Nat) : Int)).toNat)) (av (v := .slice a9 ((((x1.length : Nat) : Int)).toNat) ((((x1.length : Nat) : Int)).toNat)) rfl) rfl ?_
       refine rn ?_
       refine qn ?_
       refine Wseq ?_
       refine Wseq ?_
       refine Wreg ?_
       refine rs (v := .slice ax1 x1.length qx1) (mv (v := .slice ax1 x1.length qx1) rfl) rfl ?_
       refine rs (v := .int .i64 ((x1.length : Nat) : Int)) (ln rfl Try.underlying23) rfl ?_
       refine rs (v := .int .i64 0) (mv (v := .int .i64 0) rfl) rfl ?_
       refine rn ?_
       refine qn ?_
       refine Wblk ?_
       refine Wloop [8, 9, 32, 33, 34, 35, 36, 37, 38, 39, 40, 41, 42, 43, 44, 45, 46, 47, 48, 49, 50, 51, 52] [32] (fun m vs w' => ∃ j13 : (List Int), ∃ j17 : Int, vs = [.int .i64 j17] ∧ norm_Norm.L1 x0 x1 r6 m j13 j17 = some r ∧ Ctx w' (Own (pInt .i8) 38 (.slice a9 ((((x1.length : Nat) : Int)).toNat) ((((x1.length : Nat) : Int)).toNat)) j13 :: P1 :: P0 :: Fr)) N ?_ ?_
       · exact ⟨(List.replicate (((x1.length : Nat) : Int)).toNat 0), 0, rfl, hp, hc⟩
       · clear hp hc; intro m vs u w18 hJ
         obtain ⟨j13, j17, rfl, hp, hc⟩ := hJ
         rcases m with _ | m1
         · cases (show none = some r from hp)
         rw [norm_Norm.L1] at hp
         refine Wseq ?_
         refine Wreg ?_
         refine rs (v := .bool (decide (j17 < ((x1.length : Nat) : Int)))) (lt' rfl rfl) rfl ?_
         refine rn ?_
         refine qn ?_
         refine Wseq ?_
         cases hb19 : (decide (j17 < ((x1.length : Nat) : Int)))
         · replace hp := gneg hp (of_decide_eq_false hb19)
           refine Wcf rfl ?_
           refine Wexit ?_
           refine qx ?_
           refine qx ?_
           refine be ?_
           refine qn ?_
           refine Wseq ?_
           refine Wreg ?_
           refine rs (v := .slice a9 ((((x1.length : Nat) : Int)).toNat) ((((x1.length : Nat) : Int)).toNat)) (mv (v := .slice a9 ((((x1.length : Nat) : Int)).toNat) ((((x1.length : Nat) : Int)).toNat)) rfl) rfl ?_
           refine rs (v := .slice a9 ((((x1.length : Nat) : Int)).toNat) ((((x1.length : Nat) : Int)).toNat)) (av (v := .slice a9 ((((x1.length : Nat) : Int)).toNat) ((((x1.length : Nat) : Int)).toNat)) rfl) rfl ?_
           refine rs (v := .int .i64 0) (av (v := .int .i64 0) rfl) rfl ?_
           refine rn ?_
           refine qn ?_
           refine Wret ?_
           replace hc := hc.pull 1 rfl rfl
           replace hc := hc.pull 2 rfl rfl
           replace hc := hc.pull 2 rfl rfl
           injection hp with hp; subst hp
           refine f2 (v := .slice a9 ((((x1.length : Nat) : Int)).toNat) ((((x1.length : Nat) : Int)).toNat)) (u := .int .i64 0) Try.results11 Try.ntmps11 rfl rfl ?_
           exact ⟨_, rfl, k _ _ _ _ hc⟩
         · replace hp := gpos hp (of_decide_eq_true hb19)
           refine Wct rfl ?_
           refine Wskip ?_
           refine qn ?_
           refine Wseq ?_
           refine Wblk ?_
           refine Wseq ?_
           refine Wreg ?_
           refine rs (v := .int .i64 j17) (mv (v := .int .i64 j17) rfl) rfl ?_
           replace hp := bind_some hp; obtain ⟨y20, hy20, hp⟩ := hp
           obtain ⟨b23, o24, u25, hi21, hi22⟩ := Ctx.rdAt hc (k := 1) rfl rfl hrd1 hy20
           subst u25
           refine rs (v := .pointer (some ⟨b23, o24 + (j17).toNat * 1, none⟩)) (ixx rfl rfl Try.underlying23 Try.sizeOf21 hi21 hi22 rfl) rfl ?_
           replace hc := Ctx.rdCell hc (k := 1) rfl rfl hrd1 hy20; obtain ⟨cs26, hc, hcell27⟩ := hc
           replace hc := Ctx.holdC hc; obtain ⟨u28, hc⟩ := hc; subst u28
           refine rs (v := .int .i32 y20) (ld rfl Try.isAgg21 (hcell27 0 _ rfl)) rfl ?_
           refine rs (v := .int .i64 j17) (av (v := .int .i64 j17) rfl) rfl ?_
           refine rs (v := .int .i32 y20) (av (v := .int .i32 y20) rfl) rfl ?_
           refine rn ?_
           refine qn ?_
           replace hc := hc.drew
           have hF : ∀ j, free [0, 0, 0, 4, 0, 28, 0, 0, 192, 448, 960, 2044, 4092, 8188, 16383, 32767] 0 j = true → (fun j w' => (j = 9 → PinRow (pInt .i8) ax0 x0 w') ∧ True) j (World.drew w18) := fun j hj => ⟨fun _ => PinRow.of hc (k := 2) rfl rfl hrd0 (fun _ _ _ _ _ _ _ h1 h2 => h1.trans h2.symm), trivial⟩
           refine Wdrw (fun j w' => (j = 9 → PinRow (pInt .i8) ax0 x0 w') ∧ True) [0, 0, 0, 4, 0, 28, 0, 0, 192, 448, 960, 2044, 4092, 8188, 16383, 32767] 0 0 rfl (by kernel_rfl) (hF) ?_
           generalize hw : World.drew w18 = w29 at *
           clear hw
           refine ds (v := .slice a9 ((((x1.length : Nat) : Int)).toNat) ((((x1.length : Nat) : Int)).toNat)) rfl (fun w' hF => mv (v := .slice a9 ((((x1.length : Nat) : Int)).toNat) ((((x1.length : Nat) : Int)).toNat)) rfl) rfl ?_
           refine ds (v := .int .i64 j17) rfl (fun w' hF => mv (v := .int .i64 j17) rfl) rfl ?_
           refine ds (v := .int .i32 y20) rfl (fun w' hF => mv (v := .int .i32 y20) rfl) rfl ?_
           replace hp := bind_some hp; obtain ⟨r30, hr30, hp⟩ := hp
           refine dc (cl Try.call26 rfl rfl) rfl rfl ?_
           refine norm_tame_any hc hr30 ?_
           clear hc; intro w31 hc
           refine ⟨fun j hj hb => ⟨fun _ => PinRow.of hc (k := 2) rfl rfl hrd0 (fun _ _ _ _ _ _ _ h1 h2 => h1.trans h2.symm), trivial⟩, ?_⟩
           refine ds (v := .int .i64 (IntKind.i64.wrap r6)) rfl (fun w' hF => mv (v := .int .i64 (IntKind.i64.wrap r6)) rfl) rfl ?_
           refine ds (v := .int .i64 (IntKind.i64.wrap (r30 * (IntKind.i64.wrap r6)))) rfl (fun w' hF => mlw rfl rfl) rfl ?_
           refine ds (v := .slice ax0 x0.length qx0) rfl (fun w' hF => mv (v := .slice ax0 x0.length qx0) rfl) rfl ?_
           refine ds (v := .int .i64 j17) rfl (fun w' hF => mv (v := .int .i64 j17) rfl) rfl ?_
           replace hp := bind_some hp; obtain ⟨y32, hy32, hp⟩ := hp
           obtain ⟨b35, o36, u37, hi33, hi34⟩ := Ctx.rdAt hc (k := 2) rfl rfl hrd0 hy32
           subst u37
           refine ds (v := .pointer (some ⟨b35, o36 + (j17).toNat * 1, none⟩)) rfl (fun w' hF => ixx rfl rfl Try.underlying22 Try.sizeOf38 hi33 hi34 rfl) rfl ?_
           replace hc := Ctx.rdCell hc (k := 2) rfl rfl hrd0 hy32; obtain ⟨cs38, hc, hcell39⟩ := hc
           replace hc := Ctx.holdC hc; obtain ⟨u40, hc⟩ := hc; subst u40
           refine ds (v := .int .i8 y32) rfl (fun w' hF => ld rfl Try.isAgg38 ((hF.1 rfl) _ _ _ _ hy32 rfl w' (fun _ => True) _ rfl 0 _ rfl)) rfl ?_
           refine ds (v := .int .i64 (IntKind.i64.wrap y32)) rfl (fun w' hF => cvi rfl Try.underlying38 Try.underlying2) rfl ?_
           refine ds (v := .int .i64 (IntKind.i64.wrap ((IntKind.i64.wrap (r30 * (IntKind.i64.wrap r6))) * (IntKind.i64.wrap y32)))) rfl (fun w' hF => mlw rfl rfl) rfl ?_
           replace hp := bind_some hp; obtain ⟨r41, hr41, hp⟩ := hp
           refine dc (cl Try.call25 rfl rfl) rfl rfl ?_
           refine round_Shift_any hc hr41 ?_
           clear hc; intro w42 hc
           refine ⟨fun j hj hb => ⟨fun e => (by subst e; exact absurd hj (by decide)), trivial⟩, ?_⟩
           replace hp := bind_some hp; obtain ⟨r43, hr43, hp⟩ := hp
           refine dc (cl Try.call24 rfl rfl) rfl rfl ?_
           refine round_Sat8_any hc hr43 ?_
           clear hc; intro w44 hc
           refine ⟨fun j hj hb => ⟨fun e => (by subst e; exact absurd hj (by decide)), trivial⟩, ?_⟩
           replace hp := bind_some hp; obtain ⟨y45, hy45, hp⟩ := hp
           obtain ⟨b48, o49, u50, hi46, hi47⟩ := Ctx.rdAt hc (k := 0) rfl rfl reads_own hy45
           subst u50
           refine ds (v := .pointer (some ⟨b48, o49 + (j17).toNat * 1, none⟩)) rfl (fun w' hF => ixx rfl rfl Try.underlying22 Try.sizeOf38 hi46 hi47 rfl) rfl ?_
           refine duE (A := fun w' => Ctx w' (Own (pInt .i8) 38 (.slice (some ⟨b48, o49, none⟩) ((((x1.length : Nat) : Int)).toNat) ((((x1.length : Nat) : Int)).toNat)) (j13.set (j17).toNat r43) :: P1 :: P0 :: Fr)) (Ctx.ownPutOp hc (k := 0) rfl rfl (z := y45) (z' := r43) hy45 0 rfl (u := .int .i8 r43) rfl rfl rfl Try.sizeOf38 (fun _ _ _ h => by cases h; rfl) rfl) rfl rfl ?_
           clear hc; rintro w51 hc
           refine ⟨fun j hj hb => ⟨fun e => (by subst e; exact absurd hj (by decide)), trivial⟩, ?_⟩
           refine dn ?_
           refine bn ?_
           refine qn ?_
           refine Wreg ?_
           refine rs (v := .int .i64 (IntKind.i64.wrap (j17 + 1))) (adw rfl rfl) rfl ?_
           refine rs (v := .int .i64 (IntKind.i64.wrap (j17 + 1))) (mv (v := .int .i64 (IntKind.i64.wrap (j17 + 1))) rfl) rfl ?_
           refine rn ?_
           refine qn ?_
           exact ⟨m1, Nat.lt_succ_self _, ⟨(j13.set (j17).toNat r43), (IntKind.i64.wrap (j17 + 1)), rfl, hp, hc⟩, (kl rfl k0)⟩
     · replace hp := gpos hp (of_decide_eq_true hb3)
       refine Wct rfl ?_
       refine Wseq ?_
       refine Wreg ?_
       refine rs (v := .slice none 0 0) (av (v := .slice none 0 0) rfl) rfl ?_
       refine rs (v := .int .i64 0) (av (v := .int .i64 0) rfl) rfl ?_
       refine rn ?_
       refine qn ?_
       refine Wret ?_
       refine qr ?_
       replace hc := hc.nilOwn (pInt .i8) 38
       injection hp with hp; subst hp
       refine f2 (v := .slice none 0 0) (u := .int .i64 0) Try.results11 Try.ntmps11 rfl rfl ?_
       exact ⟨_, rfl, k _ _ _ _ hc⟩
   · replace hp := gpos hp (of_decide_eq_true hb2)
     refine Wct rfl ?_
     refine Wseq ?_
     refine Wreg ?_
     refine rs (v := .slice none 0 0) (av (v := .slice none 0 0) rfl) rfl ?_
     refine rs (v := .int .i64 30) (av (v := .int .i64 30) rfl) rfl ?_
     refine rn ?_
     refine qn ?_
     refine Wret ?_
     refine qr ?_
     replace hc := hc.nilOwn (pInt .i8) 38
     injection hp with hp; subst hp
     refine f2 (v := .slice none 0 0) (u := .int .i64 30) Try.results11 Try.ntmps11 rfl rfl ?_
     exact ⟨_, rfl, k _ _ _ _ hc⟩
 · replace hp := gpos hp (of_decide_eq_true hb1)
   refine r0 rfl ?_
   refine r0 rfl ?_
   refine r0 rfl ?_
   refine rs (v := .bool true) (pkt (v := .bool true) rfl rfl) rfl ?_
   refine rn ?_
   refine qn ?_
   refine Wct rfl ?_
   refine Wseq ?_
   refine Wreg ?_
   refine rs (v := .slice none 0 0) (av (v := .slice none 0 0) rfl) rfl ?_
   refine rs (v := .int .i64 30) (av (v := .int .i64 30) rfl) rfl ?_
   refine rn ?_
   refine qn ?_
   refine Wret ?_
   refine qr ?_
   replace hc := hc.nilOwn (pInt .i8) 38
   injection hp with hp; subst hp
   refine f2 (v := .slice none 0 0) (u := .int .i64 30) Try.results11 Try.ntmps11 rfl rfl ?_
   exact ⟨_, rfl, k _ _ _ _ hc⟩

-- FN peloton/norm.Softmax
def norm_Softmax.L1 (N : Nat) (x0 : Int) (x1 : Int) (x2 : (List Int)) (r2 : (Int)) : Nat → (List Int) → Int → Option ((List Int))
  | 0, _, _ => none
  | m1 + 1, j9, j13 =>
    if j13 < ((x2.length : Nat) : Int) then
      (idx x2 j13).bind fun y22 =>
      (round_Shift (IntKind.i64.wrap ((IntKind.i64.wrap ((IntKind.i64.wrap y22) - (IntKind.i64.wrap r2))) * (IntKind.i64.wrap x0))) x1).bind fun r31 =>
      (curve_Exp r31).bind fun r33 =>
      (idx j9 j13).bind fun y35 =>
      (norm_Softmax.L1 N x0 x1 x2 r2 m1) (j9.set (j13).toNat r33) (IntKind.i64.wrap (j13 + 1))
    else
      (curve_Shares N 65536 j9).bind fun r16 =>
      some r16

def norm_Softmax (N : Nat) (x0 : Int) (x1 : Int) (x2 : (List Int)) : Option ((List Int)) :=
  if ((x2.length : Nat) : Int) = 0 then
    some ([])
  else
    (slices_Max_s_int32_int32 N x2).bind fun r2 =>
    chk (0 ≤ ((x2.length : Nat) : Int) ∧ ((x2.length : Nat) : Int) ≤ 4294967296) <|
    norm_Softmax.L1 N x0 x1 x2 r2 N (List.replicate (((x2.length : Nat) : Int)).toNat 0) 0

set_option maxHeartbeats 8000000 in
theorem norm_Softmax_any {N : Nat} {x0 : Int} {x1 : Int} {x2 : (List Int)} {ax2 : Option Addr} {nx2 : Nat} {qx2 : Nat} {P2 : HP} {Fr : List HP} {w : World} {r : (List Int)} {K : Value → World → Prop} (hrd2 : Reads P2 (pInt .i32) (.slice ax2 nx2 qx2) x2) (hc : Ctx w (P2 :: Fr)) (hp : norm_Softmax N x0 x1 x2 = some r)
    (k : ∀ (a42 : Option Addr) (n43 : Nat) (q44 : Nat) w', Ctx w' (Own (pInt .i32) 21 (.slice a42 n43 q44) r :: P2 :: Fr) → K (.slice a42 n43 q44) w') : Calls Try.prog 15 #[.int .i32 x0, .int .i64 x1, .slice ax2 nx2 qx2] w (Ret K) := by
 unfold norm_Softmax at hp
 refine Center (args := [.int .i32 x0, .int .i64 x1, .slice ax2 nx2 qx2]) (l := [(0, .int .i32 x0), (1, .int .i64 x1), (2, .slice ax2 nx2 qx2)]) Try.func15 Try.ntmps15 rfl rfl rfl ?_
 obtain ⟨hn2, _⟩ := Ctx.rdLen hc (k := 0) rfl rfl hrd2; subst hn2
 refine Wseq ?_
 refine Wreg ?_
 refine rs (v := .slice none 0 0) (av (v := .slice none 0 0) rfl) rfl ?_
 refine rn ?_
 refine qn ?_
 refine Wseq ?_
 refine Wseq ?_
 refine Wreg ?_
 refine rs (v := .slice ax2 x2.length qx2) (mv (v := .slice ax2 x2.length qx2) rfl) rfl ?_
 refine rs (v := .int .i64 ((x2.length : Nat) : Int)) (ln rfl Try.underlying23) rfl ?_
 refine rs (v := .bool (decide (((x2.length : Nat) : Int) = 0))) (eqd rfl rfl) rfl ?_
 refine rn ?_
 refine qn ?_
 cases hb1 : (decide (((x2.length : Nat) : Int) = 0))
 · replace hp := gneg hp (of_decide_eq_false hb1)
   refine Wcf rfl ?_
   refine Wskip ?_
   refine qn ?_
   refine Wseq ?_
   refine Wreg ?_
   refine rs (v := .slice ax2 x2.length qx2) (mv (v := .slice ax2 x2.length qx2) rfl) rfl ?_
   replace hp := bind_some hp; obtain ⟨r2, hr2, hp⟩ := hp
   refine rc (cl Try.call30 rfl rfl) rfl ?_
   refine slices_Max_s_int32_int32_any hrd2 hc hr2 ?_
   clear hc; intro w3 hc
   refine rs (v := .int .i64 (IntKind.i64.wrap r2)) (cvi rfl Try.underlying21 Try.underlying2) rfl ?_
   refine rs (v := .int .i64 (IntKind.i64.wrap r2)) (av (v := .int .i64 (IntKind.i64.wrap r2)) rfl) rfl ?_
   refine rn ?_
   refine qn ?_
   refine Wseq ?_
   refine Wreg ?_
   refine rs (v := .slice ax2 x2.length qx2) (mv (v := .slice ax2 x2.length qx2) rfl) rfl ?_
   refine rs (v := .int .i64 ((x2.length : Nat) : Int)) (ln rfl Try.underlying23) rfl ?_
   replace hp := chk_some hp; obtain ⟨hg4, hp⟩ := hp
   have hm6 : ((((x2.length : Nat) : Int)).toNat : Int) = ((x2.length : Nat) : Int) := Int.toNat_of_nonneg hg4.1
   refine rsE (Ctx.make (n := (((x2.length : Nat) : Int)).toNat) (E := (pInt .i32)) (x0 := 0) hc (by rw [hm6]; rfl) (by rw [hm6]; rfl) Try.underlying23 (i := Try.t21) rfl rfl rfl rfl rfl rfl (fun _ _ => rfl) (by omega)) rfl ?_
   clear hc; rintro _ w8 ⟨a5, rfl, hc⟩
   refine rs (v := .slice a5 ((((x2.length : Nat) : Int)).toNat) ((((x2.length : Nat) : Int)).toNat)) (av (v := .slice a5 ((((x2.length : Nat) : Int)).toNat) ((((x2.length : Nat) : Int)).toNat)) rfl) rfl ?_
   refine rn ?_
   refine qn ?_
   refine Wseq ?_
   refine Wseq ?_
   refine Wreg ?_
   refine rs (v := .slice ax2 x2.length qx2) (mv (v := .slice ax2 x2.length qx2) rfl) rfl ?_
   refine rs (v := .int .i64 ((x2.length : Nat) : Int)) (ln rfl Try.underlying23) rfl ?_
   refine rs (v := .int .i64 0) (mv (v := .int .i64 0) rfl) rfl ?_
   refine rn ?_
   refine qn ?_
   refine Wblk ?_
   refine Wloop [9, 10, 22, 23, 24, 25, 26, 27, 28, 29, 30, 31, 32, 33, 34, 35, 36, 37, 38, 39, 40] [22] (fun m vs w' => ∃ j9 : (List Int), ∃ j13 : Int, vs = [.int .i64 j13] ∧ norm_Softmax.L1 N x0 x1 x2 r2 m j9 j13 = some r ∧ Ctx w' (Own (pInt .i32) 21 (.slice a5 ((((x2.length : Nat) : Int)).toNat) ((((x2.length : Nat) : Int)).toNat)) j9 :: P2 :: Fr)) N ?_ ?_
   · exact ⟨(List.replicate (((x2.length : Nat) : Int)).toNat 0), 0, rfl, hp, hc⟩
   · clear hp hc; intro m vs u w14 hJ
     obtain ⟨j9, j13, rfl, hp, hc⟩ := hJ
     rcases m with _ | m1
     · cases (show none = some r from hp)
     rw [norm_Softmax.L1] at hp
     refine Wseq ?_
     refine Wreg ?_
     refine rs (v := .bool (decide (j13 < ((x2.length : Nat) : Int)))) (lt' rfl rfl) rfl ?_
     refine rn ?_
     refine qn ?_
     refine Wseq ?_
     cases hb15 : (decide (j13 < ((x2.length : Nat) : Int)))
     · replace hp := gneg hp (of_decide_eq_false hb15)
       refine Wcf rfl ?_
       refine Wexit ?_
       refine qx ?_
       refine qx ?_
       refine be ?_
       refine qn ?_
       refine Wseq ?_
       refine Wreg ?_
       refine rs (v := .slice a5 ((((x2.length : Nat) : Int)).toNat) ((((x2.length : Nat) : Int)).toNat)) (mv (v := .slice a5 ((((x2.length : Nat) : Int)).toNat) ((((x2.length : Nat) : Int)).toNat)) rfl) rfl ?_
       replace hp := bind_some hp; obtain ⟨r16, hr16, hp⟩ := hp
       refine rc (cl Try.call32 rfl rfl) rfl ?_
       refine curve_Shares_any reads_own hc hr16 ?_
       clear hc; intro a17 n18 q19 w20 hc
       obtain ⟨u21, _⟩ := Ctx.rdLen hc (k := 0) rfl rfl reads_own; subst u21
       refine rs (v := .slice a17 r16.length q19) (av (v := .slice a17 r16.length q19) rfl) rfl ?_
       refine rn ?_
       refine qn ?_
       refine Wret ?_
       replace hc := hc.rem 1 rfl rfl
       injection hp with hp; subst hp
       refine f1 (v := .slice a17 r16.length q19) Try.results15 Try.ntmps15 rfl ?_
       exact ⟨_, rfl, k _ _ _ _ hc⟩
     · replace hp := gpos hp (of_decide_eq_true hb15)
       refine Wct rfl ?_
       refine Wskip ?_
       refine qn ?_
       refine Wseq ?_
       refine Wblk ?_
       refine Wseq ?_
       refine Wreg ?_
       refine rs (v := .int .i64 j13) (mv (v := .int .i64 j13) rfl) rfl ?_
       replace hp := bind_some hp; obtain ⟨y22, hy22, hp⟩ := hp
       obtain ⟨b25, o26, u27, hi23, hi24⟩ := Ctx.rdAt hc (k := 1) rfl rfl hrd2 hy22
       subst u27
       refine rs (v := .pointer (some ⟨b25, o26 + (j13).toNat * 1, none⟩)) (ixx rfl rfl Try.underlying23 Try.sizeOf21 hi23 hi24 rfl) rfl ?_
       replace hc := Ctx.rdCell hc (k := 1) rfl rfl hrd2 hy22; obtain ⟨cs28, hc, hcell29⟩ := hc
       replace hc := Ctx.holdC hc; obtain ⟨u30, hc⟩ := hc; subst u30
       refine rs (v := .int .i32 y22) (ld rfl Try.isAgg21 (hcell29 0 _ rfl)) rfl ?_
       refine rs (v := .int .i64 j13) (av (v := .int .i64 j13) rfl) rfl ?_
       refine rs (v := .int .i32 y22) (av (v := .int .i32 y22) rfl) rfl ?_
       refine rn ?_
       refine qn ?_
       refine Wreg ?_
       refine rs (v := .slice a5 ((((x2.length : Nat) : Int)).toNat) ((((x2.length : Nat) : Int)).toNat)) (mv (v := .slice a5 ((((x2.length : Nat) : Int)).toNat) ((((x2.length : Nat) : Int)).toNat)) rfl) rfl ?_
       refine rs (v := .int .i64 j13) (mv (v := .int .i64 j13) rfl) rfl ?_
       refine rs (v := .int .i32 y22) (mv (v := .int .i32 y22) rfl) rfl ?_
       refine rs (v := .int .i64 (IntKind.i64.wrap y22)) (cvi rfl Try.underlying21 Try.underlying2) rfl ?_
       refine rs (v := .int .i64 (IntKind.i64.wrap r2)) (mv (v := .int .i64 (IntKind.i64.wrap r2)) rfl) rfl ?_
       refine rs (v := .int .i64 (IntKind.i64.wrap ((IntKind.i64.wrap y22) - (IntKind.i64.wrap r2)))) (sbw rfl rfl) rfl ?_
       refine rs (v := .int .i32 x0) (mv (v := .int .i32 x0) rfl) rfl ?_
       refine rs (v := .int .i64 (IntKind.i64.wrap x0)) (cvi rfl Try.underlying21 Try.underlying2) rfl ?_
       refine rs (v := .int .i64 (IntKind.i64.wrap ((IntKind.i64.wrap ((IntKind.i64.wrap y22) - (IntKind.i64.wrap r2))) * (IntKind.i64.wrap x0)))) (mlw rfl rfl) rfl ?_
       refine rs (v := .int .i64 x1) (mv (v := .int .i64 x1) rfl) rfl ?_
       replace hp := bind_some hp; obtain ⟨r31, hr31, hp⟩ := hp
       refine rc (cl Try.call25 rfl rfl) rfl ?_
       refine round_Shift_any hc hr31 ?_
       clear hc; intro w32 hc
       replace hp := bind_some hp; obtain ⟨r33, hr33, hp⟩ := hp
       refine rc (cl Try.call31 rfl rfl) rfl ?_
       refine curve_Exp_any hc hr33 ?_
       clear hc; intro w34 hc
       replace hp := bind_some hp; obtain ⟨y35, hy35, hp⟩ := hp
       obtain ⟨b38, o39, u40, hi36, hi37⟩ := Ctx.rdAt hc (k := 0) rfl rfl reads_own hy35
       subst u40
       refine rs (v := .pointer (some ⟨b38, o39 + (j13).toNat * 1, none⟩)) (ixx rfl rfl Try.underlying23 Try.sizeOf21 hi36 hi37 rfl) rfl ?_
       refine ruE (A := fun w' => Ctx w' (Own (pInt .i32) 21 (.slice (some ⟨b38, o39, none⟩) ((((x2.length : Nat) : Int)).toNat) ((((x2.length : Nat) : Int)).toNat)) (j9.set (j13).toNat r33) :: P2 :: Fr)) (Ctx.ownPutOp hc (k := 0) rfl rfl (z := y35) (z' := r33) hy35 0 rfl (u := .int .i32 r33) rfl rfl rfl Try.sizeOf21 (fun _ _ _ h => by cases h; rfl) rfl) rfl ?_
       clear hc; rintro w41 hc
       refine rn ?_
       refine bn ?_
       refine qn ?_
       refine Wreg ?_
       refine rs (v := .int .i64 (IntKind.i64.wrap (j13 + 1))) (adw rfl rfl) rfl ?_
       refine rs (v := .int .i64 (IntKind.i64.wrap (j13 + 1))) (mv (v := .int .i64 (IntKind.i64.wrap (j13 + 1))) rfl) rfl ?_
       refine rn ?_
       refine qn ?_
       exact ⟨m1, Nat.lt_succ_self _, ⟨(j9.set (j13).toNat r33), (IntKind.i64.wrap (j13 + 1)), rfl, hp, hc⟩, (kl rfl k0)⟩
 · replace hp := gpos hp (of_decide_eq_true hb1)
   refine Wct rfl ?_
   refine Wseq ?_
   refine Wreg ?_
   refine rs (v := .slice none 0 0) (av (v := .slice none 0 0) rfl) rfl ?_
   refine rn ?_
   refine qn ?_
   refine Wret ?_
   refine qr ?_
   replace hc := hc.nilOwn (pInt .i32) 21
   injection hp with hp; subst hp
   refine f1 (v := .slice none 0 0) Try.results15 Try.ntmps15 rfl ?_
   exact ⟨_, rfl, k _ _ _ _ hc⟩

-- FN peloton/norm.Mix
def norm_Mix.L2 (y3 : (List Int)) (j20 : (List Int)) : Nat → (List Int) → Int → Option ((List Int) × Int)
  | 0, _, _ => none
  | m2 + 1, j32, j36 =>
    if j36 < (((((y3.length : Nat) : Int)).toNat : Nat) : Int) then
      (idx j20 j36).bind fun y39 =>
      (round_Shift y39 16).bind fun r48 =>
      (round_Sat8 r48).bind fun r50 =>
      (idx j32 j36).bind fun y52 =>
      (norm_Mix.L2 y3 j20 m2) (j32.set (j36).toNat r50) (IntKind.i64.wrap (j36 + 1))
    else
      some (j32, 0)

def norm_Mix.L3 (x0 : (List Int)) (j24 : Int) (y59 : (List Int)) (k1 : (List Int) → Int → Option ((List Int) × Int)) : Nat → (List Int) → Int → Option ((List Int) × Int)
  | 0, _, _ => none
  | m3 + 1, j72, j76 =>
    if j76 < ((y59.length : Nat) : Int) then
      (idx y59 j76).bind fun y79 =>
      (idx j72 j76).bind fun y89 =>
      (idx x0 j24).bind fun y98 =>
      (idx j72 j76).bind fun y107 =>
      (norm_Mix.L3 x0 j24 y59 k1 m3) (j72.set (j76).toNat (IntKind.i64.wrap (y89 + (IntKind.i64.wrap ((IntKind.i64.wrap y98) * (IntKind.i64.wrap y79)))))) (IntKind.i64.wrap (j76 + 1))
    else
      k1 j72 (IntKind.i64.wrap (j24 + 1))

def norm_Mix.L1 (N : Nat) (x0 : (List Int)) (x1 : (List (List Int))) (y3 : (List Int)) : Nat → (List Int) → Int → Option ((List Int) × Int)
  | 0, _, _ => none
  | m1 + 1, j20, j24 =>
    if j24 < ((x1.length : Nat) : Int) then
      (idx x1 j24).bind fun y59 =>
      if ((y59.length : Nat) : Int) ≠ (((((y3.length : Nat) : Int)).toNat : Nat) : Int) then
        some ([], 30)
      else
        norm_Mix.L3 x0 j24 y59 (norm_Mix.L1 N x0 x1 y3 m1) N j20 0
    else
      chk (0 ≤ (((((y3.length : Nat) : Int)).toNat : Nat) : Int) ∧ (((((y3.length : Nat) : Int)).toNat : Nat) : Int) ≤ 4294967296) <|
      norm_Mix.L2 y3 j20 N (List.replicate ((((((y3.length : Nat) : Int)).toNat : Nat) : Int)).toNat 0) 0

def norm_Mix (N : Nat) (x0 : (List Int)) (x1 : (List (List Int))) : Option ((List Int) × Int) :=
  if ((x0.length : Nat) : Int) ≠ ((x1.length : Nat) : Int) then
    some ([], 30)
  else
    if ((x1.length : Nat) : Int) = 0 then
      some ([], 0)
    else
      (idx x1 (0 : Int)).bind fun y3 =>
      chk (0 ≤ ((y3.length : Nat) : Int) ∧ ((y3.length : Nat) : Int) ≤ 4294967296) <|
      norm_Mix.L1 N x0 x1 y3 N (List.replicate (((y3.length : Nat) : Int)).toNat 0) 0

set_option maxHeartbeats 8000000 in
theorem norm_Mix_any {N : Nat} {x0 : (List Int)} {ax0 : Option Addr} {nx0 : Nat} {qx0 : Nat} {P0 : HP} {x1 : (List (List Int))} {ax1 : Option Addr} {nx1 : Nat} {qx1 : Nat} {P1 : HP} {Fr : List HP} {w : World} {r : (List Int) × Int} {K : Value → World → Prop} (hrd0 : Reads P0 (pInt .i32) (.slice ax0 nx0 qx0) x0) (hrd1 : Reads P1 (pRo (pInt .i8)) (.slice ax1 nx1 qx1) x1) (hc : Ctx w (P0 :: P1 :: Fr)) (hp : norm_Mix N x0 x1 = some r)
    (k : ∀ (a114 : Option Addr) (n115 : Nat) (q116 : Nat) w', Ctx w' (Own (pInt .i8) 38 (.slice a114 n115 q116) r.1 :: P0 :: P1 :: Fr) → K (.tuple #[.slice a114 n115 q116, .int .i64 r.2]) w') : Calls Try.prog 18 #[.slice ax0 nx0 qx0, .slice ax1 nx1 qx1] w (Ret K) := by
 unfold norm_Mix at hp
 refine Center (args := [.slice ax0 nx0 qx0, .slice ax1 nx1 qx1]) (l := [(0, .slice ax0 nx0 qx0), (1, .slice ax1 nx1 qx1)]) Try.func18 Try.ntmps18 rfl rfl rfl ?_
 obtain ⟨hn0, _⟩ := Ctx.rdLen hc (k := 0) rfl rfl hrd0; subst hn0
 obtain ⟨hn1, _⟩ := Ctx.rdLen hc (k := 1) rfl rfl hrd1; subst hn1
 refine Wseq ?_
 refine Wreg ?_
 refine rs (v := .slice none 0 0) (av (v := .slice none 0 0) rfl) rfl ?_
 refine rs (v := .int .i64 0) (av (v := .int .i64 0) rfl) rfl ?_
 refine rn ?_
 refine qn ?_
 refine Wseq ?_
 refine Wseq ?_
 refine Wreg ?_
 refine rs (v := .slice ax0 x0.length qx0) (mv (v := .slice ax0 x0.length qx0) rfl) rfl ?_
 refine rs (v := .int .i64 ((x0.length : Nat) : Int)) (ln rfl Try.underlying23) rfl ?_
 refine rs (v := .slice ax1 x1.length qx1) (mv (v := .slice ax1 x1.length qx1) rfl) rfl ?_
 refine rs (v := .int .i64 ((x1.length : Nat) : Int)) (ln rfl Try.underlying40) rfl ?_
 refine rs (v := .bool (decide (((x0.length : Nat) : Int) ≠ ((x1.length : Nat) : Int)))) (ned rfl rfl) rfl ?_
 refine rn ?_
 refine qn ?_
 cases hb1 : (decide (((x0.length : Nat) : Int) ≠ ((x1.length : Nat) : Int)))
 · replace hp := gneg hp (of_decide_eq_false hb1)
   refine Wcf rfl ?_
   refine Wskip ?_
   refine qn ?_
   refine Wseq ?_
   refine Wseq ?_
   refine Wreg ?_
   refine rs (v := .slice ax1 x1.length qx1) (mv (v := .slice ax1 x1.length qx1) rfl) rfl ?_
   refine rs (v := .int .i64 ((x1.length : Nat) : Int)) (ln rfl Try.underlying40) rfl ?_
   refine rs (v := .bool (decide (((x1.length : Nat) : Int) = 0))) (eqd rfl rfl) rfl ?_
   refine rn ?_
   refine qn ?_
   cases hb2 : (decide (((x1.length : Nat) : Int) = 0))
   · replace hp := gneg hp (of_decide_eq_false hb2)
     refine Wcf rfl ?_
     refine Wskip ?_
     refine qn ?_
     refine Wseq ?_
     refine Wreg ?_
     refine rs (v := .slice ax1 x1.length qx1) (mv (v := .slice ax1 x1.length qx1) rfl) rfl ?_
     replace hp := bind_some hp; obtain ⟨y3, hy3, hp⟩ := hp
     obtain ⟨b6, o7, u8, hi4, hi5⟩ := Ctx.rdAt hc (k := 1) rfl rfl hrd1 hy3
     subst u8
     refine rs (v := .pointer (some ⟨b6, o7 + ((0 : Int)).toNat * 1, none⟩)) (ixx rfl rfl Try.underlying40 Try.sizeOf22 hi4 hi5 rfl) rfl ?_
     replace hc := Ctx.rdCell hc (k := 1) rfl rfl hrd1 hy3; obtain ⟨cs9, hc, hcell10⟩ := hc
     replace hc := Ctx.holdRo hc; obtain ⟨v14, u11, hc⟩ := hc; subst u11
     obtain ⟨a12, q13, u11⟩ := hc.rd (k := 0) rfl rfl reads_ro; subst u11
     refine rs (v := .slice a12 y3.length q13) (ld rfl Try.isAgg22 (hcell10 0 _ rfl)) rfl ?_
     refine rs (v := .int .i64 ((y3.length : Nat) : Int)) (ln rfl Try.underlying22) rfl ?_
     replace hp := chk_some hp; obtain ⟨hg15, hp⟩ := hp
     have hm17 : ((((y3.length : Nat) : Int)).toNat : Int) = ((y3.length : Nat) : Int) := Int.toNat_of_nonneg hg15.1
     refine rsE (Ctx.make (n := (((y3.length : Nat) : Int)).toNat) (E := (pInt .i64)) (x0 := 0) hc (by rw [hm17]; rfl) (by rw [hm17]; rfl) Try.underlying64 (i := Try.t2) rfl rfl rfl rfl rfl rfl (fun _ _ => rfl) (by omega)) rfl ?_
     clear hc; rintro _ w19 ⟨a16, rfl, hc⟩
     refine rs (v := .slice a16 ((((y3.length : Nat) : Int)).toNat) ((((y3.length : Nat) : Int)).toNat)) (av (v := .slice a16 ((((y3.length : Nat) : Int)).toNat) ((((y3.length : Nat) : Int)).toNat)) rfl) rfl ?_
     refine rn ?_
     refine qn ?_
     refine Wseq ?_
     refine Wseq ?_
     refine Wreg ?_
     refine rs (v := .slice (some ⟨b6, o7, none⟩) x1.length qx1) (mv (v := .slice (some ⟨b6, o7, none⟩) x1.length qx1) rfl) rfl ?_
     refine rs (v := .int .i64 ((x1.length : Nat) : Int)) (ln rfl Try.underlying40) rfl ?_
     refine rs (v := .int .i64 0) (mv (v := .int .i64 0) rfl) rfl ?_
     refine rn ?_
     refine qn ?_
     refine Wblk ?_
     replace hc := hc.rem 1 rfl rfl
     refine Wloop [4, 5, 7, 8, 9, 10, 29, 30, 31, 32, 33, 34, 35, 36, 37, 38, 39, 40, 41, 42, 43, 44, 45, 46, 47, 48, 49, 50, 51, 52, 53, 54, 55, 56, 57, 58, 59, 60, 61] [29] (fun m vs w' => ∃ j20 : (List Int), ∃ j24 : Int, vs = [.int .i64 j24] ∧ norm_Mix.L1 N x0 x1 y3 m j20 j24 = some r ∧ Ctx w' (Own (pInt .i64) 2 (.slice a16 ((((y3.length : Nat) : Int)).toNat) ((((y3.length : Nat) : Int)).toNat)) j20 :: P0 :: P1 :: Fr)) N ?_ ?_
     · exact ⟨(List.replicate (((y3.length : Nat) : Int)).toNat 0), 0, rfl, hp, hc⟩
     · clear hp hc; intro m vs u w25 hJ
       obtain ⟨j20, j24, rfl, hp, hc⟩ := hJ
       rcases m with _ | m1
       · cases (show none = some r from hp)
       rw [norm_Mix.L1] at hp
       refine Wseq ?_
       refine Wreg ?_
       refine rs (v := .bool (decide (j24 < ((x1.length : Nat) : Int)))) (lt' rfl rfl) rfl ?_
       refine rn ?_
       refine qn ?_
       refine Wseq ?_
       cases hb26 : (decide (j24 < ((x1.length : Nat) : Int)))
       · replace hp := gneg hp (of_decide_eq_false hb26)
         refine Wcf rfl ?_
         refine Wexit ?_
         refine qx ?_
         refine qx ?_
         refine be ?_
         refine qn ?_
         refine Wseq ?_
         refine Wreg ?_
         refine rs (v := .slice a16 ((((y3.length : Nat) : Int)).toNat) ((((y3.length : Nat) : Int)).toNat)) (mv (v := .slice a16 ((((y3.length : Nat) : Int)).toNat) ((((y3.length : Nat) : Int)).toNat)) rfl) rfl ?_
         refine rs (v := .int .i64 (((((y3.length : Nat) : Int)).toNat : Nat) : Int)) (ln rfl Try.underlying64) rfl ?_
         replace hp := chk_some hp; obtain ⟨hg27, hp⟩ := hp
         have hm29 : (((((((y3.length : Nat) : Int)).toNat : Nat) : Int)).toNat : Int) = (((((y3.length : Nat) : Int)).toNat : Nat) : Int) := Int.toNat_of_nonneg hg27.1
         refine rsE (Ctx.make (n := ((((((y3.length : Nat) : Int)).toNat : Nat) : Int)).toNat) (E := (pInt .i8)) (x0 := 0) hc (by rw [hm29]; rfl) (by rw [hm29]; rfl) Try.underlying22 (i := Try.t38) rfl rfl rfl rfl rfl rfl (fun _ _ => rfl) (by omega)) rfl ?_
         clear hc; rintro _ w31 ⟨a28, rfl, hc⟩
         refine rs (v := .slice a28 (((((((y3.length : Nat) : Int)).toNat : Nat) : Int)).toNat) (((((((y3.length : Nat) : Int)).toNat : Nat) : Int)).toNat)) (av (v := .slice a28 (((((((y3.length : Nat) : Int)).toNat : Nat) : Int)).toNat) (((((((y3.length : Nat) : Int)).toNat : Nat) : Int)).toNat)) rfl) rfl ?_
         refine rn ?_
         refine qn ?_
         refine Wseq ?_
         refine Wseq ?_
         refine Wreg ?_
         refine rs (v := .slice a16 ((((y3.length : Nat) : Int)).toNat) ((((y3.length : Nat) : Int)).toNat)) (mv (v := .slice a16 ((((y3.length : Nat) : Int)).toNat) ((((y3.length : Nat) : Int)).toNat)) rfl) rfl ?_
         refine rs (v := .int .i64 (((((y3.length : Nat) : Int)).toNat : Nat) : Int)) (ln rfl Try.underlying64) rfl ?_
         refine rs (v := .int .i64 0) (mv (v := .int .i64 0) rfl) rfl ?_
         refine rn ?_
         refine qn ?_
         refine Wblk ?_
         refine Wloop [12, 13, 67, 68, 69, 70, 71, 72, 73, 74, 75, 76, 77, 78] [67] (fun m vs w' => ∃ j32 : (List Int), ∃ j36 : Int, vs = [.int .i64 j36] ∧ norm_Mix.L2 y3 j20 m j32 j36 = some r ∧ Ctx w' (Own (pInt .i8) 38 (.slice a28 (((((((y3.length : Nat) : Int)).toNat : Nat) : Int)).toNat) (((((((y3.length : Nat) : Int)).toNat : Nat) : Int)).toNat)) j32 :: Own (pInt .i64) 2 (.slice a16 ((((y3.length : Nat) : Int)).toNat) ((((y3.length : Nat) : Int)).toNat)) j20 :: P0 :: P1 :: Fr)) N ?_ ?_
         · exact ⟨(List.replicate ((((((y3.length : Nat) : Int)).toNat : Nat) : Int)).toNat 0), 0, rfl, hp, hc⟩
         · clear hp hc; intro m vs u w37 hJ
           obtain ⟨j32, j36, rfl, hp, hc⟩ := hJ
           rcases m with _ | m2
           · cases (show none = some r from hp)
           rw [norm_Mix.L2] at hp
           refine Wseq ?_
           refine Wreg ?_
           refine rs (v := .bool (decide (j36 < (((((y3.length : Nat) : Int)).toNat : Nat) : Int)))) (lt' rfl rfl) rfl ?_
           refine rn ?_
           refine qn ?_
           refine Wseq ?_
           cases hb38 : (decide (j36 < (((((y3.length : Nat) : Int)).toNat : Nat) : Int)))
           · replace hp := gneg hp (of_decide_eq_false hb38)
             refine Wcf rfl ?_
             refine Wexit ?_
             refine qx ?_
             refine qx ?_
             refine be ?_
             refine qn ?_
             refine Wseq ?_
             refine Wreg ?_
             refine rs (v := .slice a28 (((((((y3.length : Nat) : Int)).toNat : Nat) : Int)).toNat) (((((((y3.length : Nat) : Int)).toNat : Nat) : Int)).toNat)) (mv (v := .slice a28 (((((((y3.length : Nat) : Int)).toNat : Nat) : Int)).toNat) (((((((y3.length : Nat) : Int)).toNat : Nat) : Int)).toNat)) rfl) rfl ?_
             refine rs (v := .slice a28 (((((((y3.length : Nat) : Int)).toNat : Nat) : Int)).toNat) (((((((y3.length : Nat) : Int)).toNat : Nat) : Int)).toNat)) (av (v := .slice a28 (((((((y3.length : Nat) : Int)).toNat : Nat) : Int)).toNat) (((((((y3.length : Nat) : Int)).toNat : Nat) : Int)).toNat)) rfl) rfl ?_
             refine rs (v := .int .i64 0) (av (v := .int .i64 0) rfl) rfl ?_
             refine rn ?_
             refine qn ?_
             refine Wret ?_
             replace hc := hc.rem 1 rfl rfl
             injection hp with hp; subst hp
             refine f2 (v := .slice a28 (((((((y3.length : Nat) : Int)).toNat : Nat) : Int)).toNat) (((((((y3.length : Nat) : Int)).toNat : Nat) : Int)).toNat)) (u := .int .i64 0) Try.results18 Try.ntmps18 rfl rfl ?_
             exact ⟨_, rfl, k _ _ _ _ hc⟩
           · replace hp := gpos hp (of_decide_eq_true hb38)
             refine Wct rfl ?_
             refine Wskip ?_
             refine qn ?_
             refine Wseq ?_
             refine Wblk ?_
             refine Wseq ?_
             refine Wreg ?_
             refine rs (v := .int .i64 j36) (mv (v := .int .i64 j36) rfl) rfl ?_
             replace hp := bind_some hp; obtain ⟨y39, hy39, hp⟩ := hp
             obtain ⟨b42, o43, u44, hi40, hi41⟩ := Ctx.rdAt hc (k := 1) rfl rfl reads_own hy39
             subst u44
             refine rs (v := .pointer (some ⟨b42, o43 + (j36).toNat * 1, none⟩)) (ixx rfl rfl Try.underlying64 Try.sizeOf2 hi40 hi41 rfl) rfl ?_
             replace hc := Ctx.rdCell hc (k := 1) rfl rfl reads_own hy39; obtain ⟨cs45, hc, hcell46⟩ := hc
             replace hc := Ctx.holdC hc; obtain ⟨u47, hc⟩ := hc; subst u47
             refine rs (v := .int .i64 y39) (ld rfl Try.isAgg2 (hcell46 0 _ rfl)) rfl ?_
             refine rs (v := .int .i64 j36) (av (v := .int .i64 j36) rfl) rfl ?_
             refine rs (v := .int .i64 y39) (av (v := .int .i64 y39) rfl) rfl ?_
             refine rn ?_
             refine qn ?_
             refine Wreg ?_
             refine rs (v := .slice a28 (((((((y3.length : Nat) : Int)).toNat : Nat) : Int)).toNat) (((((((y3.length : Nat) : Int)).toNat : Nat) : Int)).toNat)) (mv (v := .slice a28 (((((((y3.length : Nat) : Int)).toNat : Nat) : Int)).toNat) (((((((y3.length : Nat) : Int)).toNat : Nat) : Int)).toNat)) rfl) rfl ?_
             refine rs (v := .int .i64 j36) (mv (v := .int .i64 j36) rfl) rfl ?_
             refine rs (v := .int .i64 y39) (mv (v := .int .i64 y39) rfl) rfl ?_
             replace hp := bind_some hp; obtain ⟨r48, hr48, hp⟩ := hp
             refine rc (cl Try.call25 rfl rfl) rfl ?_
             refine round_Shift_any hc hr48 ?_
             clear hc; intro w49 hc
             replace hp := bind_some hp; obtain ⟨r50, hr50, hp⟩ := hp
             refine rc (cl Try.call24 rfl rfl) rfl ?_
             refine round_Sat8_any hc hr50 ?_
             clear hc; intro w51 hc
             replace hp := bind_some hp; obtain ⟨y52, hy52, hp⟩ := hp
             obtain ⟨b55, o56, u57, hi53, hi54⟩ := Ctx.rdAt hc (k := 0) rfl rfl reads_own hy52
             subst u57
             refine rs (v := .pointer (some ⟨b55, o56 + (j36).toNat * 1, none⟩)) (ixx rfl rfl Try.underlying22 Try.sizeOf38 hi53 hi54 rfl) rfl ?_
             refine ruE (A := fun w' => Ctx w' (Own (pInt .i8) 38 (.slice (some ⟨b55, o56, none⟩) (((((((y3.length : Nat) : Int)).toNat : Nat) : Int)).toNat) (((((((y3.length : Nat) : Int)).toNat : Nat) : Int)).toNat)) (j32.set (j36).toNat r50) :: Own (pInt .i64) 2 (.slice (some ⟨b42, o43, none⟩) ((((y3.length : Nat) : Int)).toNat) ((((y3.length : Nat) : Int)).toNat)) j20 :: P0 :: P1 :: Fr)) (Ctx.ownPutOp hc (k := 0) rfl rfl (z := y52) (z' := r50) hy52 0 rfl (u := .int .i8 r50) rfl rfl rfl Try.sizeOf38 (fun _ _ _ h => by cases h; rfl) rfl) rfl ?_
             clear hc; rintro w58 hc
             refine rn ?_
             refine bn ?_
             refine qn ?_
             refine Wreg ?_
             refine rs (v := .int .i64 (IntKind.i64.wrap (j36 + 1))) (adw rfl rfl) rfl ?_
             refine rs (v := .int .i64 (IntKind.i64.wrap (j36 + 1))) (mv (v := .int .i64 (IntKind.i64.wrap (j36 + 1))) rfl) rfl ?_
             refine rn ?_
             refine qn ?_
             exact ⟨m2, Nat.lt_succ_self _, ⟨(j32.set (j36).toNat r50), (IntKind.i64.wrap (j36 + 1)), rfl, hp, hc⟩, (kl rfl k0)⟩
       · replace hp := gpos hp (of_decide_eq_true hb26)
         refine Wct rfl ?_
         refine Wskip ?_
         refine qn ?_
         refine Wseq ?_
         refine Wblk ?_
         refine Wseq ?_
         refine Wreg ?_
         refine rs (v := .int .i64 j24) (mv (v := .int .i64 j24) rfl) rfl ?_
         replace hp := bind_some hp; obtain ⟨y59, hy59, hp⟩ := hp
         obtain ⟨b62, o63, u64, hi60, hi61⟩ := Ctx.rdAt hc (k := 2) rfl rfl hrd1 hy59
         clear u64
         refine rs (v := .pointer (some ⟨b6, o7 + (j24).toNat * 1, none⟩)) (ixx rfl rfl Try.underlying40 Try.sizeOf22 hi60 hi61 rfl) rfl ?_
         replace hc := Ctx.rdCell hc (k := 2) rfl rfl hrd1 hy59; obtain ⟨cs65, hc, hcell66⟩ := hc
         replace hc := Ctx.holdRo hc; obtain ⟨v70, u67, hc⟩ := hc; subst u67
         obtain ⟨a68, q69, u67⟩ := hc.rd (k := 0) rfl rfl reads_ro; subst u67
         refine rs (v := .slice a68 y59.length q69) (ld rfl Try.isAgg22 (hcell66 0 _ rfl)) rfl ?_
         refine rs (v := .int .i64 j24) (av (v := .int .i64 j24) rfl) rfl ?_
         refine rs (v := .slice a68 y59.length q69) (av (v := .slice a68 y59.length q69) rfl) rfl ?_
         refine rn ?_
         refine qn ?_
         refine Wseq ?_
         refine Wseq ?_
         refine Wreg ?_
         refine rs (v := .slice a68 y59.length q69) (mv (v := .slice a68 y59.length q69) rfl) rfl ?_
         refine rs (v := .int .i64 ((y59.length : Nat) : Int)) (ln rfl Try.underlying22) rfl ?_
         refine rs (v := .slice a16 ((((y3.length : Nat) : Int)).toNat) ((((y3.length : Nat) : Int)).toNat)) (mv (v := .slice a16 ((((y3.length : Nat) : Int)).toNat) ((((y3.length : Nat) : Int)).toNat)) rfl) rfl ?_
         refine rs (v := .int .i64 (((((y3.length : Nat) : Int)).toNat : Nat) : Int)) (ln rfl Try.underlying64) rfl ?_
         refine rs (v := .bool (decide (((y59.length : Nat) : Int) ≠ (((((y3.length : Nat) : Int)).toNat : Nat) : Int)))) (ned rfl rfl) rfl ?_
         refine rn ?_
         refine qn ?_
         cases hb71 : (decide (((y59.length : Nat) : Int) ≠ (((((y3.length : Nat) : Int)).toNat : Nat) : Int)))
         · replace hp := gneg hp (of_decide_eq_false hb71)
           refine Wcf rfl ?_
           refine Wskip ?_
           refine qn ?_
           refine Wseq ?_
           refine Wreg ?_
           refine rs (v := .slice a68 y59.length q69) (mv (v := .slice a68 y59.length q69) rfl) rfl ?_
           refine rs (v := .int .i64 ((y59.length : Nat) : Int)) (ln rfl Try.underlying22) rfl ?_
           refine rs (v := .int .i64 0) (mv (v := .int .i64 0) rfl) rfl ?_
           refine rn ?_
           refine qn ?_
           refine Wblk ?_
           refine Wloop [9, 10, 41, 42, 43, 44, 45, 46, 47, 48, 49, 50, 51, 52, 53, 54, 55, 56, 57, 58, 59, 60] [41] (fun m vs w' => ∃ j72 : (List Int), ∃ j76 : Int, vs = [.int .i64 j76] ∧ norm_Mix.L3 x0 j24 y59 (norm_Mix.L1 N x0 x1 y3 m1) m j72 j76 = some r ∧ Ctx w' (Hold (pRo (pInt .i8)) [.slice a68 y59.length q69] y59 :: Own (pInt .i64) 2 (.slice a16 ((((y3.length : Nat) : Int)).toNat) ((((y3.length : Nat) : Int)).toNat)) j72 :: P0 :: P1 :: Fr)) N ?_ ?_
           · exact ⟨j20, 0, rfl, hp, hc⟩
           · clear hp hc; intro m vs u w77 hJ
             obtain ⟨j72, j76, rfl, hp, hc⟩ := hJ
             rcases m with _ | m3
             · cases (show none = some r from hp)
             rw [norm_Mix.L3] at hp
             refine Wseq ?_
             refine Wreg ?_
             refine rs (v := .bool (decide (j76 < ((y59.length : Nat) : Int)))) (lt' rfl rfl) rfl ?_
             refine rn ?_
             refine qn ?_
             refine Wseq ?_
             cases hb78 : (decide (j76 < ((y59.length : Nat) : Int)))
             · replace hp := gneg hp (of_decide_eq_false hb78)
               refine Wcf rfl ?_
               refine Wexit ?_
               refine qx ?_
               refine qx ?_
               refine be ?_
               refine bn ?_
               refine qn ?_
               refine Wreg ?_
               refine rs (v := .int .i64 (IntKind.i64.wrap (j24 + 1))) (adw rfl rfl) rfl ?_
               refine rs (v := .int .i64 (IntKind.i64.wrap (j24 + 1))) (mv (v := .int .i64 (IntKind.i64.wrap (j24 + 1))) rfl) rfl ?_
               refine rn ?_
               refine qn ?_
               replace hc := hc.rem 0 rfl rfl
               exact ⟨m1, Nat.lt_succ_self _, ⟨j72, (IntKind.i64.wrap (j24 + 1)), rfl, hp, hc⟩, (kl rfl (km rfl (kl rfl k0)))⟩
             · replace hp := gpos hp (of_decide_eq_true hb78)
               refine Wct rfl ?_
               refine Wskip ?_
               refine qn ?_
               refine Wseq ?_
               refine Wblk ?_
               refine Wseq ?_
               refine Wreg ?_
               refine rs (v := .int .i64 j76) (mv (v := .int .i64 j76) rfl) rfl ?_
               replace hp := bind_some hp; obtain ⟨y79, hy79, hp⟩ := hp
               obtain ⟨b82, o83, u84, hi80, hi81⟩ := Ctx.rdAt hc (k := 0) rfl rfl reads_ro hy79
               subst u84
               refine rs (v := .pointer (some ⟨b82, o83 + (j76).toNat * 1, none⟩)) (ixx rfl rfl Try.underlying22 Try.sizeOf38 hi80 hi81 rfl) rfl ?_
               replace hc := Ctx.rdCell hc (k := 0) rfl rfl reads_ro hy79; obtain ⟨cs85, hc, hcell86⟩ := hc
               replace hc := Ctx.holdC hc; obtain ⟨u87, hc⟩ := hc; subst u87
               refine rs (v := .int .i8 y79) (ld rfl Try.isAgg38 (hcell86 0 _ rfl)) rfl ?_
               refine rs (v := .int .i64 j76) (av (v := .int .i64 j76) rfl) rfl ?_
               refine rs (v := .int .i8 y79) (av (v := .int .i8 y79) rfl) rfl ?_
               refine rn ?_
               refine qn ?_
               replace hc := hc.drew
               refine Wdrw (fun j w' => True) [0, 0, 3, 7, 0, 0, 48, 112, 240, 0, 512, 2032, 4095, 8191, 16383] 0 136 rfl (by kernel_rfl) (fun _ _ => trivial) ?_
               generalize hw : World.drew w77 = w88 at *
               clear hw
               refine ds (v := .slice a16 ((((y3.length : Nat) : Int)).toNat) ((((y3.length : Nat) : Int)).toNat)) rfl (fun w' hF => mv (v := .slice a16 ((((y3.length : Nat) : Int)).toNat) ((((y3.length : Nat) : Int)).toNat)) rfl) rfl ?_
               refine ds (v := .int .i64 j76) rfl (fun w' hF => mv (v := .int .i64 j76) rfl) rfl ?_
               replace hp := bind_some hp; obtain ⟨y89, hy89, hp⟩ := hp
               obtain ⟨b92, o93, u94, hi90, hi91⟩ := Ctx.rdAt hc (k := 1) rfl rfl reads_own hy89
               subst u94
               refine ds (v := .pointer (some ⟨b92, o93 + (j76).toNat * 1, none⟩)) rfl (fun w' hF => ixx rfl rfl Try.underlying64 Try.sizeOf2 hi90 hi91 rfl) rfl ?_
               replace hc := Ctx.rdCell hc (k := 1) rfl rfl reads_own hy89; obtain ⟨cs95, hc, hcell96⟩ := hc
               replace hc := Ctx.holdC hc; obtain ⟨u97, hc⟩ := hc; subst u97
               refine dx (v := .int .i64 y89) rfl (ld rfl Try.isAgg2 (hcell96 0 _ rfl)) rfl rfl ?_
               refine ds (v := .slice ax0 x0.length qx0) rfl (fun w' hF => mv (v := .slice ax0 x0.length qx0) rfl) rfl ?_
               refine ds (v := .int .i64 j24) rfl (fun w' hF => mv (v := .int .i64 j24) rfl) rfl ?_
               replace hp := bind_some hp; obtain ⟨y98, hy98, hp⟩ := hp
               obtain ⟨b101, o102, u103, hi99, hi100⟩ := Ctx.rdAt hc (k := 2) rfl rfl hrd0 hy98
               subst u103
               refine ds (v := .pointer (some ⟨b101, o102 + (j24).toNat * 1, none⟩)) rfl (fun w' hF => ixx rfl rfl Try.underlying23 Try.sizeOf21 hi99 hi100 rfl) rfl ?_
               replace hc := Ctx.rdCell hc (k := 2) rfl rfl hrd0 hy98; obtain ⟨cs104, hc, hcell105⟩ := hc
               replace hc := Ctx.holdC hc; obtain ⟨u106, hc⟩ := hc; subst u106
               refine dx (v := .int .i32 y98) rfl (ld rfl Try.isAgg21 (hcell105 0 _ rfl)) rfl rfl ?_
               refine ds (v := .int .i64 (IntKind.i64.wrap y98)) rfl (fun w' hF => cvi rfl Try.underlying21 Try.underlying2) rfl ?_
               refine ds (v := .int .i8 y79) rfl (fun w' hF => mv (v := .int .i8 y79) rfl) rfl ?_
               refine ds (v := .int .i64 (IntKind.i64.wrap y79)) rfl (fun w' hF => cvi rfl Try.underlying38 Try.underlying2) rfl ?_
               refine ds (v := .int .i64 (IntKind.i64.wrap ((IntKind.i64.wrap y98) * (IntKind.i64.wrap y79)))) rfl (fun w' hF => mlw rfl rfl) rfl ?_
               refine ds (v := .int .i64 (IntKind.i64.wrap (y89 + (IntKind.i64.wrap ((IntKind.i64.wrap y98) * (IntKind.i64.wrap y79)))))) rfl (fun w' hF => adw rfl rfl) rfl ?_
               replace hp := bind_some hp; obtain ⟨y107, hy107, hp⟩ := hp
               obtain ⟨b110, o111, u112, hi108, hi109⟩ := Ctx.rdAt hc (k := 1) rfl rfl reads_own hy107
               clear u112
               refine ds (v := .pointer (some ⟨b92, o93 + (j76).toNat * 1, none⟩)) rfl (fun w' hF => ixx rfl rfl Try.underlying64 Try.sizeOf2 hi108 hi109 rfl) rfl ?_
               refine duE (A := fun w' => Ctx w' (Hold (pRo (pInt .i8)) [.slice (some ⟨b82, o83, none⟩) y59.length q69] y59 :: Own (pInt .i64) 2 (.slice (some ⟨b92, o93, none⟩) ((((y3.length : Nat) : Int)).toNat) ((((y3.length : Nat) : Int)).toNat)) (j72.set (j76).toNat (IntKind.i64.wrap (y89 + (IntKind.i64.wrap ((IntKind.i64.wrap y98) * (IntKind.i64.wrap y79)))))) :: P0 :: P1 :: Fr)) (Ctx.ownPutOp hc (k := 1) rfl rfl (z := y107) (z' := (IntKind.i64.wrap (y89 + (IntKind.i64.wrap ((IntKind.i64.wrap y98) * (IntKind.i64.wrap y79)))))) hy107 0 rfl (u := .int .i64 (IntKind.i64.wrap (y89 + (IntKind.i64.wrap ((IntKind.i64.wrap y98) * (IntKind.i64.wrap y79)))))) rfl rfl rfl Try.sizeOf2 (fun _ _ _ h => by cases h; rfl) rfl) rfl rfl ?_
               clear hc; rintro w113 hc
               refine ⟨fun j hj hb => trivial, ?_⟩
               refine dn ?_
               refine bn ?_
               refine qn ?_
               refine Wreg ?_
               refine rs (v := .int .i64 (IntKind.i64.wrap (j76 + 1))) (adw rfl rfl) rfl ?_
               refine rs (v := .int .i64 (IntKind.i64.wrap (j76 + 1))) (mv (v := .int .i64 (IntKind.i64.wrap (j76 + 1))) rfl) rfl ?_
               refine rn ?_
               refine qn ?_
               exact ⟨m3, Nat.lt_succ_self _, ⟨(j72.set (j76).toNat (IntKind.i64.wrap (y89 + (IntKind.i64.wrap ((IntKind.i64.wrap y98) * (IntKind.i64.wrap y79)))))), (IntKind.i64.wrap (j76 + 1)), rfl, hp, hc⟩, (kl rfl k0)⟩
         · replace hp := gpos hp (of_decide_eq_true hb71)
           refine Wct rfl ?_
           refine Wseq ?_
           refine Wreg ?_
           refine rs (v := .slice none 0 0) (av (v := .slice none 0 0) rfl) rfl ?_
           refine rs (v := .int .i64 30) (av (v := .int .i64 30) rfl) rfl ?_
           refine rn ?_
           refine qn ?_
           refine Wret ?_
           refine qr ?_
           refine br ?_
           refine qr ?_
           refine qr ?_
           refine br ?_
           refine qr ?_
           replace hc := hc.nilOwn (pInt .i8) 38
           replace hc := hc.rem 2 rfl rfl
           replace hc := hc.rem 1 rfl rfl
           injection hp with hp; subst hp
           refine f2 (v := .slice none 0 0) (u := .int .i64 30) Try.results18 Try.ntmps18 rfl rfl ?_
           exact ⟨_, rfl, k _ _ _ _ hc⟩
   · replace hp := gpos hp (of_decide_eq_true hb2)
     refine Wct rfl ?_
     refine Wseq ?_
     refine Wreg ?_
     refine rs (v := .slice none 0 0) (av (v := .slice none 0 0) rfl) rfl ?_
     refine rs (v := .int .i64 0) (av (v := .int .i64 0) rfl) rfl ?_
     refine rn ?_
     refine qn ?_
     refine Wret ?_
     refine qr ?_
     replace hc := hc.nilOwn (pInt .i8) 38
     injection hp with hp; subst hp
     refine f2 (v := .slice none 0 0) (u := .int .i64 0) Try.results18 Try.ntmps18 rfl rfl ?_
     exact ⟨_, rfl, k _ _ _ _ hc⟩
 · replace hp := gpos hp (of_decide_eq_true hb1)
   refine Wct rfl ?_
   refine Wseq ?_
   refine Wreg ?_
   refine rs (v := .slice none 0 0) (av (v := .slice none 0 0) rfl) rfl ?_
   refine rs (v := .int .i64 30) (av (v := .int .i64 30) rfl) rfl ?_
   refine rn ?_
   refine qn ?_
   refine Wret ?_
   refine qr ?_
   replace hc := hc.nilOwn (pInt .i8) 38
   injection hp with hp; subst hp
   refine f2 (v := .slice none 0 0) (u := .int .i64 30) Try.results18 Try.ntmps18 rfl rfl ?_
   exact ⟨_, rfl, k _ _ _ _ hc⟩

-- FN peloton/norm.Gate
def norm_Gate.L1 (r1 : ((List Int))) : Nat → (List Int) → Int → Option ((List Int))
  | 0, _, _ => none
  | m1 + 1, j7, j11 =>
    if j11 < ((r1.length : Nat) : Int) then
      (idx j7 j11).bind fun y14 =>
      (idx j7 j11).bind fun y23 =>
      (norm_Gate.L1 r1 m1) (j7.set (j11).toNat (max y14 0)) (IntKind.i64.wrap (j11 + 1))
    else
      some j7

def norm_Gate (N : Nat) (x0 : (List Int)) : Option ((List Int)) :=
  (slices_Clone_s_int8_int8 x0).bind fun r1 =>
  norm_Gate.L1 r1 N r1 0

set_option maxHeartbeats 8000000 in
theorem norm_Gate_any {N : Nat} {x0 : (List Int)} {ax0 : Option Addr} {nx0 : Nat} {qx0 : Nat} {P0 : HP} {Fr : List HP} {w : World} {r : (List Int)} {K : Value → World → Prop} (hrd0 : Reads P0 (pInt .i8) (.slice ax0 nx0 qx0) x0) (hc : Ctx w (P0 :: Fr)) (hp : norm_Gate N x0 = some r)
    (k : ∀ (a30 : Option Addr) (n31 : Nat) (q32 : Nat) w', Ctx w' (Own (pInt .i8) 38 (.slice a30 n31 q32) r :: P0 :: Fr) → K (.slice a30 n31 q32) w') : Calls Try.prog 17 #[.slice ax0 nx0 qx0] w (Ret K) := by
 unfold norm_Gate at hp
 refine Center (args := [.slice ax0 nx0 qx0]) (l := [(0, .slice ax0 nx0 qx0)]) Try.func17 Try.ntmps17 rfl rfl rfl ?_
 obtain ⟨hn0, _⟩ := Ctx.rdLen hc (k := 0) rfl rfl hrd0; subst hn0
 refine Wseq ?_
 refine Wreg ?_
 refine rs (v := .slice none 0 0) (av (v := .slice none 0 0) rfl) rfl ?_
 refine rn ?_
 refine qn ?_
 refine Wseq ?_
 refine Wreg ?_
 refine rs (v := .slice ax0 x0.length qx0) (mv (v := .slice ax0 x0.length qx0) rfl) rfl ?_
 replace hp := bind_some hp; obtain ⟨r1, hr1, hp⟩ := hp
 refine rc (cl Try.call35 rfl rfl) rfl ?_
 refine slices_Clone_s_int8_int8_any hrd0 hc hr1 ?_
 clear hc; intro a2 n3 q4 w5 hc
 obtain ⟨u6, _⟩ := Ctx.rdLen hc (k := 0) rfl rfl reads_own; subst u6
 refine rs (v := .slice a2 r1.length q4) (av (v := .slice a2 r1.length q4) rfl) rfl ?_
 refine rn ?_
 refine qn ?_
 refine Wseq ?_
 refine Wseq ?_
 refine Wreg ?_
 refine rs (v := .slice a2 r1.length q4) (mv (v := .slice a2 r1.length q4) rfl) rfl ?_
 refine rs (v := .int .i64 ((r1.length : Nat) : Int)) (ln rfl Try.underlying22) rfl ?_
 refine rs (v := .int .i64 0) (mv (v := .int .i64 0) rfl) rfl ?_
 refine rn ?_
 refine qn ?_
 refine Wblk ?_
 refine Wloop [4, 9, 10, 11, 12, 13, 14, 15, 16, 17, 18, 19, 20] [9] (fun m vs w' => ∃ j7 : (List Int), ∃ j11 : Int, vs = [.int .i64 j11] ∧ norm_Gate.L1 r1 m j7 j11 = some r ∧ Ctx w' (Own (pInt .i8) 38 (.slice a2 r1.length q4) j7 :: P0 :: Fr)) N ?_ ?_
 · exact ⟨r1, 0, rfl, hp, hc⟩
 · clear hp hc; intro m vs u w12 hJ
   obtain ⟨j7, j11, rfl, hp, hc⟩ := hJ
   rcases m with _ | m1
   · cases (show none = some r from hp)
   rw [norm_Gate.L1] at hp
   refine Wseq ?_
   refine Wreg ?_
   refine rs (v := .bool (decide (j11 < ((r1.length : Nat) : Int)))) (lt' rfl rfl) rfl ?_
   refine rn ?_
   refine qn ?_
   refine Wseq ?_
   cases hb13 : (decide (j11 < ((r1.length : Nat) : Int)))
   · replace hp := gneg hp (of_decide_eq_false hb13)
     refine Wcf rfl ?_
     refine Wexit ?_
     refine qx ?_
     refine qx ?_
     refine be ?_
     refine qn ?_
     refine Wseq ?_
     refine Wreg ?_
     refine rs (v := .slice a2 r1.length q4) (mv (v := .slice a2 r1.length q4) rfl) rfl ?_
     refine rs (v := .slice a2 r1.length q4) (av (v := .slice a2 r1.length q4) rfl) rfl ?_
     refine rn ?_
     refine qn ?_
     refine Wret ?_
     injection hp with hp; subst hp
     refine f1 (v := .slice a2 r1.length q4) Try.results17 Try.ntmps17 rfl ?_
     exact ⟨_, rfl, k _ _ _ _ hc⟩
   · replace hp := gpos hp (of_decide_eq_true hb13)
     refine Wct rfl ?_
     refine Wskip ?_
     refine qn ?_
     refine Wseq ?_
     refine Wblk ?_
     refine Wseq ?_
     refine Wreg ?_
     refine rs (v := .int .i64 j11) (mv (v := .int .i64 j11) rfl) rfl ?_
     refine rs (v := .int .i64 j11) (av (v := .int .i64 j11) rfl) rfl ?_
     refine rn ?_
     refine qn ?_
     refine Wreg ?_
     refine rs (v := .slice a2 r1.length q4) (mv (v := .slice a2 r1.length q4) rfl) rfl ?_
     refine rs (v := .int .i64 j11) (mv (v := .int .i64 j11) rfl) rfl ?_
     refine rs (v := .slice a2 r1.length q4) (mv (v := .slice a2 r1.length q4) rfl) rfl ?_
     refine rs (v := .int .i64 j11) (mv (v := .int .i64 j11) rfl) rfl ?_
     replace hp := bind_some hp; obtain ⟨y14, hy14, hp⟩ := hp
     obtain ⟨b17, o18, u19, hi15, hi16⟩ := Ctx.rdAt hc (k := 0) rfl rfl reads_own hy14
     subst u19
     refine rs (v := .pointer (some ⟨b17, o18 + (j11).toNat * 1, none⟩)) (ixx rfl rfl Try.underlying22 Try.sizeOf38 hi15 hi16 rfl) rfl ?_
     replace hc := Ctx.rdCell hc (k := 0) rfl rfl reads_own hy14; obtain ⟨cs20, hc, hcell21⟩ := hc
     replace hc := Ctx.holdC hc; obtain ⟨u22, hc⟩ := hc; subst u22
     refine rs (v := .int .i8 y14) (ld rfl Try.isAgg38 (hcell21 0 _ rfl)) rfl ?_
     refine rs (v := .int .i8 (max y14 0)) (bmx rfl rfl Try.underlying38) rfl ?_
     replace hp := bind_some hp; obtain ⟨y23, hy23, hp⟩ := hp
     obtain ⟨b26, o27, u28, hi24, hi25⟩ := Ctx.rdAt hc (k := 0) rfl rfl reads_own hy23
     clear u28
     refine rs (v := .pointer (some ⟨b17, o18 + (j11).toNat * 1, none⟩)) (ixx rfl rfl Try.underlying22 Try.sizeOf38 hi24 hi25 rfl) rfl ?_
     refine ruE (A := fun w' => Ctx w' (Own (pInt .i8) 38 (.slice (some ⟨b17, o18, none⟩) r1.length q4) (j7.set (j11).toNat (max y14 0)) :: P0 :: Fr)) (Ctx.ownPutOp hc (k := 0) rfl rfl (z := y23) (z' := (max y14 0)) hy23 0 rfl (u := .int .i8 (max y14 0)) rfl rfl rfl Try.sizeOf38 (fun _ _ _ h => by cases h; rfl) rfl) rfl ?_
     clear hc; rintro w29 hc
     refine rn ?_
     refine bn ?_
     refine qn ?_
     refine Wreg ?_
     refine rs (v := .int .i64 (IntKind.i64.wrap (j11 + 1))) (adw rfl rfl) rfl ?_
     refine rs (v := .int .i64 (IntKind.i64.wrap (j11 + 1))) (mv (v := .int .i64 (IntKind.i64.wrap (j11 + 1))) rfl) rfl ?_
     refine rn ?_
     refine qn ?_
     exact ⟨m1, Nat.lt_succ_self _, ⟨(j7.set (j11).toNat (max y14 0)), (IntKind.i64.wrap (j11 + 1)), rfl, hp, hc⟩, (kl rfl k0)⟩

-- FN peloton/norm.Join
def norm_Join.L1 (N : Nat) (x0 : (List Int)) (x1 : (List Int)) (x2 : Int) (x3 : Int) : Nat → (List Int) → Int → Option ((List Int) × Int)
  | 0, _, _ => none
  | m1 + 1, j7, j11 =>
    if j11 < ((x0.length : Nat) : Int) then
      (idx x0 j11).bind fun y15 =>
      (idx x1 j11).bind fun y24 =>
      (round_Scale y24 x2 x3).bind fun r33 =>
      (round_Sum N ([y15, r33])).bind fun r37 =>
      (idx j7 j11).bind fun y39 =>
      (norm_Join.L1 N x0 x1 x2 x3 m1) (j7.set (j11).toNat r37) (IntKind.i64.wrap (j11 + 1))
    else
      some (j7, 0)

def norm_Join (N : Nat) (x0 : (List Int)) (x1 : (List Int)) (x2 : Int) (x3 : Int) : Option ((List Int) × Int) :=
  if ((x0.length : Nat) : Int) ≠ ((x1.length : Nat) : Int) then
    some ([], 30)
  else
    chk (0 ≤ ((x0.length : Nat) : Int) ∧ ((x0.length : Nat) : Int) ≤ 4294967296) <|
    norm_Join.L1 N x0 x1 x2 x3 N (List.replicate (((x0.length : Nat) : Int)).toNat 0) 0

set_option maxHeartbeats 8000000 in
theorem norm_Join_any {N : Nat} {x0 : (List Int)} {ax0 : Option Addr} {nx0 : Nat} {qx0 : Nat} {P0 : HP} {x1 : (List Int)} {ax1 : Option Addr} {nx1 : Nat} {qx1 : Nat} {P1 : HP} {x2 : Int} {x3 : Int} {Fr : List HP} {w : World} {r : (List Int) × Int} {K : Value → World → Prop} (hrd0 : Reads P0 (pInt .i32) (.slice ax0 nx0 qx0) x0) (hrd1 : Reads P1 (pInt .i32) (.slice ax1 nx1 qx1) x1) (hc : Ctx w (P0 :: P1 :: Fr)) (hp : norm_Join N x0 x1 x2 x3 = some r)
    (k : ∀ (a46 : Option Addr) (n47 : Nat) (q48 : Nat) w', Ctx w' (Own (pInt .i32) 21 (.slice a46 n47 q48) r.1 :: P0 :: P1 :: Fr) → K (.tuple #[.slice a46 n47 q48, .int .i64 r.2]) w') : Calls Try.prog 20 #[.slice ax0 nx0 qx0, .slice ax1 nx1 qx1, .int .i32 x2, .int .i64 x3] w (Ret K) := by
 unfold norm_Join at hp
 refine Center (args := [.slice ax0 nx0 qx0, .slice ax1 nx1 qx1, .int .i32 x2, .int .i64 x3]) (l := [(0, .slice ax0 nx0 qx0), (1, .slice ax1 nx1 qx1), (2, .int .i32 x2), (3, .int .i64 x3)]) Try.func20 Try.ntmps20 rfl rfl rfl ?_
 obtain ⟨hn0, _⟩ := Ctx.rdLen hc (k := 0) rfl rfl hrd0; subst hn0
 obtain ⟨hn1, _⟩ := Ctx.rdLen hc (k := 1) rfl rfl hrd1; subst hn1
 refine Wseq ?_
 refine Wreg ?_
 refine rs (v := .slice none 0 0) (av (v := .slice none 0 0) rfl) rfl ?_
 refine rs (v := .int .i64 0) (av (v := .int .i64 0) rfl) rfl ?_
 refine rn ?_
 refine qn ?_
 refine Wseq ?_
 refine Wseq ?_
 refine Wreg ?_
 refine rs (v := .slice ax0 x0.length qx0) (mv (v := .slice ax0 x0.length qx0) rfl) rfl ?_
 refine rs (v := .int .i64 ((x0.length : Nat) : Int)) (ln rfl Try.underlying23) rfl ?_
 refine rs (v := .slice ax1 x1.length qx1) (mv (v := .slice ax1 x1.length qx1) rfl) rfl ?_
 refine rs (v := .int .i64 ((x1.length : Nat) : Int)) (ln rfl Try.underlying23) rfl ?_
 refine rs (v := .bool (decide (((x0.length : Nat) : Int) ≠ ((x1.length : Nat) : Int)))) (ned rfl rfl) rfl ?_
 refine rn ?_
 refine qn ?_
 cases hb1 : (decide (((x0.length : Nat) : Int) ≠ ((x1.length : Nat) : Int)))
 · replace hp := gneg hp (of_decide_eq_false hb1)
   refine Wcf rfl ?_
   refine Wskip ?_
   refine qn ?_
   refine Wseq ?_
   refine Wreg ?_
   refine rs (v := .slice ax0 x0.length qx0) (mv (v := .slice ax0 x0.length qx0) rfl) rfl ?_
   refine rs (v := .int .i64 ((x0.length : Nat) : Int)) (ln rfl Try.underlying23) rfl ?_
   replace hp := chk_some hp; obtain ⟨hg2, hp⟩ := hp
   have hm4 : ((((x0.length : Nat) : Int)).toNat : Int) = ((x0.length : Nat) : Int) := Int.toNat_of_nonneg hg2.1
   refine rsE (Ctx.make (n := (((x0.length : Nat) : Int)).toNat) (E := (pInt .i32)) (x0 := 0) hc (by rw [hm4]; rfl) (by rw [hm4]; rfl) Try.underlying23 (i := Try.t21) rfl rfl rfl rfl rfl rfl (fun _ _ => rfl) (by omega)) rfl ?_
   clear hc; rintro _ w6 ⟨a3, rfl, hc⟩
   refine rs (v := .slice a3 ((((x0.length : Nat) : Int)).toNat) ((((x0.length : Nat) : Int)).toNat)) (av (v := .slice a3 ((((x0.length : Nat) : Int)).toNat) ((((x0.length : Nat) : Int)).toNat)) rfl) rfl ?_
   refine rn ?_
   refine qn ?_
   refine Wseq ?_
   refine Wseq ?_
   refine Wreg ?_
   refine rs (v := .slice ax0 x0.length qx0) (mv (v := .slice ax0 x0.length qx0) rfl) rfl ?_
   refine rs (v := .int .i64 ((x0.length : Nat) : Int)) (ln rfl Try.underlying23) rfl ?_
   refine rs (v := .int .i64 0) (mv (v := .int .i64 0) rfl) rfl ?_
   refine rn ?_
   refine qn ?_
   refine Wblk ?_
   refine Wloop [11, 22, 23, 24, 25, 26, 27, 28, 29, 30, 31, 32, 33, 34, 35, 36, 37, 38, 39, 40, 41] [22] (fun m vs w' => ∃ j7 : (List Int), ∃ j11 : Int, vs = [.int .i64 j11] ∧ norm_Join.L1 N x0 x1 x2 x3 m j7 j11 = some r ∧ Ctx w' (Own (pInt .i32) 21 (.slice a3 ((((x0.length : Nat) : Int)).toNat) ((((x0.length : Nat) : Int)).toNat)) j7 :: P0 :: P1 :: Fr)) N ?_ ?_
   · exact ⟨(List.replicate (((x0.length : Nat) : Int)).toNat 0), 0, rfl, hp, hc⟩
   · clear hp hc; intro m vs u w12 hJ
     obtain ⟨j7, j11, rfl, hp, hc⟩ := hJ
     rcases m with _ | m1
     · cases (show none = some r from hp)
     rw [norm_Join.L1] at hp
     refine Wseq ?_
     refine Wreg ?_
     refine rs (v := .bool (decide (j11 < ((x0.length : Nat) : Int)))) (lt' rfl rfl) rfl ?_
     refine rn ?_
     refine qn ?_
     refine Wseq ?_
     cases hb13 : (decide (j11 < ((x0.length : Nat) : Int)))
     · replace hp := gneg hp (of_decide_eq_false hb13)
       refine Wcf rfl ?_
       refine Wexit ?_
       refine qx ?_
       refine qx ?_
       refine be ?_
       refine qn ?_
       refine Wseq ?_
       refine Wreg ?_
       refine rs (v := .slice a3 ((((x0.length : Nat) : Int)).toNat) ((((x0.length : Nat) : Int)).toNat)) (mv (v := .slice a3 ((((x0.length : Nat) : Int)).toNat) ((((x0.length : Nat) : Int)).toNat)) rfl) rfl ?_
       refine rs (v := .slice a3 ((((x0.length : Nat) : Int)).toNat) ((((x0.length : Nat) : Int)).toNat)) (av (v := .slice a3 ((((x0.length : Nat) : Int)).toNat) ((((x0.length : Nat) : Int)).toNat)) rfl) rfl ?_
       refine rs (v := .int .i64 0) (av (v := .int .i64 0) rfl) rfl ?_
       refine rn ?_
       refine qn ?_
       refine Wret ?_
       injection hp with hp; subst hp
       refine f2 (v := .slice a3 ((((x0.length : Nat) : Int)).toNat) ((((x0.length : Nat) : Int)).toNat)) (u := .int .i64 0) Try.results20 Try.ntmps20 rfl rfl ?_
       exact ⟨_, rfl, k _ _ _ _ hc⟩
     · replace hp := gpos hp (of_decide_eq_true hb13)
       refine Wct rfl ?_
       refine Wskip ?_
       refine qn ?_
       refine Wseq ?_
       refine Wblk ?_
       refine Wseq ?_
       refine Wreg ?_
       refine rs (v := .int .i64 j11) (mv (v := .int .i64 j11) rfl) rfl ?_
       refine rs (v := .int .i64 j11) (av (v := .int .i64 j11) rfl) rfl ?_
       refine rn ?_
       refine qn ?_
       replace hc := hc.drew
       have hF : ∀ j, free [0, 0, 0, 0, 12, 28, 0, 0, 192, 448, 0, 0, 4032, 8188, 16380, 32767, 65535] 0 j = true → (fun j w' => (j = 5 → PinRow (pInt .i32) ax0 x0 w') ∧ True) j (World.drew w12) := fun j hj => ⟨fun _ => PinRow.of hc (k := 1) rfl rfl hrd0 (fun _ _ _ _ _ _ _ h1 h2 => h1.trans h2.symm), trivial⟩
       refine Wdrw (fun j w' => (j = 5 → PinRow (pInt .i32) ax0 x0 w') ∧ True) [0, 0, 0, 0, 12, 28, 0, 0, 192, 448, 0, 0, 4032, 8188, 16380, 32767, 65535] 0 512 rfl (by kernel_rfl) (hF) ?_
       generalize hw : World.drew w12 = w14 at *
       clear hw
       refine ds (v := .slice a3 ((((x0.length : Nat) : Int)).toNat) ((((x0.length : Nat) : Int)).toNat)) rfl (fun w' hF => mv (v := .slice a3 ((((x0.length : Nat) : Int)).toNat) ((((x0.length : Nat) : Int)).toNat)) rfl) rfl ?_
       refine ds (v := .int .i64 j11) rfl (fun w' hF => mv (v := .int .i64 j11) rfl) rfl ?_
       refine ds (v := .slice ax0 x0.length qx0) rfl (fun w' hF => mv (v := .slice ax0 x0.length qx0) rfl) rfl ?_
       refine ds (v := .int .i64 j11) rfl (fun w' hF => mv (v := .int .i64 j11) rfl) rfl ?_
       replace hp := bind_some hp; obtain ⟨y15, hy15, hp⟩ := hp
       obtain ⟨b18, o19, u20, hi16, hi17⟩ := Ctx.rdAt hc (k := 1) rfl rfl hrd0 hy15
       subst u20
       refine ds (v := .pointer (some ⟨b18, o19 + (j11).toNat * 1, none⟩)) rfl (fun w' hF => ixx rfl rfl Try.underlying23 Try.sizeOf21 hi16 hi17 rfl) rfl ?_
       replace hc := Ctx.rdCell hc (k := 1) rfl rfl hrd0 hy15; obtain ⟨cs21, hc, hcell22⟩ := hc
       replace hc := Ctx.holdC hc; obtain ⟨u23, hc⟩ := hc; subst u23
       refine ds (v := .int .i32 y15) rfl (fun w' hF => ld rfl Try.isAgg21 ((hF.1 rfl) _ _ _ _ hy15 rfl w' (fun _ => True) _ rfl 0 _ rfl)) rfl ?_
       refine ds (v := .slice ax1 x1.length qx1) rfl (fun w' hF => mv (v := .slice ax1 x1.length qx1) rfl) rfl ?_
       refine ds (v := .int .i64 j11) rfl (fun w' hF => mv (v := .int .i64 j11) rfl) rfl ?_
       replace hp := bind_some hp; obtain ⟨y24, hy24, hp⟩ := hp
       obtain ⟨b27, o28, u29, hi25, hi26⟩ := Ctx.rdAt hc (k := 2) rfl rfl hrd1 hy24
       subst u29
       refine ds (v := .pointer (some ⟨b27, o28 + (j11).toNat * 1, none⟩)) rfl (fun w' hF => ixx rfl rfl Try.underlying23 Try.sizeOf21 hi25 hi26 rfl) rfl ?_
       replace hc := Ctx.rdCell hc (k := 2) rfl rfl hrd1 hy24; obtain ⟨cs30, hc, hcell31⟩ := hc
       replace hc := Ctx.holdC hc; obtain ⟨u32, hc⟩ := hc; subst u32
       refine dx (v := .int .i32 y24) rfl (ld rfl Try.isAgg21 (hcell31 0 _ rfl)) rfl rfl ?_
       refine ds (v := .int .i32 x2) rfl (fun w' hF => mv (v := .int .i32 x2) rfl) rfl ?_
       refine ds (v := .int .i64 x3) rfl (fun w' hF => mv (v := .int .i64 x3) rfl) rfl ?_
       replace hp := bind_some hp; obtain ⟨r33, hr33, hp⟩ := hp
       refine dc (cl Try.call37 rfl rfl) rfl rfl ?_
       refine round_Scale_any hc hr33 ?_
       clear hc; intro w34 hc
       refine ⟨fun j hj hb => ⟨fun _ => PinRow.of hc (k := 1) rfl rfl hrd0 (fun _ _ _ _ _ _ _ h1 h2 => h1.trans h2.symm), trivial⟩, ?_⟩
       replace hc : Ctx w34 (Hold (pInt .i32) [.int .i32 r33] r33 :: Own (pInt .i32) 21 (.slice a3 ((((x0.length : Nat) : Int)).toNat) ((((x0.length : Nat) : Int)).toNat)) j7 :: P0 :: P1 :: Fr) := hc.add _ fun _ _ _ => ⟨rfl, rfl⟩
       replace hc : Ctx w34 (Hold (pInt .i32) [.int .i32 y15] y15 :: Hold (pInt .i32) [.int .i32 r33] r33 :: Own (pInt .i32) 21 (.slice a3 ((((x0.length : Nat) : Int)).toNat) ((((x0.length : Nat) : Int)).toNat)) j7 :: P0 :: P1 :: Fr) := hc.add _ fun _ _ _ => ⟨rfl, rfl⟩
       refine deE (Ctx.builtOp (css := [[.int .i32 y15], [.int .i32 r33]]) (xs := ([y15, r33] : List Int)) (E := (pInt .i32)) hc Try.underlying23 Try.sizeOf21 Try.zeroValue21 rfl rfl rfl rfl rfl rfl rfl rfl) rfl rfl ?_
       clear hc; rintro _ w36 ⟨a35, rfl, hc⟩
       refine ⟨fun j hj hb => ⟨fun e => (by subst e; exact absurd hj (by decide)), trivial⟩, ?_⟩
       replace hp := bind_some hp; obtain ⟨r37, hr37, hp⟩ := hp
       refine dc (cl Try.call36 rfl rfl) rfl rfl ?_
       refine round_Sum_any reads_own hc hr37 ?_
       clear hc; intro w38 hc
       refine ⟨fun j hj hb => ⟨fun e => (by subst e; exact absurd hj (by decide)), trivial⟩, ?_⟩
       replace hp := bind_some hp; obtain ⟨y39, hy39, hp⟩ := hp
       obtain ⟨b42, o43, u44, hi40, hi41⟩ := Ctx.rdAt hc (k := 1) rfl rfl reads_own hy39
       subst u44
       refine ds (v := .pointer (some ⟨b42, o43 + (j11).toNat * 1, none⟩)) rfl (fun w' hF => ixx rfl rfl Try.underlying23 Try.sizeOf21 hi40 hi41 rfl) rfl ?_
       refine duE (A := fun w' => Ctx w' (Own (pInt .i32) 21 (.slice a35 2 2) ([y15, r33]) :: Own (pInt .i32) 21 (.slice (some ⟨b42, o43, none⟩) ((((x0.length : Nat) : Int)).toNat) ((((x0.length : Nat) : Int)).toNat)) (j7.set (j11).toNat r37) :: P0 :: P1 :: Fr)) (Ctx.ownPutOp hc (k := 1) rfl rfl (z := y39) (z' := r37) hy39 0 rfl (u := .int .i32 r37) rfl rfl rfl Try.sizeOf21 (fun _ _ _ h => by cases h; rfl) rfl) rfl rfl ?_
       clear hc; rintro w45 hc
       refine ⟨fun j hj hb => ⟨fun e => (by subst e; exact absurd hj (by decide)), trivial⟩, ?_⟩
       refine dn ?_
       refine bn ?_
       refine qn ?_
       refine Wreg ?_
       refine rs (v := .int .i64 (IntKind.i64.wrap (j11 + 1))) (adw rfl rfl) rfl ?_
       refine rs (v := .int .i64 (IntKind.i64.wrap (j11 + 1))) (mv (v := .int .i64 (IntKind.i64.wrap (j11 + 1))) rfl) rfl ?_
       refine rn ?_
       refine qn ?_
       replace hc := hc.rem 0 rfl rfl
       exact ⟨m1, Nat.lt_succ_self _, ⟨(j7.set (j11).toNat r37), (IntKind.i64.wrap (j11 + 1)), rfl, hp, hc⟩, (kl rfl k0)⟩
 · replace hp := gpos hp (of_decide_eq_true hb1)
   refine Wct rfl ?_
   refine Wseq ?_
   refine Wreg ?_
   refine rs (v := .slice none 0 0) (av (v := .slice none 0 0) rfl) rfl ?_
   refine rs (v := .int .i64 30) (av (v := .int .i64 30) rfl) rfl ?_
   refine rn ?_
   refine qn ?_
   refine Wret ?_
   refine qr ?_
   replace hc := hc.nilOwn (pInt .i32) 21
   injection hp with hp; subst hp
   refine f2 (v := .slice none 0 0) (u := .int .i64 30) Try.results20 Try.ntmps20 rfl rfl ?_
   exact ⟨_, rfl, k _ _ _ _ hc⟩

-- FN peloton/pelotonref04.Bytes
def ref04_Bytes.L1 (x0 : (List Int)) (x1 : (List Int)) : Nat → Int → Option (Bool)
  | 0, _ => none
  | m1 + 1, j2 =>
    if j2 < ((x0.length : Nat) : Int) then
      (idx x0 j2).bind fun y6 =>
      (idx x1 j2).bind fun y15 =>
      if y6 ≠ y15 then
        some false
      else
        (ref04_Bytes.L1 x0 x1 m1) (IntKind.i64.wrap (j2 + 1))
    else
      some true

def ref04_Bytes (N : Nat) (x0 : (List Int)) (x1 : (List Int)) : Option (Bool) :=
  if ((x0.length : Nat) : Int) ≠ ((x1.length : Nat) : Int) then
    some false
  else
    ref04_Bytes.L1 x0 x1 N 0

set_option maxHeartbeats 8000000 in
theorem ref04_Bytes_any {N : Nat} {x0 : (List Int)} {ax0 : Option Addr} {nx0 : Nat} {qx0 : Nat} {P0 : HP} {x1 : (List Int)} {ax1 : Option Addr} {nx1 : Nat} {qx1 : Nat} {P1 : HP} {Fr : List HP} {w : World} {r : Bool} {K : Value → World → Prop} (hrd0 : Reads P0 (pInt .i8) (.slice ax0 nx0 qx0) x0) (hrd1 : Reads P1 (pInt .i8) (.slice ax1 nx1 qx1) x1) (hc : Ctx w (P0 :: P1 :: Fr)) (hp : ref04_Bytes N x0 x1 = some r)
    (k : ∀ w', Ctx w' (P0 :: P1 :: Fr) → K (.bool r) w') : Calls Try.prog 13 #[.slice ax0 nx0 qx0, .slice ax1 nx1 qx1] w (Ret K) := by
 unfold ref04_Bytes at hp
 refine Center (args := [.slice ax0 nx0 qx0, .slice ax1 nx1 qx1]) (l := [(0, .slice ax0 nx0 qx0), (1, .slice ax1 nx1 qx1)]) Try.func13 Try.ntmps13 rfl rfl rfl ?_
 obtain ⟨hn0, _⟩ := Ctx.rdLen hc (k := 0) rfl rfl hrd0; subst hn0
 obtain ⟨hn1, _⟩ := Ctx.rdLen hc (k := 1) rfl rfl hrd1; subst hn1
 refine Wseq ?_
 refine Wreg ?_
 refine rs (v := .bool false) (av (v := .bool false) rfl) rfl ?_
 refine rn ?_
 refine qn ?_
 refine Wseq ?_
 refine Wseq ?_
 refine Wreg ?_
 refine rs (v := .slice ax0 x0.length qx0) (mv (v := .slice ax0 x0.length qx0) rfl) rfl ?_
 refine rs (v := .int .i64 ((x0.length : Nat) : Int)) (ln rfl Try.underlying22) rfl ?_
 refine rs (v := .slice ax1 x1.length qx1) (mv (v := .slice ax1 x1.length qx1) rfl) rfl ?_
 refine rs (v := .int .i64 ((x1.length : Nat) : Int)) (ln rfl Try.underlying22) rfl ?_
 refine rs (v := .bool (decide (((x0.length : Nat) : Int) ≠ ((x1.length : Nat) : Int)))) (ned rfl rfl) rfl ?_
 refine rn ?_
 refine qn ?_
 cases hb1 : (decide (((x0.length : Nat) : Int) ≠ ((x1.length : Nat) : Int)))
 · replace hp := gneg hp (of_decide_eq_false hb1)
   refine Wcf rfl ?_
   refine Wskip ?_
   refine qn ?_
   refine Wseq ?_
   refine Wseq ?_
   refine Wreg ?_
   refine rs (v := .int .i64 0) (av (v := .int .i64 0) rfl) rfl ?_
   refine rn ?_
   refine qn ?_
   refine Wblk ?_
   refine Wloop [4, 5, 11, 12, 13, 14, 15, 16, 17, 18, 19, 20, 21, 22, 23, 24, 25] [5] (fun m vs w' => ∃ j2 : Int, vs = [.int .i64 j2] ∧ ref04_Bytes.L1 x0 x1 m j2 = some r ∧ Ctx w' (P0 :: P1 :: Fr)) N ?_ ?_
   · exact ⟨0, rfl, hp, hc⟩
   · clear hp hc; intro m vs u w3 hJ
     obtain ⟨j2, rfl, hp, hc⟩ := hJ
     rcases m with _ | m1
     · cases (show none = some r from hp)
     rw [ref04_Bytes.L1] at hp
     refine Wseq ?_
     refine Wseq ?_
     refine Wreg ?_
     refine rs (v := .int .i64 j2) (mv (v := .int .i64 j2) rfl) rfl ?_
     refine rs (v := .slice ax0 x0.length qx0) (mv (v := .slice ax0 x0.length qx0) rfl) rfl ?_
     refine rs (v := .int .i64 ((x0.length : Nat) : Int)) (ln rfl Try.underlying22) rfl ?_
     refine rs (v := .bool (decide (j2 < ((x0.length : Nat) : Int)))) (lt' rfl rfl) rfl ?_
     refine rn ?_
     refine qn ?_
     cases hb4 : (decide (j2 < ((x0.length : Nat) : Int)))
     · replace hp := gneg hp (of_decide_eq_false hb4)
       refine Wcf rfl ?_
       refine Wexit ?_
       refine qx ?_
       refine qx ?_
       refine be ?_
       refine qn ?_
       refine Wseq ?_
       refine Wreg ?_
       refine rs (v := .bool true) (av (v := .bool true) rfl) rfl ?_
       refine rn ?_
       refine qn ?_
       refine Wret ?_
       injection hp with hp; subst hp
       refine f1 (v := .bool true) Try.results13 Try.ntmps13 rfl ?_
       exact ⟨_, rfl, k _ hc⟩
     · replace hp := gpos hp (of_decide_eq_true hb4)
       refine Wct rfl ?_
       refine Wskip ?_
       refine qn ?_
       refine Wseq ?_
       refine Wblk ?_
       refine Wseq ?_
       replace hc := hc.drew
       refine Wdrw (fun _ w' => w' = World.drew w3) [0, 0, 3, 7, 0, 0, 48, 112, 255] 0 0 rfl (by kernel_rfl) (fun _ _ => rfl) ?_
       generalize hw : World.drew w3 = w5 at *
       clear hw
       refine ds (v := .slice ax0 x0.length qx0) rfl (fun w' hF => by subst hF; exact mv (v := .slice ax0 x0.length qx0) rfl) rfl ?_
       refine ds (v := .int .i64 j2) rfl (fun w' hF => by subst hF; exact mv (v := .int .i64 j2) rfl) rfl ?_
       replace hp := bind_some hp; obtain ⟨y6, hy6, hp⟩ := hp
       obtain ⟨b9, o10, u11, hi7, hi8⟩ := Ctx.rdAt hc (k := 0) rfl rfl hrd0 hy6
       subst u11
       refine ds (v := .pointer (some ⟨b9, o10 + (j2).toNat * 1, none⟩)) rfl (fun w' hF => by subst hF; exact ixx rfl rfl Try.underlying22 Try.sizeOf38 hi7 hi8 rfl) rfl ?_
       replace hc := Ctx.rdCell hc (k := 0) rfl rfl hrd0 hy6; obtain ⟨cs12, hc, hcell13⟩ := hc
       replace hc := Ctx.holdC hc; obtain ⟨u14, hc⟩ := hc; subst u14
       refine ds (v := .int .i8 y6) rfl (fun w' hF => by subst hF; exact ld rfl Try.isAgg38 (hcell13 0 _ rfl)) rfl ?_
       refine ds (v := .slice ax1 x1.length qx1) rfl (fun w' hF => by subst hF; exact mv (v := .slice ax1 x1.length qx1) rfl) rfl ?_
       refine ds (v := .int .i64 j2) rfl (fun w' hF => by subst hF; exact mv (v := .int .i64 j2) rfl) rfl ?_
       replace hp := bind_some hp; obtain ⟨y15, hy15, hp⟩ := hp
       obtain ⟨b18, o19, u20, hi16, hi17⟩ := Ctx.rdAt hc (k := 1) rfl rfl hrd1 hy15
       subst u20
       refine ds (v := .pointer (some ⟨b18, o19 + (j2).toNat * 1, none⟩)) rfl (fun w' hF => by subst hF; exact ixx rfl rfl Try.underlying22 Try.sizeOf38 hi16 hi17 rfl) rfl ?_
       replace hc := Ctx.rdCell hc (k := 1) rfl rfl hrd1 hy15; obtain ⟨cs21, hc, hcell22⟩ := hc
       replace hc := Ctx.holdC hc; obtain ⟨u23, hc⟩ := hc; subst u23
       refine ds (v := .int .i8 y15) rfl (fun w' hF => by subst hF; exact ld rfl Try.isAgg38 (hcell22 0 _ rfl)) rfl ?_
       refine ds (v := .bool (decide (y6 ≠ y15))) rfl (fun w' hF => by subst hF; exact ned rfl rfl) rfl ?_
       refine dn ?_
       refine qn ?_
       cases hb24 : (decide (y6 ≠ y15))
       · replace hp := gneg hp (of_decide_eq_false hb24)
         refine Wcf rfl ?_
         refine Wskip ?_
         refine bn ?_
         refine qn ?_
         refine Wreg ?_
         refine rs (v := .int .i64 j2) (mv (v := .int .i64 j2) rfl) rfl ?_
         refine rs (v := .int .i64 (IntKind.i64.wrap (j2 + 1))) (adw rfl rfl) rfl ?_
         refine rs (v := .int .i64 (IntKind.i64.wrap (j2 + 1))) (av (v := .int .i64 (IntKind.i64.wrap (j2 + 1))) rfl) rfl ?_
         refine rn ?_
         refine qn ?_
         exact ⟨m1, Nat.lt_succ_self _, ⟨(IntKind.i64.wrap (j2 + 1)), rfl, hp, hc⟩, (kl rfl k0)⟩
       · replace hp := gpos hp (of_decide_eq_true hb24)
         refine Wct rfl ?_
         refine Wseq ?_
         refine Wreg ?_
         refine rs (v := .bool false) (av (v := .bool false) rfl) rfl ?_
         refine rn ?_
         refine qn ?_
         refine Wret ?_
         refine br ?_
         refine qr ?_
         refine qr ?_
         refine br ?_
         refine qr ?_
         injection hp with hp; subst hp
         refine f1 (v := .bool false) Try.results13 Try.ntmps13 rfl ?_
         exact ⟨_, rfl, k _ hc⟩
 · replace hp := gpos hp (of_decide_eq_true hb1)
   refine Wct rfl ?_
   refine Wseq ?_
   refine Wreg ?_
   refine rs (v := .bool false) (av (v := .bool false) rfl) rfl ?_
   refine rn ?_
   refine qn ?_
   refine Wret ?_
   refine qr ?_
   injection hp with hp; subst hp
   refine f1 (v := .bool false) Try.results13 Try.ntmps13 rfl ?_
   exact ⟨_, rfl, k _ hc⟩

-- FN peloton/pelotonref04.Ints
def ref04_Ints.L1 (x0 : (List Int)) (x1 : (List Int)) : Nat → Int → Option (Bool)
  | 0, _ => none
  | m1 + 1, j2 =>
    if j2 < ((x0.length : Nat) : Int) then
      (idx x0 j2).bind fun y6 =>
      (idx x1 j2).bind fun y15 =>
      if y6 ≠ y15 then
        some false
      else
        (ref04_Ints.L1 x0 x1 m1) (IntKind.i64.wrap (j2 + 1))
    else
      some true

def ref04_Ints (N : Nat) (x0 : (List Int)) (x1 : (List Int)) : Option (Bool) :=
  if ((x0.length : Nat) : Int) ≠ ((x1.length : Nat) : Int) then
    some false
  else
    ref04_Ints.L1 x0 x1 N 0

set_option maxHeartbeats 8000000 in
theorem ref04_Ints_any {N : Nat} {x0 : (List Int)} {ax0 : Option Addr} {nx0 : Nat} {qx0 : Nat} {P0 : HP} {x1 : (List Int)} {ax1 : Option Addr} {nx1 : Nat} {qx1 : Nat} {P1 : HP} {Fr : List HP} {w : World} {r : Bool} {K : Value → World → Prop} (hrd0 : Reads P0 (pInt .i32) (.slice ax0 nx0 qx0) x0) (hrd1 : Reads P1 (pInt .i32) (.slice ax1 nx1 qx1) x1) (hc : Ctx w (P0 :: P1 :: Fr)) (hp : ref04_Ints N x0 x1 = some r)
    (k : ∀ w', Ctx w' (P0 :: P1 :: Fr) → K (.bool r) w') : Calls Try.prog 12 #[.slice ax0 nx0 qx0, .slice ax1 nx1 qx1] w (Ret K) := by
 unfold ref04_Ints at hp
 refine Center (args := [.slice ax0 nx0 qx0, .slice ax1 nx1 qx1]) (l := [(0, .slice ax0 nx0 qx0), (1, .slice ax1 nx1 qx1)]) Try.func12 Try.ntmps12 rfl rfl rfl ?_
 obtain ⟨hn0, _⟩ := Ctx.rdLen hc (k := 0) rfl rfl hrd0; subst hn0
 obtain ⟨hn1, _⟩ := Ctx.rdLen hc (k := 1) rfl rfl hrd1; subst hn1
 refine Wseq ?_
 refine Wreg ?_
 refine rs (v := .bool false) (av (v := .bool false) rfl) rfl ?_
 refine rn ?_
 refine qn ?_
 refine Wseq ?_
 refine Wseq ?_
 refine Wreg ?_
 refine rs (v := .slice ax0 x0.length qx0) (mv (v := .slice ax0 x0.length qx0) rfl) rfl ?_
 refine rs (v := .int .i64 ((x0.length : Nat) : Int)) (ln rfl Try.underlying23) rfl ?_
 refine rs (v := .slice ax1 x1.length qx1) (mv (v := .slice ax1 x1.length qx1) rfl) rfl ?_
 refine rs (v := .int .i64 ((x1.length : Nat) : Int)) (ln rfl Try.underlying23) rfl ?_
 refine rs (v := .bool (decide (((x0.length : Nat) : Int) ≠ ((x1.length : Nat) : Int)))) (ned rfl rfl) rfl ?_
 refine rn ?_
 refine qn ?_
 cases hb1 : (decide (((x0.length : Nat) : Int) ≠ ((x1.length : Nat) : Int)))
 · replace hp := gneg hp (of_decide_eq_false hb1)
   refine Wcf rfl ?_
   refine Wskip ?_
   refine qn ?_
   refine Wseq ?_
   refine Wseq ?_
   refine Wreg ?_
   refine rs (v := .int .i64 0) (av (v := .int .i64 0) rfl) rfl ?_
   refine rn ?_
   refine qn ?_
   refine Wblk ?_
   refine Wloop [4, 5, 11, 12, 13, 14, 15, 16, 17, 18, 19, 20, 21, 22, 23, 24, 25] [5] (fun m vs w' => ∃ j2 : Int, vs = [.int .i64 j2] ∧ ref04_Ints.L1 x0 x1 m j2 = some r ∧ Ctx w' (P0 :: P1 :: Fr)) N ?_ ?_
   · exact ⟨0, rfl, hp, hc⟩
   · clear hp hc; intro m vs u w3 hJ
     obtain ⟨j2, rfl, hp, hc⟩ := hJ
     rcases m with _ | m1
     · cases (show none = some r from hp)
     rw [ref04_Ints.L1] at hp
     refine Wseq ?_
     refine Wseq ?_
     refine Wreg ?_
     refine rs (v := .int .i64 j2) (mv (v := .int .i64 j2) rfl) rfl ?_
     refine rs (v := .slice ax0 x0.length qx0) (mv (v := .slice ax0 x0.length qx0) rfl) rfl ?_
     refine rs (v := .int .i64 ((x0.length : Nat) : Int)) (ln rfl Try.underlying23) rfl ?_
     refine rs (v := .bool (decide (j2 < ((x0.length : Nat) : Int)))) (lt' rfl rfl) rfl ?_
     refine rn ?_
     refine qn ?_
     cases hb4 : (decide (j2 < ((x0.length : Nat) : Int)))
     · replace hp := gneg hp (of_decide_eq_false hb4)
       refine Wcf rfl ?_
       refine Wexit ?_
       refine qx ?_
       refine qx ?_
       refine be ?_
       refine qn ?_
       refine Wseq ?_
       refine Wreg ?_
       refine rs (v := .bool true) (av (v := .bool true) rfl) rfl ?_
       refine rn ?_
       refine qn ?_
       refine Wret ?_
       injection hp with hp; subst hp
       refine f1 (v := .bool true) Try.results12 Try.ntmps12 rfl ?_
       exact ⟨_, rfl, k _ hc⟩
     · replace hp := gpos hp (of_decide_eq_true hb4)
       refine Wct rfl ?_
       refine Wskip ?_
       refine qn ?_
       refine Wseq ?_
       refine Wblk ?_
       refine Wseq ?_
       replace hc := hc.drew
       refine Wdrw (fun _ w' => w' = World.drew w3) [0, 0, 3, 7, 0, 0, 48, 112, 255] 0 0 rfl (by kernel_rfl) (fun _ _ => rfl) ?_
       generalize hw : World.drew w3 = w5 at *
       clear hw
       refine ds (v := .slice ax0 x0.length qx0) rfl (fun w' hF => by subst hF; exact mv (v := .slice ax0 x0.length qx0) rfl) rfl ?_
       refine ds (v := .int .i64 j2) rfl (fun w' hF => by subst hF; exact mv (v := .int .i64 j2) rfl) rfl ?_
       replace hp := bind_some hp; obtain ⟨y6, hy6, hp⟩ := hp
       obtain ⟨b9, o10, u11, hi7, hi8⟩ := Ctx.rdAt hc (k := 0) rfl rfl hrd0 hy6
       subst u11
       refine ds (v := .pointer (some ⟨b9, o10 + (j2).toNat * 1, none⟩)) rfl (fun w' hF => by subst hF; exact ixx rfl rfl Try.underlying23 Try.sizeOf21 hi7 hi8 rfl) rfl ?_
       replace hc := Ctx.rdCell hc (k := 0) rfl rfl hrd0 hy6; obtain ⟨cs12, hc, hcell13⟩ := hc
       replace hc := Ctx.holdC hc; obtain ⟨u14, hc⟩ := hc; subst u14
       refine ds (v := .int .i32 y6) rfl (fun w' hF => by subst hF; exact ld rfl Try.isAgg21 (hcell13 0 _ rfl)) rfl ?_
       refine ds (v := .slice ax1 x1.length qx1) rfl (fun w' hF => by subst hF; exact mv (v := .slice ax1 x1.length qx1) rfl) rfl ?_
       refine ds (v := .int .i64 j2) rfl (fun w' hF => by subst hF; exact mv (v := .int .i64 j2) rfl) rfl ?_
       replace hp := bind_some hp; obtain ⟨y15, hy15, hp⟩ := hp
       obtain ⟨b18, o19, u20, hi16, hi17⟩ := Ctx.rdAt hc (k := 1) rfl rfl hrd1 hy15
       subst u20
       refine ds (v := .pointer (some ⟨b18, o19 + (j2).toNat * 1, none⟩)) rfl (fun w' hF => by subst hF; exact ixx rfl rfl Try.underlying23 Try.sizeOf21 hi16 hi17 rfl) rfl ?_
       replace hc := Ctx.rdCell hc (k := 1) rfl rfl hrd1 hy15; obtain ⟨cs21, hc, hcell22⟩ := hc
       replace hc := Ctx.holdC hc; obtain ⟨u23, hc⟩ := hc; subst u23
       refine ds (v := .int .i32 y15) rfl (fun w' hF => by subst hF; exact ld rfl Try.isAgg21 (hcell22 0 _ rfl)) rfl ?_
       refine ds (v := .bool (decide (y6 ≠ y15))) rfl (fun w' hF => by subst hF; exact ned rfl rfl) rfl ?_
       refine dn ?_
       refine qn ?_
       cases hb24 : (decide (y6 ≠ y15))
       · replace hp := gneg hp (of_decide_eq_false hb24)
         refine Wcf rfl ?_
         refine Wskip ?_
         refine bn ?_
         refine qn ?_
         refine Wreg ?_
         refine rs (v := .int .i64 j2) (mv (v := .int .i64 j2) rfl) rfl ?_
         refine rs (v := .int .i64 (IntKind.i64.wrap (j2 + 1))) (adw rfl rfl) rfl ?_
         refine rs (v := .int .i64 (IntKind.i64.wrap (j2 + 1))) (av (v := .int .i64 (IntKind.i64.wrap (j2 + 1))) rfl) rfl ?_
         refine rn ?_
         refine qn ?_
         exact ⟨m1, Nat.lt_succ_self _, ⟨(IntKind.i64.wrap (j2 + 1)), rfl, hp, hc⟩, (kl rfl k0)⟩
       · replace hp := gpos hp (of_decide_eq_true hb24)
         refine Wct rfl ?_
         refine Wseq ?_
         refine Wreg ?_
         refine rs (v := .bool false) (av (v := .bool false) rfl) rfl ?_
         refine rn ?_
         refine qn ?_
         refine Wret ?_
         refine br ?_
         refine qr ?_
         refine qr ?_
         refine br ?_
         refine qr ?_
         injection hp with hp; subst hp
         refine f1 (v := .bool false) Try.results12 Try.ntmps12 rfl ?_
         exact ⟨_, rfl, k _ hc⟩
 · replace hp := gpos hp (of_decide_eq_true hb1)
   refine Wct rfl ?_
   refine Wseq ?_
   refine Wreg ?_
   refine rs (v := .bool false) (av (v := .bool false) rfl) rfl ?_
   refine rn ?_
   refine qn ?_
   refine Wret ?_
   refine qr ?_
   injection hp with hp; subst hp
   refine f1 (v := .bool false) Try.results12 Try.ntmps12 rfl ?_
   exact ⟨_, rfl, k _ hc⟩

-- FN peloton/pelotonref01.Near
def ref01_Near (x0 : Int) (x1 : Int) (x2 : Int) : Option (Int) :=
  if x0 < x1 then
    some x1
  else
    if x0 > x2 then
      some x2
    else
      some x0

set_option maxHeartbeats 8000000 in
theorem ref01_Near_any {x0 : Int} {x1 : Int} {x2 : Int} {Fr : List HP} {w : World} {r : Int} {K : Value → World → Prop}  (hc : Ctx w (Fr)) (hp : ref01_Near x0 x1 x2 = some r)
    (k : ∀ w', Ctx w' (Fr) → K (.int .i64 r) w') : Calls Try.prog 27 #[.int .i64 x0, .int .i64 x1, .int .i64 x2] w (Ret K) := by
 unfold ref01_Near at hp
 refine Center (args := [.int .i64 x0, .int .i64 x1, .int .i64 x2]) (l := [(0, .int .i64 x0), (1, .int .i64 x1), (2, .int .i64 x2)]) Try.func27 Try.ntmps27 rfl rfl rfl ?_
 refine Wseq ?_
 refine Wreg ?_
 refine rs (v := .int .i64 0) (av (v := .int .i64 0) rfl) rfl ?_
 refine rn ?_
 refine qn ?_
 refine Wseq ?_
 refine Wseq ?_
 refine Wreg ?_
 refine rs (v := .int .i64 x0) (mv (v := .int .i64 x0) rfl) rfl ?_
 refine rs (v := .int .i64 x1) (mv (v := .int .i64 x1) rfl) rfl ?_
 refine rs (v := .bool (decide (x0 < x1))) (lt' rfl rfl) rfl ?_
 refine rn ?_
 refine qn ?_
 cases hb1 : (decide (x0 < x1))
 · replace hp := gneg hp (of_decide_eq_false hb1)
   refine Wcf rfl ?_
   refine Wskip ?_
   refine qn ?_
   refine Wseq ?_
   refine Wseq ?_
   refine Wreg ?_
   refine rs (v := .int .i64 x0) (mv (v := .int .i64 x0) rfl) rfl ?_
   refine rs (v := .int .i64 x2) (mv (v := .int .i64 x2) rfl) rfl ?_
   refine rs (v := .bool (decide (x0 > x2))) (gt' rfl rfl) rfl ?_
   refine rn ?_
   refine qn ?_
   cases hb2 : (decide (x0 > x2))
   · replace hp := gneg hp (of_decide_eq_false hb2)
     refine Wcf rfl ?_
     refine Wskip ?_
     refine qn ?_
     refine Wseq ?_
     refine Wreg ?_
     refine rs (v := .int .i64 x0) (mv (v := .int .i64 x0) rfl) rfl ?_
     refine rs (v := .int .i64 x0) (av (v := .int .i64 x0) rfl) rfl ?_
     refine rn ?_
     refine qn ?_
     refine Wret ?_
     injection hp with hp; subst hp
     refine f1 (v := .int .i64 x0) Try.results27 Try.ntmps27 rfl ?_
     exact ⟨_, rfl, k _ hc⟩
   · replace hp := gpos hp (of_decide_eq_true hb2)
     refine Wct rfl ?_
     refine Wseq ?_
     refine Wreg ?_
     refine rs (v := .int .i64 x2) (mv (v := .int .i64 x2) rfl) rfl ?_
     refine rs (v := .int .i64 x2) (av (v := .int .i64 x2) rfl) rfl ?_
     refine rn ?_
     refine qn ?_
     refine Wret ?_
     refine qr ?_
     injection hp with hp; subst hp
     refine f1 (v := .int .i64 x2) Try.results27 Try.ntmps27 rfl ?_
     exact ⟨_, rfl, k _ hc⟩
 · replace hp := gpos hp (of_decide_eq_true hb1)
   refine Wct rfl ?_
   refine Wseq ?_
   refine Wreg ?_
   refine rs (v := .int .i64 x1) (mv (v := .int .i64 x1) rfl) rfl ?_
   refine rs (v := .int .i64 x1) (av (v := .int .i64 x1) rfl) rfl ?_
   refine rn ?_
   refine qn ?_
   refine Wret ?_
   refine qr ?_
   injection hp with hp; subst hp
   refine f1 (v := .int .i64 x1) Try.results27 Try.ntmps27 rfl ?_
   exact ⟨_, rfl, k _ hc⟩

-- FN peloton/pelotonref01.Shift
def ref01_Shift.J4 (j12 : Int) (j17 : Bool) : Option (Int) :=
  if j17 = true then
    some (IntKind.i64.wrap (j12 + 1))
  else
    some j12

def ref01_Shift.J3 (j5 : Int) (j12 : Int) (j13 : Int) : Option (Int) :=
  if j13 > (IntKind.i64.wrap (j5 - j13)) then
    ref01_Shift.J4 j12 true
  else
    if j13 = (IntKind.i64.wrap (j5 - j13)) then
      ref01_Shift.J4 j12 (decide ((Int.tmod j12 2) ≠ 0))
    else
      ref01_Shift.J4 j12 false

def ref01_Shift.L2 (x0 : Int) (j1 : Int) : Nat → Int → Int → Option (Int)
  | 0, _, _ => none
  | m2 + 1, j5, j6 =>
    if j6 < j1 then
      (ref01_Shift.L2 x0 j1 m2) (IntKind.i64.wrap (j5 * 2)) (IntKind.i64.wrap (j6 + 1))
    else
      chk (j5 ≠ 0) <|
      (some (IntKind.i64.wrap (Int.tdiv x0 j5))).bind fun e10 =>
      chk (j5 ≠ 0) <|
      if (Int.tmod x0 j5) < 0 then
        (some (IntKind.i64.wrap ((Int.tmod x0 j5) + j5))).bind fun e15 =>
        ref01_Shift.J3 j5 (IntKind.i64.wrap (e10 - 1)) e15
      else
        ref01_Shift.J3 j5 e10 (Int.tmod x0 j5)

def ref01_Shift.J1 (N : Nat) (x0 : Int) (j1 : Int) : Option (Int) :=
  if j1 ≤ 0 then
    some x0
  else
    ref01_Shift.L2 x0 j1 N 1 0

def ref01_Shift (N : Nat) (x0 : Int) (x1 : Int) : Option (Int) :=
  if x1 > 62 then
    ref01_Shift.J1 N x0 62
  else
    ref01_Shift.J1 N x0 x1

set_option maxHeartbeats 8000000 in
theorem ref01_Shift_any {N : Nat} {x0 : Int} {x1 : Int} {Fr : List HP} {w : World} {r : Int} {K : Value → World → Prop}  (hc : Ctx w (Fr)) (hp : ref01_Shift N x0 x1 = some r)
    (k : ∀ w', Ctx w' (Fr) → K (.int .i64 r) w') : Calls Try.prog 29 #[.int .i64 x0, .int .i64 x1] w (Ret K) := by
 unfold ref01_Shift at hp
 refine Center (args := [.int .i64 x0, .int .i64 x1]) (l := [(0, .int .i64 x0), (1, .int .i64 x1)]) Try.func29 Try.ntmps29 rfl rfl rfl ?_
 refine Wseq ?_
 refine Wreg ?_
 refine rs (v := .int .i64 0) (av (v := .int .i64 0) rfl) rfl ?_
 refine rn ?_
 refine qn ?_
 refine Wseqm [1, 9, 10] [1] (fun vs w' => ∃ j1 : Int, vs = [.int .i64 j1] ∧ ref01_Shift.J1 N x0 j1 = some r ∧ Ctx w' (Fr)) ?_ ?_
 · refine Wseq ?_
   refine Wreg ?_
   refine rs (v := .int .i64 x1) (mv (v := .int .i64 x1) rfl) rfl ?_
   refine rs (v := .bool (decide (x1 > 62))) (gt' rfl rfl) rfl ?_
   refine rn ?_
   refine qn ?_
   cases hb2 : (decide (x1 > 62))
   · replace hp := gneg hp (of_decide_eq_false hb2)
     refine Wcf rfl ?_
     refine Wskip ?_
     refine qn ?_
     exact ⟨⟨x1, rfl, hp, hc⟩, (kl rfl kb)⟩
   · replace hp := gpos hp (of_decide_eq_true hb2)
     refine Wct rfl ?_
     refine Wreg ?_
     refine rs (v := .int .i64 62) (av (v := .int .i64 62) rfl) rfl ?_
     refine rn ?_
     refine qn ?_
     exact ⟨⟨62, rfl, hp, hc⟩, (kl rfl kb)⟩
 · clear hp hc; intro vs u w3 hJ
   obtain ⟨j1, rfl, hp, hc⟩ := hJ
   unfold ref01_Shift.J1 at hp
   refine Wseq ?_
   refine Wseq ?_
   refine Wreg ?_
   refine rs (v := .int .i64 j1) (mv (v := .int .i64 j1) rfl) rfl ?_
   refine rs (v := .bool (decide (j1 ≤ 0))) (le' rfl rfl) rfl ?_
   refine rn ?_
   refine qn ?_
   cases hb4 : (decide (j1 ≤ 0))
   · replace hp := gneg hp (of_decide_eq_false hb4)
     refine Wcf rfl ?_
     refine Wskip ?_
     refine qn ?_
     refine Wseq ?_
     refine Wreg ?_
     refine rs (v := .int .i64 1) (av (v := .int .i64 1) rfl) rfl ?_
     refine rn ?_
     refine qn ?_
     refine Wseq ?_
     refine Wseq ?_
     refine Wreg ?_
     refine rs (v := .int .i64 0) (av (v := .int .i64 0) rfl) rfl ?_
     refine rn ?_
     refine qn ?_
     refine Wblk ?_
     refine Wloop [5, 6, 14, 15, 16, 17, 18, 19, 20] [5, 6] (fun m vs w' => ∃ j5 : Int, ∃ j6 : Int, vs = [.int .i64 j5, .int .i64 j6] ∧ ref01_Shift.L2 x0 j1 m j5 j6 = some r ∧ Ctx w' (Fr)) N ?_ ?_
     · exact ⟨1, 0, rfl, hp, hc⟩
     · clear hp hc; intro m vs u w7 hJ
       obtain ⟨j5, j6, rfl, hp, hc⟩ := hJ
       rcases m with _ | m2
       · cases (show none = some r from hp)
       rw [ref01_Shift.L2] at hp
       refine Wseq ?_
       refine Wseq ?_
       refine Wreg ?_
       refine rs (v := .int .i64 j6) (mv (v := .int .i64 j6) rfl) rfl ?_
       refine rs (v := .int .i64 j1) (mv (v := .int .i64 j1) rfl) rfl ?_
       refine rs (v := .bool (decide (j6 < j1))) (lt' rfl rfl) rfl ?_
       refine rn ?_
       refine qn ?_
       cases hb8 : (decide (j6 < j1))
       · replace hp := gneg hp (of_decide_eq_false hb8)
         refine Wcf rfl ?_
         refine Wexit ?_
         refine qx ?_
         refine qx ?_
         refine be ?_
         refine qn ?_
         refine Wseq ?_
         refine Wreg ?_
         refine rs (v := .int .i64 x0) (mv (v := .int .i64 x0) rfl) rfl ?_
         refine rs (v := .int .i64 j5) (mv (v := .int .i64 j5) rfl) rfl ?_
         replace hp := chk_some hp; obtain ⟨hg9, hp⟩ := hp
         refine rs (v := .int .i64 (IntKind.i64.wrap (Int.tdiv x0 j5))) (quw rfl rfl hg9) rfl ?_
         replace hp := bind_some hp; obtain ⟨e10, he10, hp⟩ := hp
         injection he10 with he10
         refine rs (v := .int .i64 e10) (av (v := .int .i64 e10) (by rw [← he10]; rfl)) rfl ?_
         refine rn ?_
         refine qn ?_
         refine Wseq ?_
         refine Wreg ?_
         refine rs (v := .int .i64 x0) (mv (v := .int .i64 x0) rfl) rfl ?_
         refine rs (v := .int .i64 j5) (mv (v := .int .i64 j5) rfl) rfl ?_
         replace hp := chk_some hp; obtain ⟨hg11, hp⟩ := hp
         refine rs (v := .int .i64 (Int.tmod x0 j5)) (rm rfl rfl hg11) rfl ?_
         refine rs (v := .int .i64 (Int.tmod x0 j5)) (av (v := .int .i64 (Int.tmod x0 j5)) rfl) rfl ?_
         refine rn ?_
         refine qn ?_
         refine Wseqm [7, 8, 27, 28, 29, 30, 31, 32, 33] [7, 8] (fun vs w' => ∃ j12 : Int, ∃ j13 : Int, vs = [.int .i64 j12, .int .i64 j13] ∧ ref01_Shift.J3 j5 j12 j13 = some r ∧ Ctx w' (Fr)) ?_ ?_
         · refine Wseq ?_
           refine Wreg ?_
           refine rs (v := .int .i64 (Int.tmod x0 j5)) (mv (v := .int .i64 (Int.tmod x0 j5)) rfl) rfl ?_
           refine rs (v := .bool (decide ((Int.tmod x0 j5) < 0))) (lt' rfl rfl) rfl ?_
           refine rn ?_
           refine qn ?_
           cases hb14 : (decide ((Int.tmod x0 j5) < 0))
           · replace hp := gneg hp (of_decide_eq_false hb14)
             refine Wcf rfl ?_
             refine Wskip ?_
             refine qn ?_
             exact ⟨⟨e10, (Int.tmod x0 j5), rfl, hp, hc⟩, (kl rfl kb)⟩
           · replace hp := gpos hp (of_decide_eq_true hb14)
             refine Wct rfl ?_
             refine Wseq ?_
             refine Wreg ?_
             refine rs (v := .int .i64 e10) (mv (v := .int .i64 e10) rfl) rfl ?_
             refine rs (v := .int .i64 (IntKind.i64.wrap (e10 - 1))) (sbw rfl rfl) rfl ?_
             refine rs (v := .int .i64 (IntKind.i64.wrap (e10 - 1))) (av (v := .int .i64 (IntKind.i64.wrap (e10 - 1))) rfl) rfl ?_
             refine rn ?_
             refine qn ?_
             refine Wreg ?_
             refine rs (v := .int .i64 (Int.tmod x0 j5)) (mv (v := .int .i64 (Int.tmod x0 j5)) rfl) rfl ?_
             refine rs (v := .int .i64 j5) (mv (v := .int .i64 j5) rfl) rfl ?_
             refine rs (v := .int .i64 (IntKind.i64.wrap ((Int.tmod x0 j5) + j5))) (adw rfl rfl) rfl ?_
             replace hp := bind_some hp; obtain ⟨e15, he15, hp⟩ := hp
             injection he15 with he15
             refine rs (v := .int .i64 e15) (av (v := .int .i64 e15) (by rw [← he15]; rfl)) rfl ?_
             refine rn ?_
             refine qn ?_
             exact ⟨⟨(IntKind.i64.wrap (e10 - 1)), e15, rfl, hp, hc⟩, (kl rfl kb)⟩
         · clear hp hc; intro vs u w16 hJ
           obtain ⟨j12, j13, rfl, hp, hc⟩ := hJ
           unfold ref01_Shift.J3 at hp
           refine Wseq ?_
           refine Wseqm [34, 35, 36, 37, 38, 39, 40, 41, 42, 43, 44, 45, 46, 47, 48, 49, 50] [50] (fun vs w' => ∃ j17 : Bool, vs = [.bool j17] ∧ ref01_Shift.J4 j12 j17 = some r ∧ Ctx w' (Fr)) ?_ ?_
           · refine Wreg ?_
             refine rs (v := .int .i64 j13) (mv (v := .int .i64 j13) rfl) rfl ?_
             refine rs (v := .int .i64 j5) (mv (v := .int .i64 j5) rfl) rfl ?_
             refine rs (v := .int .i64 j13) (mv (v := .int .i64 j13) rfl) rfl ?_
             refine rs (v := .int .i64 (IntKind.i64.wrap (j5 - j13))) (sbw rfl rfl) rfl ?_
             refine rs (v := .bool (decide (j13 > (IntKind.i64.wrap (j5 - j13))))) (gt' rfl rfl) rfl ?_
             refine rs (v := .bool (decide (j13 > (IntKind.i64.wrap (j5 - j13))))) (mv (v := .bool (decide (j13 > (IntKind.i64.wrap (j5 - j13))))) rfl) rfl ?_
             cases hb18 : (decide (j13 > (IntKind.i64.wrap (j5 - j13))))
             · replace hp := gneg hp (of_decide_eq_false hb18)
               refine rs (v := .int .i64 j13) (mv (v := .int .i64 j13) rfl) rfl ?_
               refine rs (v := .int .i64 j5) (mv (v := .int .i64 j5) rfl) rfl ?_
               refine rs (v := .int .i64 j13) (mv (v := .int .i64 j13) rfl) rfl ?_
               refine rs (v := .int .i64 (IntKind.i64.wrap (j5 - j13))) (sbw rfl rfl) rfl ?_
               refine rs (v := .bool (decide (j13 = (IntKind.i64.wrap (j5 - j13))))) (eqd rfl rfl) rfl ?_
               refine rs (v := .bool (decide (j13 = (IntKind.i64.wrap (j5 - j13))))) (mv (v := .bool (decide (j13 = (IntKind.i64.wrap (j5 - j13))))) rfl) rfl ?_
               cases hb19 : (decide (j13 = (IntKind.i64.wrap (j5 - j13))))
               · replace hp := gneg hp (of_decide_eq_false hb19)
                 refine r0 rfl ?_
                 refine r0 rfl ?_
                 refine r0 rfl ?_
                 refine rs (v := .bool false) (pkf (v := .bool false) rfl rfl) rfl ?_
                 refine rs (v := .bool false) (pkf (v := .bool false) rfl rfl) rfl ?_
                 refine rn ?_
                 refine qn ?_
                 exact ⟨⟨false, rfl, hp, hc⟩, (kl rfl kb)⟩
               · replace hp := gpos hp (of_decide_eq_true hb19)
                 refine rs (v := .int .i64 j12) (mv (v := .int .i64 j12) rfl) rfl ?_
                 refine rs (v := .int .i64 (Int.tmod j12 2)) (rm rfl rfl (by decide)) rfl ?_
                 refine rs (v := .bool (decide ((Int.tmod j12 2) ≠ 0))) (ned rfl rfl) rfl ?_
                 refine rs (v := .bool (decide ((Int.tmod j12 2) ≠ 0))) (pkt (v := .bool (decide ((Int.tmod j12 2) ≠ 0))) rfl rfl) rfl ?_
                 refine rs (v := .bool (decide ((Int.tmod j12 2) ≠ 0))) (pkf (v := .bool (decide ((Int.tmod j12 2) ≠ 0))) rfl rfl) rfl ?_
                 refine rn ?_
                 refine qn ?_
                 exact ⟨⟨decide ((Int.tmod j12 2) ≠ 0), rfl, hp, hc⟩, (kl rfl kb)⟩
             · replace hp := gpos hp (of_decide_eq_true hb18)
               refine r0 rfl ?_
               refine r0 rfl ?_
               refine r0 rfl ?_
               refine r0 rfl ?_
               refine r0 rfl ?_
               refine r0 rfl ?_
               refine r0 rfl ?_
               refine r0 rfl ?_
               refine r0 rfl ?_
               refine r0 rfl ?_
               refine rs (v := .bool true) (pkt (v := .bool true) rfl rfl) rfl ?_
               refine rn ?_
               refine qn ?_
               exact ⟨⟨true, rfl, hp, hc⟩, (kl rfl kb)⟩
           · clear hp hc; intro vs u w20 hJ
             obtain ⟨j17, rfl, hp, hc⟩ := hJ
             unfold ref01_Shift.J4 at hp
             cases hb21 : j17
             · replace hp := gneg hp (by rw [hb21]; exact Bool.false_ne_true)
               subst hb21
               refine Wcf rfl ?_
               refine Wskip ?_
               refine qn ?_
               refine Wseq ?_
               refine Wreg ?_
               refine rs (v := .int .i64 j12) (mv (v := .int .i64 j12) rfl) rfl ?_
               refine rs (v := .int .i64 j12) (av (v := .int .i64 j12) rfl) rfl ?_
               refine rn ?_
               refine qn ?_
               refine Wret ?_
               injection hp with hp; subst hp
               refine f1 (v := .int .i64 j12) Try.results29 Try.ntmps29 rfl ?_
               exact ⟨_, rfl, k _ hc⟩
             · replace hp := gpos hp hb21
               subst hb21
               refine Wct rfl ?_
               refine Wreg ?_
               refine rs (v := .int .i64 j12) (mv (v := .int .i64 j12) rfl) rfl ?_
               refine rs (v := .int .i64 (IntKind.i64.wrap (j12 + 1))) (adw rfl rfl) rfl ?_
               refine rs (v := .int .i64 (IntKind.i64.wrap (j12 + 1))) (av (v := .int .i64 (IntKind.i64.wrap (j12 + 1))) rfl) rfl ?_
               refine rn ?_
               refine qn ?_
               refine Wseq ?_
               refine Wreg ?_
               refine rs (v := .int .i64 (IntKind.i64.wrap (j12 + 1))) (mv (v := .int .i64 (IntKind.i64.wrap (j12 + 1))) rfl) rfl ?_
               refine rs (v := .int .i64 (IntKind.i64.wrap (j12 + 1))) (av (v := .int .i64 (IntKind.i64.wrap (j12 + 1))) rfl) rfl ?_
               refine rn ?_
               refine qn ?_
               refine Wret ?_
               injection hp with hp; subst hp
               refine f1 (v := .int .i64 (IntKind.i64.wrap (j12 + 1))) Try.results29 Try.ntmps29 rfl ?_
               exact ⟨_, rfl, k _ hc⟩
       · replace hp := gpos hp (of_decide_eq_true hb8)
         refine Wct rfl ?_
         refine Wskip ?_
         refine qn ?_
         refine Wseq ?_
         refine Wblk ?_
         refine Wreg ?_
         refine rs (v := .int .i64 j5) (mv (v := .int .i64 j5) rfl) rfl ?_
         refine rs (v := .int .i64 (IntKind.i64.wrap (j5 * 2))) (mlw rfl rfl) rfl ?_
         refine rs (v := .int .i64 (IntKind.i64.wrap (j5 * 2))) (av (v := .int .i64 (IntKind.i64.wrap (j5 * 2))) rfl) rfl ?_
         refine rn ?_
         refine bn ?_
         refine qn ?_
         refine Wreg ?_
         refine rs (v := .int .i64 j6) (mv (v := .int .i64 j6) rfl) rfl ?_
         refine rs (v := .int .i64 (IntKind.i64.wrap (j6 + 1))) (adw rfl rfl) rfl ?_
         refine rs (v := .int .i64 (IntKind.i64.wrap (j6 + 1))) (av (v := .int .i64 (IntKind.i64.wrap (j6 + 1))) rfl) rfl ?_
         refine rn ?_
         refine qn ?_
         exact ⟨m2, Nat.lt_succ_self _, ⟨(IntKind.i64.wrap (j5 * 2)), (IntKind.i64.wrap (j6 + 1)), rfl, hp, hc⟩, (kl rfl k0)⟩
   · replace hp := gpos hp (of_decide_eq_true hb4)
     refine Wct rfl ?_
     refine Wseq ?_
     refine Wreg ?_
     refine rs (v := .int .i64 x0) (mv (v := .int .i64 x0) rfl) rfl ?_
     refine rs (v := .int .i64 x0) (av (v := .int .i64 x0) rfl) rfl ?_
     refine rn ?_
     refine qn ?_
     refine Wret ?_
     refine qr ?_
     injection hp with hp; subst hp
     refine f1 (v := .int .i64 x0) Try.results29 Try.ntmps29 rfl ?_
     exact ⟨_, rfl, k _ hc⟩

-- FN peloton/pelotonref01.Mod
def ref01_Mod.J1 (j1 : Int) : Option (Int) :=
  if j1 ≥ 2147483648 then
    (some (IntKind.i64.wrap (j1 - 4294967296))).bind fun e6 =>
    some (IntKind.i32.wrap e6)
  else
    some (IntKind.i32.wrap j1)

def ref01_Mod (x0 : Int) : Option (Int) :=
  if (Int.tmod x0 4294967296) < 0 then
    (some (IntKind.i64.wrap ((Int.tmod x0 4294967296) + 4294967296))).bind fun e3 =>
    ref01_Mod.J1 e3
  else
    ref01_Mod.J1 (Int.tmod x0 4294967296)

set_option maxHeartbeats 8000000 in
theorem ref01_Mod_any {x0 : Int} {Fr : List HP} {w : World} {r : Int} {K : Value → World → Prop}  (hc : Ctx w (Fr)) (hp : ref01_Mod x0 = some r)
    (k : ∀ w', Ctx w' (Fr) → K (.int .i32 r) w') : Calls Try.prog 46 #[.int .i64 x0] w (Ret K) := by
 unfold ref01_Mod at hp
 refine Center (args := [.int .i64 x0]) (l := [(0, .int .i64 x0)]) Try.func46 Try.ntmps46 rfl rfl rfl ?_
 refine Wseq ?_
 refine Wreg ?_
 refine rs (v := .int .i32 0) (av (v := .int .i32 0) rfl) rfl ?_
 refine rn ?_
 refine qn ?_
 refine Wseq ?_
 refine Wreg ?_
 refine rs (v := .int .i64 x0) (mv (v := .int .i64 x0) rfl) rfl ?_
 refine rs (v := .int .i64 (Int.tmod x0 4294967296)) (rm rfl rfl (by decide)) rfl ?_
 refine rs (v := .int .i64 (Int.tmod x0 4294967296)) (av (v := .int .i64 (Int.tmod x0 4294967296)) rfl) rfl ?_
 refine rn ?_
 refine qn ?_
 refine Wseqm [3, 6, 7, 8, 9] [3] (fun vs w' => ∃ j1 : Int, vs = [.int .i64 j1] ∧ ref01_Mod.J1 j1 = some r ∧ Ctx w' (Fr)) ?_ ?_
 · refine Wseq ?_
   refine Wreg ?_
   refine rs (v := .int .i64 (Int.tmod x0 4294967296)) (mv (v := .int .i64 (Int.tmod x0 4294967296)) rfl) rfl ?_
   refine rs (v := .bool (decide ((Int.tmod x0 4294967296) < 0))) (lt' rfl rfl) rfl ?_
   refine rn ?_
   refine qn ?_
   cases hb2 : (decide ((Int.tmod x0 4294967296) < 0))
   · replace hp := gneg hp (of_decide_eq_false hb2)
     refine Wcf rfl ?_
     refine Wskip ?_
     refine qn ?_
     exact ⟨⟨(Int.tmod x0 4294967296), rfl, hp, hc⟩, (kl rfl kb)⟩
   · replace hp := gpos hp (of_decide_eq_true hb2)
     refine Wct rfl ?_
     refine Wreg ?_
     refine rs (v := .int .i64 (Int.tmod x0 4294967296)) (mv (v := .int .i64 (Int.tmod x0 4294967296)) rfl) rfl ?_
     refine rs (v := .int .i64 (IntKind.i64.wrap ((Int.tmod x0 4294967296) + 4294967296))) (adw rfl rfl) rfl ?_
     replace hp := bind_some hp; obtain ⟨e3, he3, hp⟩ := hp
     injection he3 with he3
     refine rs (v := .int .i64 e3) (av (v := .int .i64 e3) (by rw [← he3]; rfl)) rfl ?_
     refine rn ?_
     refine qn ?_
     exact ⟨⟨e3, rfl, hp, hc⟩, (kl rfl kb)⟩
 · clear hp hc; intro vs u w4 hJ
   obtain ⟨j1, rfl, hp, hc⟩ := hJ
   unfold ref01_Mod.J1 at hp
   refine Wseq ?_
   refine Wseq ?_
   refine Wreg ?_
   refine rs (v := .int .i64 j1) (mv (v := .int .i64 j1) rfl) rfl ?_
   refine rs (v := .bool (decide (j1 ≥ 2147483648))) (ge' rfl rfl) rfl ?_
   refine rn ?_
   refine qn ?_
   cases hb5 : (decide (j1 ≥ 2147483648))
   · replace hp := gneg hp (of_decide_eq_false hb5)
     refine Wcf rfl ?_
     refine Wskip ?_
     refine qn ?_
     refine Wseq ?_
     refine Wreg ?_
     refine rs (v := .int .i64 j1) (mv (v := .int .i64 j1) rfl) rfl ?_
     refine rs (v := .int .i32 (IntKind.i32.wrap j1)) (cvi rfl Try.underlying2 Try.underlying21) rfl ?_
     refine rs (v := .int .i32 (IntKind.i32.wrap j1)) (av (v := .int .i32 (IntKind.i32.wrap j1)) rfl) rfl ?_
     refine rn ?_
     refine qn ?_
     refine Wret ?_
     injection hp with hp; subst hp
     refine f1 (v := .int .i32 (IntKind.i32.wrap j1)) Try.results46 Try.ntmps46 rfl ?_
     exact ⟨_, rfl, k _ hc⟩
   · replace hp := gpos hp (of_decide_eq_true hb5)
     refine Wct rfl ?_
     refine Wreg ?_
     refine rs (v := .int .i64 j1) (mv (v := .int .i64 j1) rfl) rfl ?_
     refine rs (v := .int .i64 (IntKind.i64.wrap (j1 - 4294967296))) (sbw rfl rfl) rfl ?_
     replace hp := bind_some hp; obtain ⟨e6, he6, hp⟩ := hp
     injection he6 with he6
     refine rs (v := .int .i64 e6) (av (v := .int .i64 e6) (by rw [← he6]; rfl)) rfl ?_
     refine rn ?_
     refine qn ?_
     refine Wseq ?_
     refine Wreg ?_
     refine rs (v := .int .i64 e6) (mv (v := .int .i64 e6) rfl) rfl ?_
     refine rs (v := .int .i32 (IntKind.i32.wrap e6)) (cvi rfl Try.underlying2 Try.underlying21) rfl ?_
     refine rs (v := .int .i32 (IntKind.i32.wrap e6)) (av (v := .int .i32 (IntKind.i32.wrap e6)) rfl) rfl ?_
     refine rn ?_
     refine qn ?_
     refine Wret ?_
     injection hp with hp; subst hp
     refine f1 (v := .int .i32 (IntKind.i32.wrap e6)) Try.results46 Try.ntmps46 rfl ?_
     exact ⟨_, rfl, k _ hc⟩

-- FN peloton/pelotonref01.Wrap
def ref01_Wrap.L1 (x0 : (List Int)) : Nat → Int → Int → Option (Int)
  | 0, _, _ => none
  | m1 + 1, j1, j2 =>
    if j2 < ((x0.length : Nat) : Int) then
      (idx x0 j2).bind fun y5 =>
      (ref01_Mod y5).bind fun r14 =>
      (ref01_Mod (IntKind.i64.wrap (j1 + (IntKind.i64.wrap r14)))).bind fun r16 =>
      (ref01_Wrap.L1 x0 m1) (IntKind.i64.wrap r16) (IntKind.i64.wrap (j2 + 1))
    else
      some (IntKind.i32.wrap j1)

def ref01_Wrap (N : Nat) (x0 : (List Int)) : Option (Int) :=
  ref01_Wrap.L1 x0 N 0 0

set_option maxHeartbeats 8000000 in
theorem ref01_Wrap_any {N : Nat} {x0 : (List Int)} {ax0 : Option Addr} {nx0 : Nat} {qx0 : Nat} {P0 : HP} {Fr : List HP} {w : World} {r : Int} {K : Value → World → Prop} (hrd0 : Reads P0 (pInt .i64) (.slice ax0 nx0 qx0) x0) (hc : Ctx w (P0 :: Fr)) (hp : ref01_Wrap N x0 = some r)
    (k : ∀ w', Ctx w' (P0 :: Fr) → K (.int .i32 r) w') : Calls Try.prog 38 #[.slice ax0 nx0 qx0] w (Ret K) := by
 unfold ref01_Wrap at hp
 refine Center (args := [.slice ax0 nx0 qx0]) (l := [(0, .slice ax0 nx0 qx0)]) Try.func38 Try.ntmps38 rfl rfl rfl ?_
 obtain ⟨hn0, _⟩ := Ctx.rdLen hc (k := 0) rfl rfl hrd0; subst hn0
 refine Wseq ?_
 refine Wreg ?_
 refine rs (v := .int .i32 0) (av (v := .int .i32 0) rfl) rfl ?_
 refine rn ?_
 refine qn ?_
 refine Wseq ?_
 refine Wreg ?_
 refine rs (v := .int .i64 0) (av (v := .int .i64 0) rfl) rfl ?_
 refine rn ?_
 refine qn ?_
 refine Wseq ?_
 refine Wseq ?_
 refine Wreg ?_
 refine rs (v := .int .i64 0) (av (v := .int .i64 0) rfl) rfl ?_
 refine rn ?_
 refine qn ?_
 refine Wblk ?_
 refine Wloop [3, 4, 5, 6, 7, 8, 9, 10, 11, 12, 13, 14, 15, 16, 17, 18, 19, 20] [3, 4] (fun m vs w' => ∃ j1 : Int, ∃ j2 : Int, vs = [.int .i64 j1, .int .i64 j2] ∧ ref01_Wrap.L1 x0 m j1 j2 = some r ∧ Ctx w' (P0 :: Fr)) N ?_ ?_
 · exact ⟨0, 0, rfl, hp, hc⟩
 · clear hp hc; intro m vs u w3 hJ
   obtain ⟨j1, j2, rfl, hp, hc⟩ := hJ
   rcases m with _ | m1
   · cases (show none = some r from hp)
   rw [ref01_Wrap.L1] at hp
   refine Wseq ?_
   refine Wseq ?_
   refine Wreg ?_
   refine rs (v := .int .i64 j2) (mv (v := .int .i64 j2) rfl) rfl ?_
   refine rs (v := .slice ax0 x0.length qx0) (mv (v := .slice ax0 x0.length qx0) rfl) rfl ?_
   refine rs (v := .int .i64 ((x0.length : Nat) : Int)) (ln rfl Try.underlying64) rfl ?_
   refine rs (v := .bool (decide (j2 < ((x0.length : Nat) : Int)))) (lt' rfl rfl) rfl ?_
   refine rn ?_
   refine qn ?_
   cases hb4 : (decide (j2 < ((x0.length : Nat) : Int)))
   · replace hp := gneg hp (of_decide_eq_false hb4)
     refine Wcf rfl ?_
     refine Wexit ?_
     refine qx ?_
     refine qx ?_
     refine be ?_
     refine qn ?_
     refine Wseq ?_
     refine Wreg ?_
     refine rs (v := .int .i64 j1) (mv (v := .int .i64 j1) rfl) rfl ?_
     refine rs (v := .int .i32 (IntKind.i32.wrap j1)) (cvi rfl Try.underlying2 Try.underlying21) rfl ?_
     refine rs (v := .int .i32 (IntKind.i32.wrap j1)) (av (v := .int .i32 (IntKind.i32.wrap j1)) rfl) rfl ?_
     refine rn ?_
     refine qn ?_
     refine Wret ?_
     injection hp with hp; subst hp
     refine f1 (v := .int .i32 (IntKind.i32.wrap j1)) Try.results38 Try.ntmps38 rfl ?_
     exact ⟨_, rfl, k _ hc⟩
   · replace hp := gpos hp (of_decide_eq_true hb4)
     refine Wct rfl ?_
     refine Wskip ?_
     refine qn ?_
     refine Wseq ?_
     refine Wblk ?_
     refine Wreg ?_
     refine rs (v := .int .i64 j1) (mv (v := .int .i64 j1) rfl) rfl ?_
     refine rs (v := .slice ax0 x0.length qx0) (mv (v := .slice ax0 x0.length qx0) rfl) rfl ?_
     refine rs (v := .int .i64 j2) (mv (v := .int .i64 j2) rfl) rfl ?_
     replace hp := bind_some hp; obtain ⟨y5, hy5, hp⟩ := hp
     obtain ⟨b8, o9, u10, hi6, hi7⟩ := Ctx.rdAt hc (k := 0) rfl rfl hrd0 hy5
     subst u10
     refine rs (v := .pointer (some ⟨b8, o9 + (j2).toNat * 1, none⟩)) (ixx rfl rfl Try.underlying64 Try.sizeOf2 hi6 hi7 rfl) rfl ?_
     replace hc := Ctx.rdCell hc (k := 0) rfl rfl hrd0 hy5; obtain ⟨cs11, hc, hcell12⟩ := hc
     replace hc := Ctx.holdC hc; obtain ⟨u13, hc⟩ := hc; subst u13
     refine rs (v := .int .i64 y5) (ld rfl Try.isAgg2 (hcell12 0 _ rfl)) rfl ?_
     replace hp := bind_some hp; obtain ⟨r14, hr14, hp⟩ := hp
     refine rc (cl Try.call46 rfl rfl) rfl ?_
     refine ref01_Mod_any hc hr14 ?_
     clear hc; intro w15 hc
     refine rs (v := .int .i64 (IntKind.i64.wrap r14)) (cvi rfl Try.underlying21 Try.underlying2) rfl ?_
     refine rs (v := .int .i64 (IntKind.i64.wrap (j1 + (IntKind.i64.wrap r14)))) (adw rfl rfl) rfl ?_
     replace hp := bind_some hp; obtain ⟨r16, hr16, hp⟩ := hp
     refine rc (cl Try.call46 rfl rfl) rfl ?_
     refine ref01_Mod_any hc hr16 ?_
     clear hc; intro w17 hc
     refine rs (v := .int .i64 (IntKind.i64.wrap r16)) (cvi rfl Try.underlying21 Try.underlying2) rfl ?_
     refine rs (v := .int .i64 (IntKind.i64.wrap r16)) (av (v := .int .i64 (IntKind.i64.wrap r16)) rfl) rfl ?_
     refine rn ?_
     refine bn ?_
     refine qn ?_
     refine Wreg ?_
     refine rs (v := .int .i64 j2) (mv (v := .int .i64 j2) rfl) rfl ?_
     refine rs (v := .int .i64 (IntKind.i64.wrap (j2 + 1))) (adw rfl rfl) rfl ?_
     refine rs (v := .int .i64 (IntKind.i64.wrap (j2 + 1))) (av (v := .int .i64 (IntKind.i64.wrap (j2 + 1))) rfl) rfl ?_
     refine rn ?_
     refine qn ?_
     exact ⟨m1, Nat.lt_succ_self _, ⟨(IntKind.i64.wrap r16), (IntKind.i64.wrap (j2 + 1)), rfl, hp, hc⟩, (kl rfl k0)⟩

-- FN peloton/pelotonref01.Scale
def ref01_Scale (N : Nat) (x0 : Int) (x1 : Int) (x2 : Int) (x3 : Int) (x4 : Int) : Option (Int) :=
  (ref01_Shift N (IntKind.i64.wrap ((IntKind.i64.wrap x0) * (IntKind.i64.wrap x1))) x2).bind fun r1 =>
  (ref01_Near r1 x3 x4).bind fun r3 =>
  some r3

set_option maxHeartbeats 8000000 in
theorem ref01_Scale_any {N : Nat} {x0 : Int} {x1 : Int} {x2 : Int} {x3 : Int} {x4 : Int} {Fr : List HP} {w : World} {r : Int} {K : Value → World → Prop}  (hc : Ctx w (Fr)) (hp : ref01_Scale N x0 x1 x2 x3 x4 = some r)
    (k : ∀ w', Ctx w' (Fr) → K (.int .i64 r) w') : Calls Try.prog 39 #[.int .i32 x0, .int .i32 x1, .int .i64 x2, .int .i64 x3, .int .i64 x4] w (Ret K) := by
 unfold ref01_Scale at hp
 refine Center (args := [.int .i32 x0, .int .i32 x1, .int .i64 x2, .int .i64 x3, .int .i64 x4]) (l := [(0, .int .i32 x0), (1, .int .i32 x1), (2, .int .i64 x2), (3, .int .i64 x3), (4, .int .i64 x4)]) Try.func39 Try.ntmps39 rfl rfl rfl ?_
 refine Wseq ?_
 refine Wreg ?_
 refine rs (v := .int .i64 0) (av (v := .int .i64 0) rfl) rfl ?_
 refine rn ?_
 refine qn ?_
 refine Wseq ?_
 refine Wreg ?_
 refine rs (v := .int .i32 x0) (mv (v := .int .i32 x0) rfl) rfl ?_
 refine rs (v := .int .i64 (IntKind.i64.wrap x0)) (cvi rfl Try.underlying21 Try.underlying2) rfl ?_
 refine rs (v := .int .i32 x1) (mv (v := .int .i32 x1) rfl) rfl ?_
 refine rs (v := .int .i64 (IntKind.i64.wrap x1)) (cvi rfl Try.underlying21 Try.underlying2) rfl ?_
 refine rs (v := .int .i64 (IntKind.i64.wrap ((IntKind.i64.wrap x0) * (IntKind.i64.wrap x1)))) (mlw rfl rfl) rfl ?_
 refine rs (v := .int .i64 x2) (mv (v := .int .i64 x2) rfl) rfl ?_
 replace hp := bind_some hp; obtain ⟨r1, hr1, hp⟩ := hp
 refine rc (cl Try.call29 rfl rfl) rfl ?_
 refine ref01_Shift_any hc hr1 ?_
 clear hc; intro w2 hc
 refine rs (v := .int .i64 x3) (mv (v := .int .i64 x3) rfl) rfl ?_
 refine rs (v := .int .i64 x4) (mv (v := .int .i64 x4) rfl) rfl ?_
 replace hp := bind_some hp; obtain ⟨r3, hr3, hp⟩ := hp
 refine rc (cl Try.call27 rfl rfl) rfl ?_
 refine ref01_Near_any hc hr3 ?_
 clear hc; intro w4 hc
 refine rs (v := .int .i64 r3) (av (v := .int .i64 r3) rfl) rfl ?_
 refine rn ?_
 refine qn ?_
 refine Wret ?_
 injection hp with hp; subst hp
 refine f1 (v := .int .i64 r3) Try.results39 Try.ntmps39 rfl ?_
 exact ⟨_, rfl, k _ hc⟩

-- FN peloton/pelotonref05.Mix
def ref05_Mix.L3 (N : Nat) (x0 : (List Int)) (x1 : (List (List Int))) (j6 : (List Int)) (j10 : Int) (k2 : (List Int) → Int → Option ((List Int) × Bool)) : Nat → Int → Int → Option ((List Int) × Bool)
  | 0, _, _ => none
  | m3 + 1, j26, j27 =>
    if j27 < ((x1.length : Nat) : Int) then
      (idx x0 j27).bind fun y43 =>
      (idx x1 j27).bind fun y52 =>
      (idx y52 j10).bind fun y64 =>
      (ref05_Mix.L3 N x0 x1 j6 j10 k2 m3) (IntKind.i64.wrap (j26 + (IntKind.i64.wrap ((IntKind.i64.wrap y43) * (IntKind.i64.wrap y64))))) (IntKind.i64.wrap (j27 + 1))
    else
      (ref01_Shift N j26 16).bind fun r30 =>
      (ref01_Near r30 (-128) 127).bind fun r32 =>
      (app j6 ([(IntKind.i8.wrap r32)])).bind fun z36 =>
      k2 z36 (IntKind.i64.wrap (j10 + 1))

def ref05_Mix.L2 (N : Nat) (x0 : (List Int)) (x1 : (List (List Int))) : Nat → (List Int) → Int → Option ((List Int) × Bool)
  | 0, _, _ => none
  | m2 + 1, j6, j10 =>
    (idx x1 (0 : Int)).bind fun y13 =>
    if j10 < ((y13.length : Nat) : Int) then
      ref05_Mix.L3 N x0 x1 j6 j10 (ref05_Mix.L2 N x0 x1 m2) N 0 0
    else
      some (j6, true)

def ref05_Mix.L1 (N : Nat) (x0 : (List Int)) (x1 : (List (List Int))) : Nat → Int → Option ((List Int) × Bool)
  | 0, _ => none
  | m1 + 1, j2 =>
    if j2 < ((x1.length : Nat) : Int) then
      (idx x1 j2).bind fun y74 =>
      (idx x1 (0 : Int)).bind fun y86 =>
      if ((y74.length : Nat) : Int) ≠ ((y86.length : Nat) : Int) then
        some ([], false)
      else
        (ref05_Mix.L1 N x0 x1 m1) (IntKind.i64.wrap (j2 + 1))
    else
      if ((x1.length : Nat) : Int) = 0 then
        some ([], true)
      else
        ref05_Mix.L2 N x0 x1 N ([]) 0

def ref05_Mix (N : Nat) (x0 : (List Int)) (x1 : (List (List Int))) : Option ((List Int) × Bool) :=
  if ((x0.length : Nat) : Int) ≠ ((x1.length : Nat) : Int) then
    some ([], false)
  else
    ref05_Mix.L1 N x0 x1 N 0

set_option maxHeartbeats 8000000 in
theorem ref05_Mix_any {N : Nat} {x0 : (List Int)} {ax0 : Option Addr} {nx0 : Nat} {qx0 : Nat} {P0 : HP} {x1 : (List (List Int))} {ax1 : Option Addr} {nx1 : Nat} {qx1 : Nat} {P1 : HP} {Fr : List HP} {w : World} {r : (List Int) × Bool} {K : Value → World → Prop} (hrd0 : Reads P0 (pInt .i32) (.slice ax0 nx0 qx0) x0) (hrd1 : Reads P1 (pRo (pInt .i8)) (.slice ax1 nx1 qx1) x1) (hc : Ctx w (P0 :: P1 :: Fr)) (hp : ref05_Mix N x0 x1 = some r)
    (k : ∀ (a99 : Option Addr) (n100 : Nat) (q101 : Nat) w', Ctx w' (Own (pInt .i8) 38 (.slice a99 n100 q101) r.1 :: P0 :: P1 :: Fr) → K (.tuple #[.slice a99 n100 q101, .bool r.2]) w') : Calls Try.prog 19 #[.slice ax0 nx0 qx0, .slice ax1 nx1 qx1] w (Ret K) := by
 unfold ref05_Mix at hp
 refine Center (args := [.slice ax0 nx0 qx0, .slice ax1 nx1 qx1]) (l := [(0, .slice ax0 nx0 qx0), (1, .slice ax1 nx1 qx1)]) Try.func19 Try.ntmps19 rfl rfl rfl ?_
 obtain ⟨hn0, _⟩ := Ctx.rdLen hc (k := 0) rfl rfl hrd0; subst hn0
 obtain ⟨hn1, _⟩ := Ctx.rdLen hc (k := 1) rfl rfl hrd1; subst hn1
 refine Wseq ?_
 refine Wreg ?_
 refine rs (v := .slice none 0 0) (av (v := .slice none 0 0) rfl) rfl ?_
 refine rs (v := .bool false) (av (v := .bool false) rfl) rfl ?_
 refine rn ?_
 refine qn ?_
 refine Wseq ?_
 refine Wseq ?_
 refine Wreg ?_
 refine rs (v := .slice ax0 x0.length qx0) (mv (v := .slice ax0 x0.length qx0) rfl) rfl ?_
 refine rs (v := .int .i64 ((x0.length : Nat) : Int)) (ln rfl Try.underlying23) rfl ?_
 refine rs (v := .slice ax1 x1.length qx1) (mv (v := .slice ax1 x1.length qx1) rfl) rfl ?_
 refine rs (v := .int .i64 ((x1.length : Nat) : Int)) (ln rfl Try.underlying40) rfl ?_
 refine rs (v := .bool (decide (((x0.length : Nat) : Int) ≠ ((x1.length : Nat) : Int)))) (ned rfl rfl) rfl ?_
 refine rn ?_
 refine qn ?_
 cases hb1 : (decide (((x0.length : Nat) : Int) ≠ ((x1.length : Nat) : Int)))
 · replace hp := gneg hp (of_decide_eq_false hb1)
   refine Wcf rfl ?_
   refine Wskip ?_
   refine qn ?_
   refine Wseq ?_
   refine Wreg ?_
   refine rs (v := .slice none 0 0) (av (v := .slice none 0 0) rfl) rfl ?_
   refine rn ?_
   refine qn ?_
   refine Wseq ?_
   refine Wseq ?_
   refine Wreg ?_
   refine rs (v := .int .i64 0) (av (v := .int .i64 0) rfl) rfl ?_
   refine rn ?_
   refine qn ?_
   refine Wblk ?_
   refine Wloop [4, 5, 7, 16, 17, 18, 19, 20, 21, 22, 23, 24, 25, 26, 27, 28, 29, 30, 31] [7] (fun m vs w' => ∃ j2 : Int, vs = [.int .i64 j2] ∧ ref05_Mix.L1 N x0 x1 m j2 = some r ∧ Ctx w' (P0 :: P1 :: Fr)) N ?_ ?_
   · exact ⟨0, rfl, hp, hc⟩
   · clear hp hc; intro m vs u w3 hJ
     obtain ⟨j2, rfl, hp, hc⟩ := hJ
     rcases m with _ | m1
     · cases (show none = some r from hp)
     rw [ref05_Mix.L1] at hp
     refine Wseq ?_
     refine Wseq ?_
     refine Wreg ?_
     refine rs (v := .int .i64 j2) (mv (v := .int .i64 j2) rfl) rfl ?_
     refine rs (v := .slice ax1 x1.length qx1) (mv (v := .slice ax1 x1.length qx1) rfl) rfl ?_
     refine rs (v := .int .i64 ((x1.length : Nat) : Int)) (ln rfl Try.underlying40) rfl ?_
     refine rs (v := .bool (decide (j2 < ((x1.length : Nat) : Int)))) (lt' rfl rfl) rfl ?_
     refine rn ?_
     refine qn ?_
     cases hb4 : (decide (j2 < ((x1.length : Nat) : Int)))
     · replace hp := gneg hp (of_decide_eq_false hb4)
       refine Wcf rfl ?_
       refine Wexit ?_
       refine qx ?_
       refine qx ?_
       refine be ?_
       refine qn ?_
       refine Wseq ?_
       refine Wseq ?_
       refine Wreg ?_
       refine rs (v := .slice ax1 x1.length qx1) (mv (v := .slice ax1 x1.length qx1) rfl) rfl ?_
       refine rs (v := .int .i64 ((x1.length : Nat) : Int)) (ln rfl Try.underlying40) rfl ?_
       refine rs (v := .bool (decide (((x1.length : Nat) : Int) = 0))) (eqd rfl rfl) rfl ?_
       refine rn ?_
       refine qn ?_
       cases hb5 : (decide (((x1.length : Nat) : Int) = 0))
       · replace hp := gneg hp (of_decide_eq_false hb5)
         refine Wcf rfl ?_
         refine Wskip ?_
         refine qn ?_
         refine Wseq ?_
         refine Wseq ?_
         refine Wreg ?_
         refine rs (v := .int .i64 0) (av (v := .int .i64 0) rfl) rfl ?_
         refine rn ?_
         refine qn ?_
         refine Wblk ?_
         replace hc := hc.nilOwn (pInt .i8) 38
         replace hc := hc.pull 2 rfl rfl
         replace hc := hc.pull 2 rfl rfl
         refine Wloop [6, 8, 9, 10, 35, 36, 37, 38, 39, 40, 41, 42, 43, 44, 45, 46, 47, 48, 49, 50, 51, 52, 53, 54, 55, 56, 57, 58, 59, 60, 61, 62, 63, 64, 65, 66, 67, 68, 69, 70, 71] [6, 8] (fun m vs w' => ∃ j6 : (List Int), ∃ j10 : Int, ∃ a7 : Option Addr, ∃ n8 : Nat, ∃ q9 : Nat, vs = [.slice a7 n8 q9, .int .i64 j10] ∧ ref05_Mix.L2 N x0 x1 m j6 j10 = some r ∧ Ctx w' (P0 :: P1 :: Own (pInt .i8) 38 (.slice a7 n8 q9) j6 :: Fr)) N ?_ ?_
         · exact ⟨[], 0, none, 0, 0, rfl, hp, hc⟩
         · clear hp hc; intro m vs u w11 hJ
           obtain ⟨j6, j10, a7, n8, q9, rfl, hp, hc⟩ := hJ
           obtain ⟨u12, _⟩ := Ctx.rdLen hc (k := 2) rfl rfl reads_own; subst u12
           rcases m with _ | m2
           · cases (show none = some r from hp)
           rw [ref05_Mix.L2] at hp
           refine Wseq ?_
           refine Wseq ?_
           refine Wreg ?_
           refine rs (v := .int .i64 j10) (mv (v := .int .i64 j10) rfl) rfl ?_
           refine rs (v := .slice ax1 x1.length qx1) (mv (v := .slice ax1 x1.length qx1) rfl) rfl ?_
           replace hp := bind_some hp; obtain ⟨y13, hy13, hp⟩ := hp
           obtain ⟨b16, o17, u18, hi14, hi15⟩ := Ctx.rdAt hc (k := 1) rfl rfl hrd1 hy13
           subst u18
           refine rs (v := .pointer (some ⟨b16, o17 + ((0 : Int)).toNat * 1, none⟩)) (ixx rfl rfl Try.underlying40 Try.sizeOf22 hi14 hi15 rfl) rfl ?_
           replace hc := Ctx.rdCell hc (k := 1) rfl rfl hrd1 hy13; obtain ⟨cs19, hc, hcell20⟩ := hc
           replace hc := Ctx.holdRo hc; obtain ⟨v24, u21, hc⟩ := hc; subst u21
           obtain ⟨a22, q23, u21⟩ := hc.rd (k := 0) rfl rfl reads_ro; subst u21
           refine rs (v := .slice a22 y13.length q23) (ld rfl Try.isAgg22 (hcell20 0 _ rfl)) rfl ?_
           refine rs (v := .int .i64 ((y13.length : Nat) : Int)) (ln rfl Try.underlying22) rfl ?_
           refine rs (v := .bool (decide (j10 < ((y13.length : Nat) : Int)))) (lt' rfl rfl) rfl ?_
           refine rn ?_
           refine qn ?_
           cases hb25 : (decide (j10 < ((y13.length : Nat) : Int)))
           · replace hp := gneg hp (of_decide_eq_false hb25)
             refine Wcf rfl ?_
             refine Wexit ?_
             refine qx ?_
             refine qx ?_
             refine be ?_
             refine qn ?_
             refine Wseq ?_
             refine Wreg ?_
             refine rs (v := .slice a7 j6.length q9) (mv (v := .slice a7 j6.length q9) rfl) rfl ?_
             refine rs (v := .slice a7 j6.length q9) (av (v := .slice a7 j6.length q9) rfl) rfl ?_
             refine rs (v := .bool true) (av (v := .bool true) rfl) rfl ?_
             refine rn ?_
             refine qn ?_
             refine Wret ?_
             replace hc := hc.rem 0 rfl rfl
             replace hc := hc.pull 1 rfl rfl
             replace hc := hc.pull 1 rfl rfl
             replace hc := hc.pull 2 rfl rfl
             injection hp with hp; subst hp
             refine f2 (v := .slice a7 j6.length q9) (u := .bool true) Try.results19 Try.ntmps19 rfl rfl ?_
             exact ⟨_, rfl, k _ _ _ _ hc⟩
           · replace hp := gpos hp (of_decide_eq_true hb25)
             refine Wct rfl ?_
             refine Wskip ?_
             refine qn ?_
             refine Wseq ?_
             refine Wblk ?_
             refine Wseq ?_
             refine Wreg ?_
             refine rs (v := .int .i64 0) (av (v := .int .i64 0) rfl) rfl ?_
             refine rn ?_
             refine qn ?_
             refine Wseq ?_
             refine Wseq ?_
             refine Wreg ?_
             refine rs (v := .int .i64 0) (av (v := .int .i64 0) rfl) rfl ?_
             refine rn ?_
             refine qn ?_
             refine Wblk ?_
             replace hc := hc.rem 0 rfl rfl
             refine Wloop [9, 10, 43, 44, 45, 46, 47, 48, 49, 50, 51, 52, 53, 54, 55, 56, 57, 58, 59, 60, 61, 62, 63, 64] [9, 10] (fun m vs w' => ∃ j26 : Int, ∃ j27 : Int, vs = [.int .i64 j26, .int .i64 j27] ∧ ref05_Mix.L3 N x0 x1 j6 j10 (ref05_Mix.L2 N x0 x1 m2) m j26 j27 = some r ∧ Ctx w' (P0 :: P1 :: Own (pInt .i8) 38 (.slice a7 j6.length q9) j6 :: Fr)) N ?_ ?_
             · exact ⟨0, 0, rfl, hp, hc⟩
             · clear hp hc; intro m vs u w28 hJ
               obtain ⟨j26, j27, rfl, hp, hc⟩ := hJ
               rcases m with _ | m3
               · cases (show none = some r from hp)
               rw [ref05_Mix.L3] at hp
               refine Wseq ?_
               refine Wseq ?_
               refine Wreg ?_
               refine rs (v := .int .i64 j27) (mv (v := .int .i64 j27) rfl) rfl ?_
               refine rs (v := .slice (some ⟨b16, o17, none⟩) x1.length qx1) (mv (v := .slice (some ⟨b16, o17, none⟩) x1.length qx1) rfl) rfl ?_
               refine rs (v := .int .i64 ((x1.length : Nat) : Int)) (ln rfl Try.underlying40) rfl ?_
               refine rs (v := .bool (decide (j27 < ((x1.length : Nat) : Int)))) (lt' rfl rfl) rfl ?_
               refine rn ?_
               refine qn ?_
               cases hb29 : (decide (j27 < ((x1.length : Nat) : Int)))
               · replace hp := gneg hp (of_decide_eq_false hb29)
                 refine Wcf rfl ?_
                 refine Wexit ?_
                 refine qx ?_
                 refine qx ?_
                 refine be ?_
                 refine qn ?_
                 refine Wreg ?_
                 refine rs (v := .slice a7 j6.length q9) (mv (v := .slice a7 j6.length q9) rfl) rfl ?_
                 refine rs (v := .int .i64 j26) (mv (v := .int .i64 j26) rfl) rfl ?_
                 replace hp := bind_some hp; obtain ⟨r30, hr30, hp⟩ := hp
                 refine rc (cl Try.call29 rfl rfl) rfl ?_
                 refine ref01_Shift_any hc hr30 ?_
                 clear hc; intro w31 hc
                 replace hp := bind_some hp; obtain ⟨r32, hr32, hp⟩ := hp
                 refine rc (cl Try.call27 rfl rfl) rfl ?_
                 refine ref01_Near_any hc hr32 ?_
                 clear hc; intro w33 hc
                 refine rs (v := .int .i8 (IntKind.i8.wrap r32)) (cvi rfl Try.underlying2 Try.underlying38) rfl ?_
                 replace hc : Ctx w33 (Hold (pInt .i8) [.int .i8 (IntKind.i8.wrap r32)] (IntKind.i8.wrap r32) :: P0 :: P1 :: Own (pInt .i8) 38 (.slice a7 j6.length q9) j6 :: Fr) := hc.add _ fun _ _ _ => ⟨rfl, rfl⟩
                 refine rsE (Ctx.builtOp (css := [[.int .i8 (IntKind.i8.wrap r32)]]) (xs := ([(IntKind.i8.wrap r32)] : List Int)) (E := (pInt .i8)) hc Try.underlying22 Try.sizeOf38 Try.zeroValue38 rfl rfl rfl rfl rfl rfl rfl rfl) rfl ?_
                 clear hc; rintro _ w35 ⟨a34, rfl, hc⟩
                 replace hp := bind_some hp; obtain ⟨z36, hz36, hp⟩ := hp
                 obtain ⟨hg37, e38⟩ := app_some hz36
                 refine rsE (Ctx.append hc (k := 3) rfl rfl (k2 := 0) rfl rfl reads_own Try.underlying22 (i := Try.t38) rfl rfl rfl rfl rfl rfl rfl rfl hg37) rfl ?_
                 clear hc; rintro _ w41 ⟨a39, q40, rfl, hc⟩
                 rw [← e38] at hc ⊢
                 refine rs (v := .slice a39 z36.length q40) (av (v := .slice a39 z36.length q40) rfl) rfl ?_
                 refine rn ?_
                 refine bn ?_
                 refine qn ?_
                 refine Wreg ?_
                 refine rs (v := .int .i64 j10) (mv (v := .int .i64 j10) rfl) rfl ?_
                 refine rs (v := .int .i64 (IntKind.i64.wrap (j10 + 1))) (adw rfl rfl) rfl ?_
                 refine rs (v := .int .i64 (IntKind.i64.wrap (j10 + 1))) (av (v := .int .i64 (IntKind.i64.wrap (j10 + 1))) rfl) rfl ?_
                 refine rn ?_
                 refine qn ?_
                 replace hc := hc.rem 0 rfl rfl
                 exact ⟨m2, Nat.lt_succ_self _, ⟨z36, (IntKind.i64.wrap (j10 + 1)), a39, z36.length, q40, rfl, hp, hc⟩, (kl rfl (km rfl (kl rfl k0)))⟩
               · replace hp := gpos hp (of_decide_eq_true hb29)
                 refine Wct rfl ?_
                 refine Wskip ?_
                 refine qn ?_
                 refine Wseq ?_
                 refine Wblk ?_
                 replace hc := hc.drew
                 refine Wdrw (fun _ w' => w' = World.drew w28) [0, 0, 0, 6, 14, 30, 0, 0, 192, 448, 0, 1984, 4032, 8128, 16382, 32767, 65535] 0 0 rfl (by kernel_rfl) (fun _ _ => rfl) ?_
                 generalize hw : World.drew w28 = w42 at *
                 clear hw
                 refine ds (v := .int .i64 j26) rfl (fun w' hF => by subst hF; exact mv (v := .int .i64 j26) rfl) rfl ?_
                 refine ds (v := .slice ax0 x0.length qx0) rfl (fun w' hF => by subst hF; exact mv (v := .slice ax0 x0.length qx0) rfl) rfl ?_
                 refine ds (v := .int .i64 j27) rfl (fun w' hF => by subst hF; exact mv (v := .int .i64 j27) rfl) rfl ?_
                 replace hp := bind_some hp; obtain ⟨y43, hy43, hp⟩ := hp
                 obtain ⟨b46, o47, u48, hi44, hi45⟩ := Ctx.rdAt hc (k := 0) rfl rfl hrd0 hy43
                 subst u48
                 refine ds (v := .pointer (some ⟨b46, o47 + (j27).toNat * 1, none⟩)) rfl (fun w' hF => by subst hF; exact ixx rfl rfl Try.underlying23 Try.sizeOf21 hi44 hi45 rfl) rfl ?_
                 replace hc := Ctx.rdCell hc (k := 0) rfl rfl hrd0 hy43; obtain ⟨cs49, hc, hcell50⟩ := hc
                 replace hc := Ctx.holdC hc; obtain ⟨u51, hc⟩ := hc; subst u51
                 refine ds (v := .int .i32 y43) rfl (fun w' hF => by subst hF; exact ld rfl Try.isAgg21 (hcell50 0 _ rfl)) rfl ?_
                 refine ds (v := .int .i64 (IntKind.i64.wrap y43)) rfl (fun w' hF => by subst hF; exact cvi rfl Try.underlying21 Try.underlying2) rfl ?_
                 refine ds (v := .slice (some ⟨b16, o17, none⟩) x1.length qx1) rfl (fun w' hF => by subst hF; exact mv (v := .slice (some ⟨b16, o17, none⟩) x1.length qx1) rfl) rfl ?_
                 refine ds (v := .int .i64 j27) rfl (fun w' hF => by subst hF; exact mv (v := .int .i64 j27) rfl) rfl ?_
                 replace hp := bind_some hp; obtain ⟨y52, hy52, hp⟩ := hp
                 obtain ⟨b55, o56, u57, hi53, hi54⟩ := Ctx.rdAt hc (k := 1) rfl rfl hrd1 hy52
                 clear u57
                 refine ds (v := .pointer (some ⟨b16, o17 + (j27).toNat * 1, none⟩)) rfl (fun w' hF => by subst hF; exact ixx rfl rfl Try.underlying40 Try.sizeOf22 hi53 hi54 rfl) rfl ?_
                 replace hc := Ctx.rdCell hc (k := 1) rfl rfl hrd1 hy52; obtain ⟨cs58, hc, hcell59⟩ := hc
                 replace hc := Ctx.holdRo hc; obtain ⟨v63, u60, hc⟩ := hc; subst u60
                 obtain ⟨a61, q62, u60⟩ := hc.rd (k := 0) rfl rfl reads_ro; subst u60
                 refine ds (v := .slice a61 y52.length q62) rfl (fun w' hF => by subst hF; exact ld rfl Try.isAgg22 (hcell59 0 _ rfl)) rfl ?_
                 refine ds (v := .int .i64 j10) rfl (fun w' hF => by subst hF; exact mv (v := .int .i64 j10) rfl) rfl ?_
                 replace hp := bind_some hp; obtain ⟨y64, hy64, hp⟩ := hp
                 obtain ⟨b67, o68, u69, hi65, hi66⟩ := Ctx.rdAt hc (k := 0) rfl rfl reads_ro hy64
                 subst u69
                 refine ds (v := .pointer (some ⟨b67, o68 + (j10).toNat * 1, none⟩)) rfl (fun w' hF => by subst hF; exact ixx rfl rfl Try.underlying22 Try.sizeOf38 hi65 hi66 rfl) rfl ?_
                 replace hc := Ctx.rdCell hc (k := 0) rfl rfl reads_ro hy64; obtain ⟨cs70, hc, hcell71⟩ := hc
                 replace hc := Ctx.holdC hc; obtain ⟨u72, hc⟩ := hc; subst u72
                 refine ds (v := .int .i8 y64) rfl (fun w' hF => by subst hF; exact ld rfl Try.isAgg38 (hcell71 0 _ rfl)) rfl ?_
                 refine ds (v := .int .i64 (IntKind.i64.wrap y64)) rfl (fun w' hF => by subst hF; exact cvi rfl Try.underlying38 Try.underlying2) rfl ?_
                 refine ds (v := .int .i64 (IntKind.i64.wrap ((IntKind.i64.wrap y43) * (IntKind.i64.wrap y64)))) rfl (fun w' hF => by subst hF; exact mlw rfl rfl) rfl ?_
                 refine ds (v := .int .i64 (IntKind.i64.wrap (j26 + (IntKind.i64.wrap ((IntKind.i64.wrap y43) * (IntKind.i64.wrap y64)))))) rfl (fun w' hF => by subst hF; exact adw rfl rfl) rfl ?_
                 refine ds (v := .int .i64 (IntKind.i64.wrap (j26 + (IntKind.i64.wrap ((IntKind.i64.wrap y43) * (IntKind.i64.wrap y64)))))) rfl (fun w' hF => av (v := .int .i64 (IntKind.i64.wrap (j26 + (IntKind.i64.wrap ((IntKind.i64.wrap y43) * (IntKind.i64.wrap y64)))))) rfl) rfl ?_
                 refine dn ?_
                 refine bn ?_
                 refine qn ?_
                 refine Wreg ?_
                 refine rs (v := .int .i64 j27) (mv (v := .int .i64 j27) rfl) rfl ?_
                 refine rs (v := .int .i64 (IntKind.i64.wrap (j27 + 1))) (adw rfl rfl) rfl ?_
                 refine rs (v := .int .i64 (IntKind.i64.wrap (j27 + 1))) (av (v := .int .i64 (IntKind.i64.wrap (j27 + 1))) rfl) rfl ?_
                 refine rn ?_
                 refine qn ?_
                 replace hc := hc.rem 0 rfl rfl
                 exact ⟨m3, Nat.lt_succ_self _, ⟨(IntKind.i64.wrap (j26 + (IntKind.i64.wrap ((IntKind.i64.wrap y43) * (IntKind.i64.wrap y64))))), (IntKind.i64.wrap (j27 + 1)), rfl, hp, hc⟩, (kl rfl k0)⟩
       · replace hp := gpos hp (of_decide_eq_true hb5)
         refine Wct rfl ?_
         refine Wseq ?_
         refine Wreg ?_
         refine rs (v := .slice none 0 0) (av (v := .slice none 0 0) rfl) rfl ?_
         refine rs (v := .bool true) (av (v := .bool true) rfl) rfl ?_
         refine rn ?_
         refine qn ?_
         refine Wret ?_
         refine qr ?_
         replace hc := hc.nilOwn (pInt .i8) 38
         injection hp with hp; subst hp
         refine f2 (v := .slice none 0 0) (u := .bool true) Try.results19 Try.ntmps19 rfl rfl ?_
         exact ⟨_, rfl, k _ _ _ _ hc⟩
     · replace hp := gpos hp (of_decide_eq_true hb4)
       refine Wct rfl ?_
       refine Wskip ?_
       refine qn ?_
       refine Wseq ?_
       refine Wblk ?_
       refine Wseq ?_
       replace hc := hc.drew
       refine Wdrw (fun _ w' => w' = World.drew w3) [0, 0, 3, 7, 15, 0, 32, 96, 224, 511] 0 0 rfl (by kernel_rfl) (fun _ _ => rfl) ?_
       generalize hw : World.drew w3 = w73 at *
       clear hw
       refine ds (v := .slice ax1 x1.length qx1) rfl (fun w' hF => by subst hF; exact mv (v := .slice ax1 x1.length qx1) rfl) rfl ?_
       refine ds (v := .int .i64 j2) rfl (fun w' hF => by subst hF; exact mv (v := .int .i64 j2) rfl) rfl ?_
       replace hp := bind_some hp; obtain ⟨y74, hy74, hp⟩ := hp
       obtain ⟨b77, o78, u79, hi75, hi76⟩ := Ctx.rdAt hc (k := 1) rfl rfl hrd1 hy74
       subst u79
       refine ds (v := .pointer (some ⟨b77, o78 + (j2).toNat * 1, none⟩)) rfl (fun w' hF => by subst hF; exact ixx rfl rfl Try.underlying40 Try.sizeOf22 hi75 hi76 rfl) rfl ?_
       replace hc := Ctx.rdCell hc (k := 1) rfl rfl hrd1 hy74; obtain ⟨cs80, hc, hcell81⟩ := hc
       replace hc := Ctx.holdRo hc; obtain ⟨v85, u82, hc⟩ := hc; subst u82
       obtain ⟨a83, q84, u82⟩ := hc.rd (k := 0) rfl rfl reads_ro; subst u82
       refine ds (v := .slice a83 y74.length q84) rfl (fun w' hF => by subst hF; exact ld rfl Try.isAgg22 (hcell81 0 _ rfl)) rfl ?_
       refine ds (v := .int .i64 ((y74.length : Nat) : Int)) rfl (fun w' hF => by subst hF; exact ln rfl Try.underlying22) rfl ?_
       refine ds (v := .slice (some ⟨b77, o78, none⟩) x1.length qx1) rfl (fun w' hF => by subst hF; exact mv (v := .slice (some ⟨b77, o78, none⟩) x1.length qx1) rfl) rfl ?_
       replace hp := bind_some hp; obtain ⟨y86, hy86, hp⟩ := hp
       obtain ⟨b89, o90, u91, hi87, hi88⟩ := Ctx.rdAt hc (k := 2) rfl rfl hrd1 hy86
       clear u91
       refine ds (v := .pointer (some ⟨b77, o78 + ((0 : Int)).toNat * 1, none⟩)) rfl (fun w' hF => by subst hF; exact ixx rfl rfl Try.underlying40 Try.sizeOf22 hi87 hi88 rfl) rfl ?_
       replace hc := Ctx.rdCell hc (k := 2) rfl rfl hrd1 hy86; obtain ⟨cs92, hc, hcell93⟩ := hc
       replace hc := Ctx.holdRo hc; obtain ⟨v97, u94, hc⟩ := hc; subst u94
       obtain ⟨a95, q96, u94⟩ := hc.rd (k := 0) rfl rfl reads_ro; subst u94
       refine ds (v := .slice a95 y86.length q96) rfl (fun w' hF => by subst hF; exact ld rfl Try.isAgg22 (hcell93 0 _ rfl)) rfl ?_
       refine ds (v := .int .i64 ((y86.length : Nat) : Int)) rfl (fun w' hF => by subst hF; exact ln rfl Try.underlying22) rfl ?_
       refine ds (v := .bool (decide (((y74.length : Nat) : Int) ≠ ((y86.length : Nat) : Int)))) rfl (fun w' hF => by subst hF; exact ned rfl rfl) rfl ?_
       refine dn ?_
       refine qn ?_
       cases hb98 : (decide (((y74.length : Nat) : Int) ≠ ((y86.length : Nat) : Int)))
       · replace hp := gneg hp (of_decide_eq_false hb98)
         refine Wcf rfl ?_
         refine Wskip ?_
         refine bn ?_
         refine qn ?_
         refine Wreg ?_
         refine rs (v := .int .i64 j2) (mv (v := .int .i64 j2) rfl) rfl ?_
         refine rs (v := .int .i64 (IntKind.i64.wrap (j2 + 1))) (adw rfl rfl) rfl ?_
         refine rs (v := .int .i64 (IntKind.i64.wrap (j2 + 1))) (av (v := .int .i64 (IntKind.i64.wrap (j2 + 1))) rfl) rfl ?_
         refine rn ?_
         refine qn ?_
         replace hc := hc.rem 1 rfl rfl
         replace hc := hc.rem 0 rfl rfl
         exact ⟨m1, Nat.lt_succ_self _, ⟨(IntKind.i64.wrap (j2 + 1)), rfl, hp, hc⟩, (kl rfl k0)⟩
       · replace hp := gpos hp (of_decide_eq_true hb98)
         refine Wct rfl ?_
         refine Wseq ?_
         refine Wreg ?_
         refine rs (v := .slice none 0 0) (av (v := .slice none 0 0) rfl) rfl ?_
         refine rs (v := .bool false) (av (v := .bool false) rfl) rfl ?_
         refine rn ?_
         refine qn ?_
         refine Wret ?_
         refine br ?_
         refine qr ?_
         refine qr ?_
         refine br ?_
         refine qr ?_
         replace hc := hc.nilOwn (pInt .i8) 38
         replace hc := hc.rem 2 rfl rfl
         replace hc := hc.rem 1 rfl rfl
         injection hp with hp; subst hp
         refine f2 (v := .slice none 0 0) (u := .bool false) Try.results19 Try.ntmps19 rfl rfl ?_
         exact ⟨_, rfl, k _ _ _ _ hc⟩
 · replace hp := gpos hp (of_decide_eq_true hb1)
   refine Wct rfl ?_
   refine Wseq ?_
   refine Wreg ?_
   refine rs (v := .slice none 0 0) (av (v := .slice none 0 0) rfl) rfl ?_
   refine rs (v := .bool false) (av (v := .bool false) rfl) rfl ?_
   refine rn ?_
   refine qn ?_
   refine Wret ?_
   refine qr ?_
   replace hc := hc.nilOwn (pInt .i8) 38
   injection hp with hp; subst hp
   refine f2 (v := .slice none 0 0) (u := .bool false) Try.results19 Try.ntmps19 rfl rfl ?_
   exact ⟨_, rfl, k _ _ _ _ hc⟩

end Go.Proofs.Ytmpdkjcobpghaaa
