/- Functions of the program as plain functions, and the proofs that walks compute them. Printed by a program of this session. -/
import Derived.Test.YtdalpckomnkilaaSl12
import Derived.Test.YtdalpckomnkilaaProg
namespace Go.Proofs.Ytdalpckomnkilaa
open Go Go.RowKit Go.Hp
set_option linter.unusedVariables false
set_option linter.unusedSimpArgs false
set_option maxRecDepth 100000

structure S_api_Spot where
  Request : Int
  Layer : Int
  Place : Int
  deriving DecidableEq

def S_api_Spot.pr : PR S_api_Spot 3 := pC (fun x => [.int .i64 x.Request, .int .i64 x.Layer, .int .i64 x.Place]) (fun _ => rfl) (fun _ => rfl)

structure S_cache_rows where
  k : (List Int)
  v : (List Int)
  deriving DecidableEq

def S_cache_rows.pr : PR S_cache_rows 2 := pMap (fun x : S_cache_rows => (x.k, x.v)) (pSeq (pRo (pInt .i8)) (pRo (pInt .i8)))

theorem S_cache_rows.op {w : World} {l : List HP} {cs : List Value} {x : S_cache_rows} (h : Ctx w (Hold S_cache_rows.pr cs x :: l)) : ∃ a0 q0 a1 q1, cs = [.slice a0 x.k.length q0, .slice a1 x.v.length q1] ∧ Ctx w (Hold (pRo (pInt .i8)) [.slice a0 x.k.length q0] x.k :: Hold (pRo (pInt .i8)) [.slice a1 x.v.length q1] x.v :: l) := by
  obtain ⟨R, Ss, hc⟩ := h
  match Ss, hc with
  | S :: Ss, hc =>
    obtain ⟨⟨rfl, ⟨_, _, rfl, ⟨_, rfl, a0, q0, rfl, hc0, hr0⟩, ⟨_, rfl, a1, q1, rfl, hc1, hr1⟩⟩⟩, h3⟩ := hc.all
    exact ⟨a0, q0, a1, q1, rfl, R, [] :: [] :: Ss, ⟨⟨rfl, _, rfl, a0, q0, rfl, hc0, hr0⟩, ⟨rfl, _, rfl, a1, q1, rfl, hc1, hr1⟩, h3⟩, by simpa using hc.nodup, by simpa using hc.own, hc.fz⟩
theorem S_cache_rows.cl {w : World} {l : List HP} {z0 : (List Int)} {z1 : (List Int)} {v0 v1 : Value} (h : Ctx w (Hold (pRo (pInt .i8)) [v0] z0 :: Hold (pRo (pInt .i8)) [v1] z1 :: l)) : Ctx w (Hold S_cache_rows.pr [v0, v1] (⟨z0, z1⟩ : S_cache_rows) :: l) := by
  obtain ⟨R, Ss, hc⟩ := h
  match Ss, hc with
  | S0 :: S1 :: Ss, hc =>
    obtain ⟨⟨rfl, _, e0, hr0⟩, ⟨rfl, _, e1, hr1⟩, h3⟩ := hc.all
    injection e0 with e0; subst e0
    injection e1 with e1; subst e1
    exact ⟨R, [] :: Ss, ⟨⟨rfl, ⟨_, _, rfl, ⟨_, rfl, hr0⟩, ⟨_, rfl, hr1⟩⟩⟩, h3⟩, by simpa using hc.nodup, by simpa using hc.own, hc.fz⟩
  | [], hc => exact hc.all.elim
  | [_], hc => exact hc.all.2.elim

def S_api_Spot.cs (x : S_api_Spot) : List Value := [.int .i64 x.Request, .int .i64 x.Layer, .int .i64 x.Place]
def S_api_Spot.ek (x : S_api_Spot) : Value := .agg (S_api_Spot.cs x).toArray
theorem S_api_Spot.eql (w : World) (x y : S_api_Spot) : (Op.equal 30 (.agg (S_api_Spot.cs x).toArray) (.agg (S_api_Spot.cs y).toArray)).run Try.prog w = .ok (decide (x = y)) w := by
  have hst : Try.prog.stoodInHeld 30 = false := by kernel_rfl
  have pt3 : ∀ {off : Nat} {xs : Array Value} {v : Value} {w : World}, xs[off]? = some v → (part 3 xs off).run Try.prog w = .ok v w := fun h => by simp [part, Try.isAgg3, h]
  have eq3 : ∀ (d : Nat) (k : IntKind) (a b : Int) (w : World), (Op.equalIn (d + 1) 3 (.int k a) (.int k b)).run Try.prog w = .ok (a == b) w := fun d k a b w => by simp [Op.equalIn, run_underlying Try.underlying3]
  have key : ∀ d, (Op.equalIn (d + 2) 30 (.agg (S_api_Spot.cs x).toArray) (.agg (S_api_Spot.cs y).toArray)).run Try.prog w = .ok (decide (x = y)) w := by
    intro d
    obtain ⟨a0, a1, a2⟩ := x
    obtain ⟨b0, b1, b2⟩ := y
    rw [Op.equalIn]
    simp [run_underlying Try.underlying30, S_api_Spot.cs, hst, pt3, eq3]
    repeat' split
    all_goals simp_all
  exact key 9998
theorem S_api_Spot.keyL : KeyL Try.prog 30 S_api_Spot S_api_Spot.ek := keyL_agg (f := S_api_Spot.cs) Try.underlying30 S_api_Spot.eql
  (fun b k w => by
    have h : ∀ n, (Instr.checkKey b (n + 2) 30 (.agg (S_api_Spot.cs k).toArray)).run Try.prog w = .ok () w := by
      intro n
      simp [Instr.checkKey, run_underlying Try.underlying30, S_api_Spot.cs, part, Try.isAgg3, run_underlying Try.underlying3]
    exact h 9998)
  (fun k => by
    have h : ∀ n, Instr.sameBits (n + 2) (.agg (S_api_Spot.cs k).toArray) (.agg (S_api_Spot.cs k).toArray) = true := by
      intro n
      simp [Instr.sameBits, S_api_Spot.cs]
    exact h 9998)

structure S_cache_Store where
  room : Int
  m : (List (S_api_Spot × S_cache_rows))
  deriving DecidableEq

def S_cache_Store.hp (b : Nat) (x : S_cache_Store) : HP := Ex fun v1 : Nat => Sep (B b [.int .i64 x.room, .map (some v1)] 63) (Mp S_api_Spot.ek (HV vfA S_cache_rows.pr) v1 x.m)

def S_cache_Store.vp : VP S_cache_Store 2 := ⟨fun cs x => Ex fun v1 : Nat => Sep (Pu (cs = [.int .i64 x.room, .map (some v1)] ∧ ([.int .i64 x.room, .map (some v1)] : List Value).all (·.oneCell') = true)) (Mp S_api_Spot.ek (HV vfA S_cache_rows.pr) v1 x.m),
  fun h => by obtain ⟨_, ⟨_, _, _, ⟨_, e, h1⟩, _⟩⟩ := h; rw [e]; rfl,
  fun h v hv => by obtain ⟨_, ⟨_, _, _, ⟨_, e, h1⟩, _⟩⟩ := h; rw [e] at hv; exact List.all_eq_true.1 h1 v hv⟩

structure S_law12_Act where
  Kind : Int
  At : S_api_Spot
  K : (List Int)
  V : (List Int)
  deriving DecidableEq

def S_law12_Act.pr : PR S_law12_Act 6 := pMap (fun x : S_law12_Act => (x.Kind, x.At, x.K, x.V)) (pSeq (pInt .i64) (pSeq S_api_Spot.pr (pSeq (pRo (pInt .i8)) (pRo (pInt .i8)))))

theorem S_law12_Act.op {w : World} {l : List HP} {cs : List Value} {x : S_law12_Act} (h : Ctx w (Hold S_law12_Act.pr cs x :: l)) : ∃ a4 q4 a5 q5, cs = [.int .i64 x.Kind, .int .i64 x.At.Request, .int .i64 x.At.Layer, .int .i64 x.At.Place, .slice a4 x.K.length q4, .slice a5 x.V.length q5] ∧ Ctx w (Hold (pRo (pInt .i8)) [.slice a4 x.K.length q4] x.K :: Hold (pRo (pInt .i8)) [.slice a5 x.V.length q5] x.V :: l) := by
  obtain ⟨R, Ss, hc⟩ := h
  match Ss, hc with
  | S :: Ss, hc =>
    obtain ⟨⟨rfl, ⟨_, _, rfl, rfl, ⟨_, _, rfl, rfl, ⟨_, _, rfl, ⟨_, rfl, a4, q4, rfl, hc4, hr4⟩, ⟨_, rfl, a5, q5, rfl, hc5, hr5⟩⟩⟩⟩⟩, h3⟩ := hc.all
    exact ⟨a4, q4, a5, q5, rfl, R, [] :: [] :: Ss, ⟨⟨rfl, _, rfl, a4, q4, rfl, hc4, hr4⟩, ⟨rfl, _, rfl, a5, q5, rfl, hc5, hr5⟩, h3⟩, by simpa using hc.nodup, by simpa using hc.own, hc.fz⟩
theorem S_law12_Act.cl {w : World} {l : List HP} {z0 : Int} {z1 : Int} {z2 : Int} {z3 : Int} {z4 : (List Int)} {z5 : (List Int)} {v4 v5 : Value} (h : Ctx w (Hold (pRo (pInt .i8)) [v4] z4 :: Hold (pRo (pInt .i8)) [v5] z5 :: l)) : Ctx w (Hold S_law12_Act.pr [.int .i64 z0, .int .i64 z1, .int .i64 z2, .int .i64 z3, v4, v5] (⟨z0, ⟨z1, z2, z3⟩, z4, z5⟩ : S_law12_Act) :: l) := by
  obtain ⟨R, Ss, hc⟩ := h
  match Ss, hc with
  | S4 :: S5 :: Ss, hc =>
    obtain ⟨⟨rfl, _, e4, hr4⟩, ⟨rfl, _, e5, hr5⟩, h3⟩ := hc.all
    injection e4 with e4; subst e4
    injection e5 with e5; subst e5
    exact ⟨R, [] :: Ss, ⟨⟨rfl, ⟨_, _, rfl, rfl, ⟨_, _, rfl, rfl, ⟨_, _, rfl, ⟨_, rfl, hr4⟩, ⟨_, rfl, hr5⟩⟩⟩⟩⟩, h3⟩, by simpa using hc.nodup, by simpa using hc.own, hc.fz⟩
  | [], hc => exact hc.all.elim
  | [_], hc => exact hc.all.2.elim

-- FN slices.Index[[]int,int]
def slices_Index_s_int_int.L1 (x0 : (List Int)) (x1 : Int) : Nat → Int → Option (Int)
  | 0, _ => none
  | m1 + 1, j1 =>
    if j1 < ((x0.length : Nat) : Int) then
      (idx x0 j1).bind fun y4 =>
      if x1 = y4 then
        some j1
      else
        (slices_Index_s_int_int.L1 x0 x1 m1) (IntKind.i64.wrap (j1 + 1))
    else
      some (-1)

def slices_Index_s_int_int (N : Nat) (x0 : (List Int)) (x1 : Int) : Option (Int) :=
  slices_Index_s_int_int.L1 x0 x1 N 0

set_option maxHeartbeats 8000000 in
theorem slices_Index_s_int_int_any {N : Nat} {x0 : (List Int)} {ax0 : Option Addr} {nx0 : Nat} {qx0 : Nat} {P0 : HP} {x1 : Int} {Fr : List HP} {w : World} {r : Int} {K : Value → World → Prop} (hrd0 : Reads P0 (pInt .i64) (.slice ax0 nx0 qx0) x0) (hc : Ctx w (P0 :: Fr)) (hp : slices_Index_s_int_int N x0 x1 = some r)
    (k : ∀ w', Ctx w' (P0 :: Fr) → K (.int .i64 r) w') : Calls Try.prog 32 #[.slice ax0 nx0 qx0, .int .i64 x1] w (Ret K) := by
 unfold slices_Index_s_int_int at hp
 refine Center (args := [.slice ax0 nx0 qx0, .int .i64 x1]) (l := [(0, .slice ax0 nx0 qx0), (1, .int .i64 x1)]) Try.func32 Try.ntmps32 rfl rfl rfl ?_
 obtain ⟨hn0, _⟩ := Ctx.rdLen hc (k := 0) rfl rfl hrd0; subst hn0
 refine Wseq ?_
 refine Wreg ?_
 refine rs (v := .int .i64 0) (av (v := .int .i64 0) rfl) rfl ?_
 refine rn ?_
 refine qn ?_
 refine Wseq ?_
 refine Wseq ?_
 refine Wreg ?_
 refine rs (v := .slice ax0 x0.length qx0) (mv (v := .slice ax0 x0.length qx0) rfl) rfl ?_
 refine rs (v := .int .i64 ((x0.length : Nat) : Int)) (ln rfl Try.underlying47) rfl ?_
 refine rs (v := .int .i64 0) (mv (v := .int .i64 0) rfl) rfl ?_
 refine rn ?_
 refine qn ?_
 refine Wblk ?_
 refine Wloop [4, 5, 8, 9, 10, 11, 12, 13, 14, 15, 16, 17, 18] [8] (fun m vs w' => ∃ j1 : Int, vs = [.int .i64 j1] ∧ slices_Index_s_int_int.L1 x0 x1 m j1 = some r ∧ Ctx w' (P0 :: Fr)) N ?_ ?_
 · exact ⟨0, rfl, hp, hc⟩
 · clear hp hc; intro m vs u w2 hJ
   obtain ⟨j1, rfl, hp, hc⟩ := hJ
   rcases m with _ | m1
   · cases (show none = some r from hp)
   rw [slices_Index_s_int_int.L1] at hp
   refine Wseq ?_
   refine Wreg ?_
   refine rs (v := .bool (decide (j1 < ((x0.length : Nat) : Int)))) (lt' rfl rfl) rfl ?_
   refine rn ?_
   refine qn ?_
   refine Wseq ?_
   cases hb3 : (decide (j1 < ((x0.length : Nat) : Int)))
   · replace hp := gneg hp (of_decide_eq_false hb3)
     refine Wcf rfl ?_
     refine Wexit ?_
     refine qx ?_
     refine qx ?_
     refine be ?_
     refine qn ?_
     refine Wseq ?_
     refine Wreg ?_
     refine rs (v := .int .i64 (-1)) (av (v := .int .i64 (-1)) rfl) rfl ?_
     refine rn ?_
     refine qn ?_
     refine Wret ?_
     injection hp with hp; subst hp
     refine f1 (v := .int .i64 (-1)) Try.results32 Try.ntmps32 rfl ?_
     exact ⟨_, rfl, k _ hc⟩
   · replace hp := gpos hp (of_decide_eq_true hb3)
     refine Wct rfl ?_
     refine Wskip ?_
     refine qn ?_
     refine Wseq ?_
     refine Wblk ?_
     refine Wseq ?_
     refine Wreg ?_
     refine rs (v := .int .i64 j1) (mv (v := .int .i64 j1) rfl) rfl ?_
     refine rs (v := .int .i64 j1) (av (v := .int .i64 j1) rfl) rfl ?_
     refine rn ?_
     refine qn ?_
     refine Wseq ?_
     refine Wreg ?_
     refine rs (v := .int .i64 x1) (mv (v := .int .i64 x1) rfl) rfl ?_
     refine rs (v := .slice ax0 x0.length qx0) (mv (v := .slice ax0 x0.length qx0) rfl) rfl ?_
     refine rs (v := .int .i64 j1) (mv (v := .int .i64 j1) rfl) rfl ?_
     replace hp := bind_some hp; obtain ⟨y4, hy4, hp⟩ := hp
     obtain ⟨b7, o8, u9, hi5, hi6⟩ := Ctx.rdAt hc (k := 0) rfl rfl hrd0 hy4
     subst u9
     refine rs (v := .pointer (some ⟨b7, o8 + (j1).toNat * 1, none⟩)) (ixx rfl rfl Try.underlying47 Try.sizeOf3 hi5 hi6 rfl) rfl ?_
     replace hc := Ctx.rdCell hc (k := 0) rfl rfl hrd0 hy4; obtain ⟨cs10, hc, hcell11⟩ := hc
     replace hc := Ctx.holdC hc; obtain ⟨u12, hc⟩ := hc; subst u12
     refine rs (v := .int .i64 y4) (ld rfl Try.isAgg3 (hcell11 0 _ rfl)) rfl ?_
     refine rs (v := .bool (decide (x1 = y4))) (eqd rfl rfl) rfl ?_
     refine rn ?_
     refine qn ?_
     cases hb13 : (decide (x1 = y4))
     · replace hp := gneg hp (of_decide_eq_false hb13)
       refine Wcf rfl ?_
       refine Wskip ?_
       refine bn ?_
       refine qn ?_
       refine Wreg ?_
       refine rs (v := .int .i64 (IntKind.i64.wrap (j1 + 1))) (adw rfl rfl) rfl ?_
       refine rs (v := .int .i64 (IntKind.i64.wrap (j1 + 1))) (mv (v := .int .i64 (IntKind.i64.wrap (j1 + 1))) rfl) rfl ?_
       refine rn ?_
       refine qn ?_
       exact ⟨m1, Nat.lt_succ_self _, ⟨(IntKind.i64.wrap (j1 + 1)), rfl, hp, hc⟩, (kl rfl k0)⟩
     · replace hp := gpos hp (of_decide_eq_true hb13)
       refine Wct rfl ?_
       refine Wseq ?_
       refine Wreg ?_
       refine rs (v := .int .i64 j1) (mv (v := .int .i64 j1) rfl) rfl ?_
       refine rs (v := .int .i64 j1) (av (v := .int .i64 j1) rfl) rfl ?_
       refine rn ?_
       refine qn ?_
       refine Wret ?_
       refine br ?_
       refine qr ?_
       refine qr ?_
       refine br ?_
       refine qr ?_
       injection hp with hp; subst hp
       refine f1 (v := .int .i64 j1) Try.results32 Try.ntmps32 rfl ?_
       exact ⟨_, rfl, k _ hc⟩

-- FN slices.Contains[[]int,int]
def slices_Contains_s_int_int (N : Nat) (x0 : (List Int)) (x1 : Int) : Option (Bool) :=
  (slices_Index_s_int_int N x0 x1).bind fun r1 =>
  some (decide (r1 ≥ 0))

set_option maxHeartbeats 8000000 in
theorem slices_Contains_s_int_int_any {N : Nat} {x0 : (List Int)} {ax0 : Option Addr} {nx0 : Nat} {qx0 : Nat} {P0 : HP} {x1 : Int} {Fr : List HP} {w : World} {r : Bool} {K : Value → World → Prop} (hrd0 : Reads P0 (pInt .i64) (.slice ax0 nx0 qx0) x0) (hc : Ctx w (P0 :: Fr)) (hp : slices_Contains_s_int_int N x0 x1 = some r)
    (k : ∀ w', Ctx w' (P0 :: Fr) → K (.bool r) w') : Calls Try.prog 26 #[.slice ax0 nx0 qx0, .int .i64 x1] w (Ret K) := by
 unfold slices_Contains_s_int_int at hp
 refine Center (args := [.slice ax0 nx0 qx0, .int .i64 x1]) (l := [(0, .slice ax0 nx0 qx0), (1, .int .i64 x1)]) Try.func26 Try.ntmps26 rfl rfl rfl ?_
 obtain ⟨hn0, _⟩ := Ctx.rdLen hc (k := 0) rfl rfl hrd0; subst hn0
 refine Wseq ?_
 refine Wreg ?_
 refine rs (v := .bool false) (av (v := .bool false) rfl) rfl ?_
 refine rn ?_
 refine qn ?_
 refine Wseq ?_
 refine Wreg ?_
 refine rs (v := .slice ax0 x0.length qx0) (mv (v := .slice ax0 x0.length qx0) rfl) rfl ?_
 refine rs (v := .int .i64 x1) (mv (v := .int .i64 x1) rfl) rfl ?_
 replace hp := bind_some hp; obtain ⟨r1, hr1, hp⟩ := hp
 refine rc (cl Try.call32 rfl rfl) rfl ?_
 refine slices_Index_s_int_int_any hrd0 hc hr1 ?_
 clear hc; intro w2 hc
 refine rs (v := .bool (decide (r1 ≥ 0))) (ge' rfl rfl) rfl ?_
 refine rs (v := .bool (decide (r1 ≥ 0))) (av (v := .bool (decide (r1 ≥ 0))) rfl) rfl ?_
 refine rn ?_
 refine qn ?_
 refine Wret ?_
 injection hp with hp; subst hp
 refine f1 (v := .bool (decide (r1 ≥ 0))) Try.results26 Try.ntmps26 rfl ?_
 exact ⟨_, rfl, k _ hc⟩

-- FN slices.Clone[[]int8,int8]
def slices_Clone_s_int8_int8 (x0 : (List Int)) : Option ((List Int)) :=
  (app ([]) x0).bind fun z3 =>
  some z3

set_option maxHeartbeats 8000000 in
theorem slices_Clone_s_int8_int8_any {x0 : (List Int)} {ax0 : Option Addr} {nx0 : Nat} {qx0 : Nat} {P0 : HP} {Fr : List HP} {w : World} {r : (List Int)} {K : Value → World → Prop} (hrd0 : Reads P0 (pInt .i8) (.slice ax0 nx0 qx0) x0) (hc : Ctx w (P0 :: Fr)) (hp : slices_Clone_s_int8_int8 x0 = some r)
    (k : ∀ (a9 : Option Addr) (n10 : Nat) (q11 : Nat) w', Ctx w' (Own (pInt .i8) 42 (.slice a9 n10 q11) r :: P0 :: Fr) → K (.slice a9 n10 q11) w') : Calls Try.prog 29 #[.slice ax0 nx0 qx0] w (Ret K) := by
 unfold slices_Clone_s_int8_int8 at hp
 refine Center (args := [.slice ax0 nx0 qx0]) (l := [(0, .slice ax0 nx0 qx0)]) Try.func29 Try.ntmps29 rfl rfl rfl ?_
 obtain ⟨hn0, _⟩ := Ctx.rdLen hc (k := 0) rfl rfl hrd0; subst hn0
 rcases ax0 with _ | ax0
 · have hx := Ctx.nilRows hc (k := 0) rfl rfl hrd0; subst hx
   replace hp := bind_some hp; obtain ⟨z, hz, hp⟩ := hp
   injection hp with hp; subst hp; obtain ⟨_, hz⟩ := app_some hz; subst hz
   refine Wseq ?_
   refine Wreg ?_
   refine rs (v := .slice none 0 0) (av (v := .slice none 0 0) rfl) rfl ?_
   refine rn ?_
   refine qn ?_
   refine Wseq ?_
   refine Wseq ?_
   refine Wreg ?_
   refine rs (v := .slice none (([] : List Int).length) qx0) (mv (v := .slice none (([] : List Int).length) qx0) rfl) rfl ?_
   refine rs (v := .bool true) (esnT Try.underlying31 rfl rfl) rfl ?_
   refine rn ?_
   refine qn ?_
   refine Wct rfl ?_
   refine Wseq ?_
   refine Wreg ?_
   refine rs (v := .slice none 0 0) (av (v := .slice none 0 0) rfl) rfl ?_
   refine rn ?_
   refine qn ?_
   refine Wret ?_
   refine qr ?_
   replace hc := hc.nilOwn (pInt .i8) 42
   refine f1 (v := .slice none 0 0) Try.results29 Try.ntmps29 rfl ?_
   exact ⟨_, rfl, k _ _ _ _ hc⟩
 · refine Wseq ?_
   refine Wreg ?_
   refine rs (v := .slice none 0 0) (av (v := .slice none 0 0) rfl) rfl ?_
   refine rn ?_
   refine qn ?_
   refine Wseq ?_
   refine Wseq ?_
   refine Wreg ?_
   refine rs (v := .slice (some ax0) x0.length qx0) (mv (v := .slice (some ax0) x0.length qx0) rfl) rfl ?_
   refine rs (v := .bool false) (esnF Try.underlying31 rfl rfl) rfl ?_
   refine rn ?_
   refine qn ?_
   refine Wcf rfl ?_
   refine Wskip ?_
   refine qn ?_
   refine Wseq ?_
   refine Wreg ?_
   refine rsE (Ctx.builtOp (css := []) (xs := ([] : List Int)) (E := (pInt .i8)) hc Try.underlying31 Try.sizeOf42 Try.zeroValue42 rfl rfl rfl rfl rfl rfl rfl rfl) rfl ?_
   clear hc; rintro _ w2 ⟨a1, rfl, hc⟩
   refine rs (v := .slice (some ax0) x0.length qx0) (mv (v := .slice (some ax0) x0.length qx0) rfl) rfl ?_
   replace hp := bind_some hp; obtain ⟨z3, hz3, hp⟩ := hp
   obtain ⟨hg4, e5⟩ := app_some hz3
   refine rsE (Ctx.append hc (k := 0) rfl rfl (k2 := 1) rfl rfl hrd0 Try.underlying31 (i := Try.t42) rfl rfl rfl rfl rfl rfl rfl rfl hg4) rfl ?_
   clear hc; rintro _ w8 ⟨a6, q7, rfl, hc⟩
   rw [← e5] at hc ⊢
   refine rs (v := .slice a6 z3.length q7) (av (v := .slice a6 z3.length q7) rfl) rfl ?_
   refine rn ?_
   refine qn ?_
   refine Wret ?_
   injection hp with hp; subst hp
   refine f1 (v := .slice a6 z3.length q7) Try.results29 Try.ntmps29 rfl ?_
   exact ⟨_, rfl, k _ _ _ _ hc⟩

-- FN slices.Equal[[]int8,int8]
def slices_Equal_s_int8_int8.L1 (x0 : (List Int)) (x1 : (List Int)) : Nat → Int → Option (Bool)
  | 0, _ => none
  | m1 + 1, j2 =>
    if j2 < ((x0.length : Nat) : Int) then
      (idx x0 j2).bind fun y6 =>
      (idx x1 j2).bind fun y15 =>
      if y6 ≠ y15 then
        some false
      else
        (slices_Equal_s_int8_int8.L1 x0 x1 m1) (IntKind.i64.wrap (j2 + 1))
    else
      some true

def slices_Equal_s_int8_int8 (N : Nat) (x0 : (List Int)) (x1 : (List Int)) : Option (Bool) :=
  if ((x0.length : Nat) : Int) ≠ ((x1.length : Nat) : Int) then
    some false
  else
    slices_Equal_s_int8_int8.L1 x0 x1 N 0

set_option maxHeartbeats 8000000 in
theorem slices_Equal_s_int8_int8_any {N : Nat} {x0 : (List Int)} {ax0 : Option Addr} {nx0 : Nat} {qx0 : Nat} {P0 : HP} {x1 : (List Int)} {ax1 : Option Addr} {nx1 : Nat} {qx1 : Nat} {P1 : HP} {Fr : List HP} {w : World} {r : Bool} {K : Value → World → Prop} (hrd0 : Reads P0 (pInt .i8) (.slice ax0 nx0 qx0) x0) (hrd1 : Reads P1 (pInt .i8) (.slice ax1 nx1 qx1) x1) (hc : Ctx w (P0 :: P1 :: Fr)) (hp : slices_Equal_s_int8_int8 N x0 x1 = some r)
    (k : ∀ w', Ctx w' (P0 :: P1 :: Fr) → K (.bool r) w') : Calls Try.prog 28 #[.slice ax0 nx0 qx0, .slice ax1 nx1 qx1] w (Ret K) := by
 unfold slices_Equal_s_int8_int8 at hp
 refine Center (args := [.slice ax0 nx0 qx0, .slice ax1 nx1 qx1]) (l := [(0, .slice ax0 nx0 qx0), (1, .slice ax1 nx1 qx1)]) Try.func28 Try.ntmps28 rfl rfl rfl ?_
 obtain ⟨hn0, _⟩ := Ctx.rdLen hc (k := 0) rfl rfl hrd0; subst hn0
 obtain ⟨hn1, _⟩ := Ctx.rdLen hc (k := 1) rfl rfl hrd1; subst hn1
 refine Wseq ?_
 refine Wreg ?_
 refine rs (v := .bool false) (av (v := .bool false) rfl) rfl ?_
 refine rn ?_
 refine qn ?_
 refine Wseq ?_
 refine Wseq ?_
 refine Wreg ?_
 refine rs (v := .slice ax0 x0.length qx0) (mv (v := .slice ax0 x0.length qx0) rfl) rfl ?_
 refine rs (v := .int .i64 ((x0.length : Nat) : Int)) (ln rfl Try.underlying31) rfl ?_
 refine rs (v := .slice ax1 x1.length qx1) (mv (v := .slice ax1 x1.length qx1) rfl) rfl ?_
 refine rs (v := .int .i64 ((x1.length : Nat) : Int)) (ln rfl Try.underlying31) rfl ?_
 refine rs (v := .bool (decide (((x0.length : Nat) : Int) ≠ ((x1.length : Nat) : Int)))) (ned rfl rfl) rfl ?_
 refine rn ?_
 refine qn ?_
 cases hb1 : (decide (((x0.length : Nat) : Int) ≠ ((x1.length : Nat) : Int)))
 · replace hp := gneg hp (of_decide_eq_false hb1)
   refine Wcf rfl ?_
   refine Wskip ?_
   refine qn ?_
   refine Wseq ?_
   refine Wseq ?_
   refine Wreg ?_
   refine rs (v := .slice ax0 x0.length qx0) (mv (v := .slice ax0 x0.length qx0) rfl) rfl ?_
   refine rs (v := .int .i64 ((x0.length : Nat) : Int)) (ln rfl Try.underlying31) rfl ?_
   refine rs (v := .int .i64 0) (mv (v := .int .i64 0) rfl) rfl ?_
   refine rn ?_
   refine qn ?_
   refine Wblk ?_
   refine Wloop [4, 5, 13, 14, 15, 16, 17, 18, 19, 20, 21, 22, 23, 24, 25] [13] (fun m vs w' => ∃ j2 : Int, vs = [.int .i64 j2] ∧ slices_Equal_s_int8_int8.L1 x0 x1 m j2 = some r ∧ Ctx w' (P0 :: P1 :: Fr)) N ?_ ?_
   · exact ⟨0, rfl, hp, hc⟩
   · clear hp hc; intro m vs u w3 hJ
     obtain ⟨j2, rfl, hp, hc⟩ := hJ
     rcases m with _ | m1
     · cases (show none = some r from hp)
     rw [slices_Equal_s_int8_int8.L1] at hp
     refine Wseq ?_
     refine Wreg ?_
     refine rs (v := .bool (decide (j2 < ((x0.length : Nat) : Int)))) (lt' rfl rfl) rfl ?_
     refine rn ?_
     refine qn ?_
     refine Wseq ?_
     cases hb4 : (decide (j2 < ((x0.length : Nat) : Int)))
     · replace hp := gneg hp (of_decide_eq_false hb4)
       refine Wcf rfl ?_
       refine Wexit ?_
       refine qx ?_
       refine qx ?_
       refine be ?_
       refine qn ?_
       refine Wseq ?_
       refine Wreg ?_
       refine rs (v := .bool true) (av (v := .bool true) rfl) rfl ?_
       refine rn ?_
       refine qn ?_
       refine Wret ?_
       injection hp with hp; subst hp
       refine f1 (v := .bool true) Try.results28 Try.ntmps28 rfl ?_
       exact ⟨_, rfl, k _ hc⟩
     · replace hp := gpos hp (of_decide_eq_true hb4)
       refine Wct rfl ?_
       refine Wskip ?_
       refine qn ?_
       refine Wseq ?_
       refine Wblk ?_
       refine Wseq ?_
       refine Wreg ?_
       refine rs (v := .int .i64 j2) (mv (v := .int .i64 j2) rfl) rfl ?_
       refine rs (v := .int .i64 j2) (av (v := .int .i64 j2) rfl) rfl ?_
       refine rn ?_
       refine qn ?_
       refine Wseq ?_
       replace hc := hc.drew
       refine Wdrw (fun _ w' => w' = World.drew w3) [0, 0, 3, 7, 0, 0, 48, 112, 255] 0 0 rfl (by kernel_rfl) (fun _ _ => rfl) ?_
       generalize hw : World.drew w3 = w5 at *
       clear hw
       refine ds (v := .slice ax0 x0.length qx0) rfl (fun w' hF => by subst hF; exact mv (v := .slice ax0 x0.length qx0) rfl) rfl ?_
       refine ds (v := .int .i64 j2) rfl (fun w' hF => by subst hF; exact mv (v := .int .i64 j2) rfl) rfl ?_
       replace hp := bind_some hp; obtain ⟨y6, hy6, hp⟩ := hp
       obtain ⟨b9, o10, u11, hi7, hi8⟩ := Ctx.rdAt hc (k := 0) rfl rfl hrd0 hy6
       subst u11
       refine ds (v := .pointer (some ⟨b9, o10 + (j2).toNat * 1, none⟩)) rfl (fun w' hF => by subst hF; exact ixx rfl rfl Try.underlying31 Try.sizeOf42 hi7 hi8 rfl) rfl ?_
       replace hc := Ctx.rdCell hc (k := 0) rfl rfl hrd0 hy6; obtain ⟨cs12, hc, hcell13⟩ := hc
       replace hc := Ctx.holdC hc; obtain ⟨u14, hc⟩ := hc; subst u14
       refine ds (v := .int .i8 y6) rfl (fun w' hF => by subst hF; exact ld rfl Try.isAgg42 (hcell13 0 _ rfl)) rfl ?_
       refine ds (v := .slice ax1 x1.length qx1) rfl (fun w' hF => by subst hF; exact mv (v := .slice ax1 x1.length qx1) rfl) rfl ?_
       refine ds (v := .int .i64 j2) rfl (fun w' hF => by subst hF; exact mv (v := .int .i64 j2) rfl) rfl ?_
       replace hp := bind_some hp; obtain ⟨y15, hy15, hp⟩ := hp
       obtain ⟨b18, o19, u20, hi16, hi17⟩ := Ctx.rdAt hc (k := 1) rfl rfl hrd1 hy15
       subst u20
       refine ds (v := .pointer (some ⟨b18, o19 + (j2).toNat * 1, none⟩)) rfl (fun w' hF => by subst hF; exact ixx rfl rfl Try.underlying31 Try.sizeOf42 hi16 hi17 rfl) rfl ?_
       replace hc := Ctx.rdCell hc (k := 1) rfl rfl hrd1 hy15; obtain ⟨cs21, hc, hcell22⟩ := hc
       replace hc := Ctx.holdC hc; obtain ⟨u23, hc⟩ := hc; subst u23
       refine ds (v := .int .i8 y15) rfl (fun w' hF => by subst hF; exact ld rfl Try.isAgg42 (hcell22 0 _ rfl)) rfl ?_
       refine ds (v := .bool (decide (y6 ≠ y15))) rfl (fun w' hF => by subst hF; exact ned rfl rfl) rfl ?_
       refine dn ?_
       refine qn ?_
       cases hb24 : (decide (y6 ≠ y15))
       · replace hp := gneg hp (of_decide_eq_false hb24)
         refine Wcf rfl ?_
         refine Wskip ?_
         refine bn ?_
         refine qn ?_
         refine Wreg ?_
         refine rs (v := .int .i64 (IntKind.i64.wrap (j2 + 1))) (adw rfl rfl) rfl ?_
         refine rs (v := .int .i64 (IntKind.i64.wrap (j2 + 1))) (mv (v := .int .i64 (IntKind.i64.wrap (j2 + 1))) rfl) rfl ?_
         refine rn ?_
         refine qn ?_
         exact ⟨m1, Nat.lt_succ_self _, ⟨(IntKind.i64.wrap (j2 + 1)), rfl, hp, hc⟩, (kl rfl k0)⟩
       · replace hp := gpos hp (of_decide_eq_true hb24)
         refine Wct rfl ?_
         refine Wseq ?_
         refine Wreg ?_
         refine rs (v := .bool false) (av (v := .bool false) rfl) rfl ?_
         refine rn ?_
         refine qn ?_
         refine Wret ?_
         refine br ?_
         refine qr ?_
         refine qr ?_
         refine br ?_
         refine qr ?_
         injection hp with hp; subst hp
         refine f1 (v := .bool false) Try.results28 Try.ntmps28 rfl ?_
         exact ⟨_, rfl, k _ hc⟩
 · replace hp := gpos hp (of_decide_eq_true hb1)
   refine Wct rfl ?_
   refine Wseq ?_
   refine Wreg ?_
   refine rs (v := .bool false) (av (v := .bool false) rfl) rfl ?_
   refine rn ?_
   refine qn ?_
   refine Wret ?_
   refine qr ?_
   injection hp with hp; subst hp
   refine f1 (v := .bool false) Try.results28 Try.ntmps28 rfl ?_
   exact ⟨_, rfl, k _ hc⟩

-- FN maps.DeleteFunc[map[peloton/api.Spot]peloton/cache.rows,peloton/api.Spot,peloton/cache.rows]
def maps_DeleteFunc_map_api_Spot_cache_rows_api_Spot_cache_rows.L1 (x1 : (S_api_Spot → S_cache_rows → Option Bool)) : Nat → (List (S_api_Spot × S_cache_rows)) → (List S_api_Spot) → Option ((List (S_api_Spot × S_cache_rows)))
  | 0, _, _ => none
  | m1 + 1, j4, j5 =>
    anyK (remK j4 j5) (
      some j4) fun kk8 =>
      (mget j4 kk8).bind fun y13 =>
      (x1 (⟨kk8.Request, kk8.Layer, kk8.Place⟩ : S_api_Spot) (⟨y13.k, y13.v⟩ : S_cache_rows)).bind fun r28 =>
      if r28 = true then
        (maps_DeleteFunc_map_api_Spot_cache_rows_api_Spot_cache_rows.L1 x1 m1) (mdel j4 (⟨kk8.Request, kk8.Layer, kk8.Place⟩ : S_api_Spot)) (kk8 :: j5)
      else
        (maps_DeleteFunc_map_api_Spot_cache_rows_api_Spot_cache_rows.L1 x1 m1) j4 (kk8 :: j5)

def maps_DeleteFunc_map_api_Spot_cache_rows_api_Spot_cache_rows (N : Nat) (x0 : (List (S_api_Spot × S_cache_rows))) (x1 : (S_api_Spot → S_cache_rows → Option Bool)) : Option ((List (S_api_Spot × S_cache_rows))) :=
  chk ((x0.map Prod.fst).Nodup) <|
  maps_DeleteFunc_map_api_Spot_cache_rows_api_Spot_cache_rows.L1 x1 N x0 ([])

set_option maxHeartbeats 8000000 in
theorem maps_DeleteFunc_map_api_Spot_cache_rows_api_Spot_cache_rows_any {N : Nat} {b0 : Nat} {x0 : (List (S_api_Spot × S_cache_rows))} {x1 : (S_api_Spot → S_cache_rows → Option Bool)} {fid1 : FuncId} {cap1 : List Value} {Fr : List HP} {w : World} {r : (List (S_api_Spot × S_cache_rows))} {K : Value → World → Prop} (hcl1 : ∀ a w, (callFunc fid1 a).run Try.prog w = .ok (.enter fid1 a) w) (hf1 : ∀ (y0 : S_api_Spot) (y1 : S_cache_rows) (a1 : Option Addr) (n2 : Nat) (q3 : Nat) (a4 : Option Addr) (n5 : Nat) (q6 : Nat) (Qs : List HP) (w : World) (r : Bool) (K : Value → World → Prop), Ctx w (Hold (pRo (pInt .i8)) [.slice a1 n2 q3] y1.k :: Hold (pRo (pInt .i8)) [.slice a4 n5 q6] y1.v :: (Qs ++ Fr)) → x1 y0 y1 = some r → (∀ w', Ctx w' (Qs ++ Fr) → K (.bool r) w') → Calls Try.prog fid1 (([.agg #[.int .i64 y0.Request, .int .i64 y0.Layer, .int .i64 y0.Place], .agg #[.slice a1 n2 q3, .slice a4 n5 q6]] : List Value) ++ cap1).toArray w (Ret K)) (hc : Ctx w (Mp S_api_Spot.ek (HV vfA S_cache_rows.pr) b0 x0 :: Fr)) (hp : maps_DeleteFunc_map_api_Spot_cache_rows_api_Spot_cache_rows N x0 x1 = some r)
    (k : ∀ w', Ctx w' (Mp S_api_Spot.ek (HV vfA S_cache_rows.pr) b0 r :: Fr) → K (.tuple #[]) w') : Calls Try.prog 24 #[.map (some b0), .func (.func fid1) #[] cap1.toArray] w (Ret K) := by
 unfold maps_DeleteFunc_map_api_Spot_cache_rows_api_Spot_cache_rows at hp
 refine Center (args := [.map (some b0), .func (.func fid1) #[] cap1.toArray]) (l := [(0, .map (some b0)), (1, .func (.func fid1) #[] cap1.toArray)]) Try.func24 Try.ntmps24 rfl rfl rfl ?_
 refine Wseq ?_
 refine Wreg ?_
 refine rs (v := .map (some b0)) (mv (v := .map (some b0)) rfl) rfl ?_
 replace hp := chk_some hp; obtain ⟨hg1, hp⟩ := hp
 refine rsE (Ctx.itMake hc (i := 0) rfl rfl Try.underlying61 rfl hg1) rfl ?_
 clear hc; rintro _ w3 ⟨b2, rfl, hc⟩
 refine rn ?_
 refine qn ?_
 refine Wblk ?_
 refine Wloop [4, 5, 8, 9, 10, 11, 12, 13, 14, 15, 16, 17, 18] [] (fun m vs w' => ∃ j4 : (List (S_api_Spot × S_cache_rows)), ∃ j5 : (List S_api_Spot), ∃ c6 : Option (S_api_Spot × Value), vs = [] ∧ maps_DeleteFunc_map_api_Spot_cache_rows_api_Spot_cache_rows.L1 x1 m j4 j5 = some r ∧ Ctx w' (MpI S_api_Spot.ek (HV vfA S_cache_rows.pr) b0 b2 j4 j5 c6 :: Fr)) N ?_ ?_
 · exact ⟨x0, [], none, rfl, hp, hc⟩
 · clear hp hc; intro m vs u w7 hJ
   obtain ⟨j4, j5, c6, rfl, hp, hc⟩ := hJ
   rcases m with _ | m1
   · cases (show none = some r from hp)
   rw [maps_DeleteFunc_map_api_Spot_cache_rows_api_Spot_cache_rows.L1] at hp
   refine Wseq ?_
   refine Wreg ?_
   refine rsE (Ctx.itNext hc (i := 0) rfl rfl rfl) rfl ?_
   clear hc; rintro _ w12 (⟨hr9, rfl, hc⟩ | ⟨kk8, y13, c14, hk10, hg11, rfl, hc⟩)
   · replace hp := anyK_nil hp hr9
     replace hc := Ctx.itEnd hc (i := 0) rfl rfl rfl
     replace hc : Ctx w12 (Mp S_api_Spot.ek (HV vfA S_cache_rows.pr) b0 j4 :: Fr) := hc
     refine rs (v := .bool false) (ext (v := .bool false) rfl rfl) rfl ?_
     refine rn ?_
     refine qn ?_
     refine Wseq ?_
     refine Wcf rfl ?_
     refine Wexit ?_
     refine qx ?_
     refine qx ?_
     refine be ?_
     refine f0n Try.results24 ?_
     injection hp with hp; subst hp
     exact ⟨_, rfl, k _ hc⟩
   · replace hp := anyK_mem hp hk10
     replace hp := bind_of hp hg11
     replace hc := S_cache_rows.op hc; obtain ⟨a16, q17, a18, q19, u15, hc⟩ := hc; subst u15
     replace hc : Ctx w12 (Hold (pRo (pInt .i8)) [.slice a16 y13.k.length q17] y13.k :: Hold (pRo (pInt .i8)) [.slice a18 y13.v.length q19] y13.v :: MpI S_api_Spot.ek (HV vfA S_cache_rows.pr) b0 b2 j4 (kk8 :: j5) (some (kk8, vfA [.slice a16 y13.k.length q17, .slice a18 y13.v.length q19])) :: Fr) := hc
     refine rs (v := .bool true) (ext (v := .bool true) rfl rfl) rfl ?_
     refine rn ?_
     refine qn ?_
     refine Wseq ?_
     refine Wct rfl ?_
     refine Wskip ?_
     refine qn ?_
     refine Wblk ?_
     refine Wseq ?_
     refine Wreg ?_
     refine rs (v := .tuple #[.agg #[.int .i64 kk8.Request, .int .i64 kk8.Layer, .int .i64 kk8.Place], .agg #[.slice a16 y13.k.length q17, .slice a18 y13.v.length q19]]) (Ctx.itEntry (k := kk8) hc (i := 2) rfl rfl rfl) rfl ?_
     refine rs (v := .agg #[.int .i64 kk8.Request, .int .i64 kk8.Layer, .int .i64 kk8.Place]) (ext (v := .agg #[.int .i64 kk8.Request, .int .i64 kk8.Layer, .int .i64 kk8.Place]) rfl rfl) rfl ?_
     refine rs (v := .agg #[.slice a16 y13.k.length q17, .slice a18 y13.v.length q19]) (ext (v := .agg #[.slice a16 y13.k.length q17, .slice a18 y13.v.length q19]) rfl rfl) rfl ?_
     refine rsE (Ctx.allocOp (cs := [.int .i64 0, .int .i64 0, .int .i64 0]) hc Try.zeroValue30 rfl) rfl ?_
     clear hc; rintro _ w22 ⟨b20, rfl, hc⟩
     refine rsE (Ctx.allocOp (cs := [.slice none 0 0, .slice none 0 0]) hc Try.zeroValue66 rfl) rfl ?_
     clear hc; rintro _ w25 ⟨b23, rfl, hc⟩
     refine ruE (A := fun w' => Ctx w' (B b23 [.slice none 0 0, .slice none 0 0] 66 :: B b20 [.int .i64 kk8.Request, .int .i64 kk8.Layer, .int .i64 kk8.Place] 30 :: Hold (pRo (pInt .i8)) [.slice a16 y13.k.length q17] y13.k :: Hold (pRo (pInt .i8)) [.slice a18 y13.v.length q19] y13.v :: MpI S_api_Spot.ek (HV vfA S_cache_rows.pr) b0 b2 j4 (kk8 :: j5) (some (kk8, vfA [.slice a16 y13.k.length q17, .slice a18 y13.v.length q19])) :: Fr)) (Ctx.putAgg hc (k := 1) rfl rfl (vs := [.int .i64 kk8.Request, .int .i64 kk8.Layer, .int .i64 kk8.Place]) rfl rfl rfl Try.sizeOf30 rfl rfl rfl) rfl ?_
     clear hc; rintro w26 hc
     refine ruE (A := fun w' => Ctx w' (B b23 [.slice a16 y13.k.length q17, .slice a18 y13.v.length q19] 66 :: B b20 [.int .i64 kk8.Request, .int .i64 kk8.Layer, .int .i64 kk8.Place] 30 :: Hold (pRo (pInt .i8)) [.slice a16 y13.k.length q17] y13.k :: Hold (pRo (pInt .i8)) [.slice a18 y13.v.length q19] y13.v :: MpI S_api_Spot.ek (HV vfA S_cache_rows.pr) b0 b2 j4 (kk8 :: j5) (some (kk8, vfA [.slice a16 y13.k.length q17, .slice a18 y13.v.length q19])) :: Fr)) (Ctx.putAgg hc (k := 0) rfl rfl (vs := [.slice a16 y13.k.length q17, .slice a18 y13.v.length q19]) rfl rfl rfl Try.sizeOf66 rfl rfl rfl) rfl ?_
     clear hc; rintro w27 hc
     refine rn ?_
     refine qn ?_
     refine Wseq ?_
     refine Wreg ?_
     refine rs (v := .func (.func fid1) #[] cap1.toArray) (mv (v := .func (.func fid1) #[] cap1.toArray) rfl) rfl ?_
     refine rs (v := .agg #[.int .i64 kk8.Request, .int .i64 kk8.Layer, .int .i64 kk8.Place]) (ldg rfl Try.isAgg30 Try.sizeOf30 rfl (Ctx.cells hc (k := 1) rfl rfl 0 (vs := [.int .i64 kk8.Request, .int .i64 kk8.Layer, .int .i64 kk8.Place]) rfl)) rfl ?_
     refine rs (v := .agg #[.slice a16 y13.k.length q17, .slice a18 y13.v.length q19]) (ldg rfl Try.isAgg66 Try.sizeOf66 rfl (Ctx.cells hc (k := 0) rfl rfl 0 (vs := [.slice a16 y13.k.length q17, .slice a18 y13.v.length q19]) rfl)) rfl ?_
     replace hc := hc.dup (k := 2) rfl rfl
     replace hc := hc.dup (k := 4) rfl rfl
     replace hp := bind_some hp; obtain ⟨r28, hr28, hp⟩ := hp
     replace hc := hc.pull 1 rfl rfl
     refine rc (cv (fi := []) (ca := cap1) (vs := ([.agg #[.int .i64 kk8.Request, .int .i64 kk8.Layer, .int .i64 kk8.Place], .agg #[.slice a16 y13.k.length q17, .slice a18 y13.v.length q19]] : List Value) ++ cap1) hcl1 rfl rfl) rfl ?_
     refine hf1 _ _ _ _ _ _ _ _ [B b23 [.slice a16 y13.k.length q17, .slice a18 y13.v.length q19] 66, B b20 [.int .i64 kk8.Request, .int .i64 kk8.Layer, .int .i64 kk8.Place] 30, Hold (pRo (pInt .i8)) [.slice a16 y13.k.length q17] y13.k, Hold (pRo (pInt .i8)) [.slice a18 y13.v.length q19] y13.v, MpI S_api_Spot.ek (HV vfA S_cache_rows.pr) b0 b2 j4 (kk8 :: j5) (some (kk8, vfA [.slice a16 y13.k.length q17, .slice a18 y13.v.length q19]))] _ _ _ hc hr28 ?_
     clear hc; intro w29 hc
     replace hc : Ctx w29 (B b23 [.slice a16 y13.k.length q17, .slice a18 y13.v.length q19] 66 :: B b20 [.int .i64 kk8.Request, .int .i64 kk8.Layer, .int .i64 kk8.Place] 30 :: Hold (pRo (pInt .i8)) [.slice a16 y13.k.length q17] y13.k :: Hold (pRo (pInt .i8)) [.slice a18 y13.v.length q19] y13.v :: MpI S_api_Spot.ek (HV vfA S_cache_rows.pr) b0 b2 j4 (kk8 :: j5) (some (kk8, vfA [.slice a16 y13.k.length q17, .slice a18 y13.v.length q19])) :: Fr) := hc
     refine rn ?_
     refine qn ?_
     cases hb30 : r28
     · replace hp := gneg hp (by rw [hb30]; exact Bool.false_ne_true)
       subst hb30
       refine Wcf rfl ?_
       refine Wskip ?_
       refine bn ?_
       refine qn ?_
       replace hc := hc.rem 3 rfl rfl
       replace hc := hc.rem 2 rfl rfl
       replace hc := hc.rem 1 rfl rfl
       replace hc := hc.rem 0 rfl rfl
       exact ⟨m1, Nat.lt_succ_self _, ⟨j4, (kk8 :: j5), (some (kk8, vfA [.slice a16 y13.k.length q17, .slice a18 y13.v.length q19])), rfl, hp, hc⟩, (kl rfl k0)⟩
     · replace hp := gpos hp hb30
       subst hb30
       refine Wct rfl ?_
       refine Wreg ?_
       refine rs (v := .map (some b0)) (mv (v := .map (some b0)) rfl) rfl ?_
       refine rs (v := .agg #[.int .i64 kk8.Request, .int .i64 kk8.Layer, .int .i64 kk8.Place]) (ldg rfl Try.isAgg30 Try.sizeOf30 rfl (Ctx.cells hc (k := 1) rfl rfl 0 (vs := [.int .i64 kk8.Request, .int .i64 kk8.Layer, .int .i64 kk8.Place]) rfl)) rfl ?_
       refine rvE (Ctx.itDel (k := (⟨kk8.Request, kk8.Layer, kk8.Place⟩ : S_api_Spot)) S_api_Spot.keyL hc (i := 4) rfl rfl Try.underlying61 rfl rfl) rfl ?_
       clear hc; intro w31 hc
       refine rn ?_
       refine bn ?_
       refine qn ?_
       replace hc := hc.rem 3 rfl rfl
       replace hc := hc.rem 2 rfl rfl
       replace hc := hc.rem 1 rfl rfl
       replace hc := hc.rem 0 rfl rfl
       exact ⟨m1, Nat.lt_succ_self _, ⟨(mdel j4 (⟨kk8.Request, kk8.Layer, kk8.Place⟩ : S_api_Spot)), (kk8 :: j5), none, rfl, hp, hc⟩, (kl rfl k0)⟩

-- FN peloton/cache.New
theorem bd_63_0_1 {ρ : Operand → Value} {w : World} {dst : Option Nat} {ty : TypeId} {pos : String} {after : Array Edge} {g : Option (Nat × Bool)} {x0 x1 : Operand} {k0 : IntKind} {a0 : Int} {a1 : Option Nat} (h0 : ρ x0 = (.int k0 a0)) (h1 : ρ x1 = (.map a1)) :
    (execOp ρ ⟨dst, .build 63 #[(0, x0), (1, x1)], ty, pos, after, g⟩).run Try.prog w = .ok (.value (.agg #[(.int k0 a0), (.map a1)])) w := by
  simp [execOp, Instr.build, Instr.fill, Try.zeroValue63, Try.runUnderlying63, Try.sizeOf3, Try.sizeOf61, h0, h1, Value.cells]

def cache_New (x0 : Int) : Option ((Option S_cache_Store) × Int) :=
  if x0 < 0 then
    some (none, 2)
  else
    if x0 > 1048576 then
      some (none, 2)
    else
      some ((some (⟨x0, []⟩ : S_cache_Store)), 0)

set_option maxHeartbeats 8000000 in
theorem cache_New_any {x0 : Int} {Fr : List HP} {w : World} {r : (Option S_cache_Store) × Int} {K : Value → World → Prop}  (hc : Ctx w (Fr)) (hp : cache_New x0 = some r)
    (k : ∀ (v8 : Value) w', Ctx w' (PtO S_cache_Store.hp v8 r.1 :: Fr) → K (.tuple #[v8, .int .i64 r.2]) w') : Calls Try.prog 8 #[.int .i64 x0] w (Ret K) := by
 unfold cache_New at hp
 refine Center (args := [.int .i64 x0]) (l := [(0, .int .i64 x0)]) Try.func8 Try.ntmps8 rfl rfl rfl ?_
 refine Wseq ?_
 refine Wreg ?_
 refine rs (v := .pointer none) (av (v := .pointer none) rfl) rfl ?_
 refine rs (v := .int .i64 0) (av (v := .int .i64 0) rfl) rfl ?_
 refine rn ?_
 refine qn ?_
 refine Wseq ?_
 refine Wseq ?_
 refine Wreg ?_
 refine rs (v := .int .i64 x0) (mv (v := .int .i64 x0) rfl) rfl ?_
 refine rs (v := .bool (decide (x0 < 0))) (lt' rfl rfl) rfl ?_
 refine rs (v := .bool (decide (x0 < 0))) (mv (v := .bool (decide (x0 < 0))) rfl) rfl ?_
 cases hb1 : (decide (x0 < 0))
 · replace hp := gneg hp (of_decide_eq_false hb1)
   refine rs (v := .int .i64 x0) (mv (v := .int .i64 x0) rfl) rfl ?_
   refine rs (v := .bool (decide (x0 > 1048576))) (gt' rfl rfl) rfl ?_
   refine rs (v := .bool (decide (x0 > 1048576))) (pkf (v := .bool (decide (x0 > 1048576))) rfl rfl) rfl ?_
   refine rn ?_
   refine qn ?_
   cases hb2 : (decide (x0 > 1048576))
   · replace hp := gneg hp (of_decide_eq_false hb2)
     refine Wcf rfl ?_
     refine Wskip ?_
     refine qn ?_
     refine Wseq ?_
     refine Wreg ?_
     refine rs (v := .int .i64 x0) (mv (v := .int .i64 x0) rfl) rfl ?_
     refine rsE (Ctx.mpMake S_api_Spot.ek (HV vfA S_cache_rows.pr) hc) rfl ?_
     clear hc; rintro _ w4 ⟨b3, rfl, hc⟩
     refine rs (v := .agg #[.int .i64 x0, .map (some b3)]) (bd_63_0_1 rfl rfl) rfl ?_
     refine rsE (Ctx.boxOp (cs := [.int .i64 x0, .map (some b3)]) (v := .agg #[.int .i64 x0, .map (some b3)]) hc rfl rfl) rfl ?_
     clear hc; rintro _ w7 ⟨b5, rfl, hc⟩
     refine rs (v := .pointer (some ⟨b5, 0, none⟩)) (av (v := .pointer (some ⟨b5, 0, none⟩)) rfl) rfl ?_
     refine rs (v := .int .i64 0) (av (v := .int .i64 0) rfl) rfl ?_
     refine rn ?_
     refine qn ?_
     refine Wret ?_
     replace hc := hc.pull 1 rfl rfl
     replace hc := hc.pull 1 rfl rfl
     replace hc : Ctx w7 (S_cache_Store.hp b5 (⟨x0, []⟩ : S_cache_Store) :: Fr) := Ctx.exB _ _ (Ctx.sepB hc)
     replace hc := Ctx.ptoSB S_cache_Store.hp hc
     injection hp with hp; subst hp
     refine f2 (v := .pointer (some ⟨b5, 0, none⟩)) (u := .int .i64 0) Try.results8 Try.ntmps8 rfl rfl ?_
     exact ⟨_, rfl, k _ _ hc⟩
   · replace hp := gpos hp (of_decide_eq_true hb2)
     refine Wct rfl ?_
     refine Wseq ?_
     refine Wreg ?_
     refine rs (v := .pointer none) (av (v := .pointer none) rfl) rfl ?_
     refine rs (v := .int .i64 2) (av (v := .int .i64 2) rfl) rfl ?_
     refine rn ?_
     refine qn ?_
     refine Wret ?_
     refine qr ?_
     replace hc := Ctx.ptoNB S_cache_Store.hp hc
     injection hp with hp; subst hp
     refine f2 (v := .pointer none) (u := .int .i64 2) Try.results8 Try.ntmps8 rfl rfl ?_
     exact ⟨_, rfl, k _ _ hc⟩
 · replace hp := gpos hp (of_decide_eq_true hb1)
   refine r0 rfl ?_
   refine r0 rfl ?_
   refine rs (v := .bool true) (pkt (v := .bool true) rfl rfl) rfl ?_
   refine rn ?_
   refine qn ?_
   refine Wct rfl ?_
   refine Wseq ?_
   refine Wreg ?_
   refine rs (v := .pointer none) (av (v := .pointer none) rfl) rfl ?_
   refine rs (v := .int .i64 2) (av (v := .int .i64 2) rfl) rfl ?_
   refine rn ?_
   refine qn ?_
   refine Wret ?_
   refine qr ?_
   replace hc := Ctx.ptoNB S_cache_Store.hp hc
   injection hp with hp; subst hp
   refine f2 (v := .pointer none) (u := .int .i64 2) Try.results8 Try.ntmps8 rfl rfl ?_
   exact ⟨_, rfl, k _ _ hc⟩

-- FN peloton/pelotonlaw12.spot
theorem bd_30_0_1_2 {ρ : Operand → Value} {w : World} {dst : Option Nat} {ty : TypeId} {pos : String} {after : Array Edge} {g : Option (Nat × Bool)} {x0 x1 x2 : Operand} {k0 : IntKind} {a0 : Int} {k1 : IntKind} {a1 : Int} {k2 : IntKind} {a2 : Int} (h0 : ρ x0 = (.int k0 a0)) (h1 : ρ x1 = (.int k1 a1)) (h2 : ρ x2 = (.int k2 a2)) :
    (execOp ρ ⟨dst, .build 30 #[(0, x0), (1, x1), (2, x2)], ty, pos, after, g⟩).run Try.prog w = .ok (.value (.agg #[(.int k0 a0), (.int k1 a1), (.int k2 a2)])) w := by
  simp [execOp, Instr.build, Instr.fill, Try.zeroValue30, Try.runUnderlying30, Try.sizeOf3, h0, h1, h2, Value.cells]

def law12_spot (x0 : Int) (x1 : Int) (x2 : Int) : Option (S_api_Spot) :=
  some (⟨x0, x1, x2⟩ : S_api_Spot)

set_option maxHeartbeats 8000000 in
theorem law12_spot_any {x0 : Int} {x1 : Int} {x2 : Int} {Fr : List HP} {w : World} {r : S_api_Spot} {K : Value → World → Prop}  (hc : Ctx w (Fr)) (hp : law12_spot x0 x1 x2 = some r)
    (k : ∀ w', Ctx w' (Fr) → K (.agg #[.int .i64 r.Request, .int .i64 r.Layer, .int .i64 r.Place]) w') : Calls Try.prog 9 #[.int .i64 x0, .int .i64 x1, .int .i64 x2] w (Ret K) := by
 unfold law12_spot at hp
 refine Center (args := [.int .i64 x0, .int .i64 x1, .int .i64 x2]) (l := [(0, .int .i64 x0), (1, .int .i64 x1), (2, .int .i64 x2)]) Try.func9 Try.ntmps9 rfl rfl rfl ?_
 refine Wseq ?_
 refine Wreg ?_
 refine rsE (Ctx.allocOp (cs := [.int .i64 0, .int .i64 0, .int .i64 0]) hc Try.zeroValue30 rfl) rfl ?_
 clear hc; rintro _ w3 ⟨b1, rfl, hc⟩
 refine rn ?_
 refine qn ?_
 refine Wseq ?_
 refine Wreg ?_
 refine rs (v := .int .i64 x0) (mv (v := .int .i64 x0) rfl) rfl ?_
 refine rs (v := .int .i64 x1) (mv (v := .int .i64 x1) rfl) rfl ?_
 refine rs (v := .int .i64 x2) (mv (v := .int .i64 x2) rfl) rfl ?_
 refine rs (v := .agg #[.int .i64 x0, .int .i64 x1, .int .i64 x2]) (bd_30_0_1_2 rfl rfl rfl) rfl ?_
 refine ruE (A := fun w' => Ctx w' (B b1 [.int .i64 x0, .int .i64 x1, .int .i64 x2] 30 :: Fr)) (Ctx.putAgg hc (k := 0) rfl rfl (vs := [.int .i64 x0, .int .i64 x1, .int .i64 x2]) rfl rfl rfl Try.sizeOf30 rfl rfl rfl) rfl ?_
 clear hc; rintro w4 hc
 refine rn ?_
 refine qn ?_
 refine Wret ?_
 have hres := Ctx.cells hc (k := 0) rfl rfl 0 (vs := [.int .i64 x0, .int .i64 x1, .int .i64 x2]) rfl
 replace hc := hc.rem 0 rfl rfl
 injection hp with hp; subst hp
 refine f1c (cs := [.int .i64 x0, .int .i64 x1, .int .i64 x2]) Try.results9 Try.ntmps9 rfl Try.isAgg30 Try.sizeOf30 rfl hres ?_
 exact ⟨_, rfl, k _ hc⟩

-- FN (*peloton/cache.Store).ahead
def cache_Store_ahead (x0 : S_cache_Store) (x1 : S_api_Spot) : Option (Bool) :=
  if x1.Place = 0 then
    some true
  else
    (some ((mget x0.m (⟨x1.Request, x1.Layer, (IntKind.i64.wrap (x1.Place - 1))⟩ : S_api_Spot)).getD (⟨[], []⟩ : S_cache_rows))).bind fun y11 =>
    some ((mget x0.m (⟨x1.Request, x1.Layer, (IntKind.i64.wrap (x1.Place - 1))⟩ : S_api_Spot)).isSome)

set_option maxHeartbeats 8000000 in
theorem cache_Store_ahead_any {b0 : Nat} {x0 : S_cache_Store} {x1 : S_api_Spot} {Fr : List HP} {w : World} {r : Bool} {K : Value → World → Prop}  (hc : Ctx w (S_cache_Store.hp b0 x0 :: Fr)) (hp : cache_Store_ahead x0 x1 = some r)
    (k : ∀ w', Ctx w' (S_cache_Store.hp b0 x0 :: Fr) → K (.bool r) w') : Calls Try.prog 27 #[.pointer (some ⟨b0, 0, none⟩), .agg #[.int .i64 x1.Request, .int .i64 x1.Layer, .int .i64 x1.Place]] w (Ret K) := by
 unfold cache_Store_ahead at hp
 refine Center (args := [.pointer (some ⟨b0, 0, none⟩), .agg #[.int .i64 x1.Request, .int .i64 x1.Layer, .int .i64 x1.Place]]) (l := [(0, .pointer (some ⟨b0, 0, none⟩)), (1, .agg #[.int .i64 x1.Request, .int .i64 x1.Layer, .int .i64 x1.Place])]) Try.func27 Try.ntmps27 rfl rfl rfl ?_
 refine Wseq ?_
 refine Wreg ?_
 refine rsE (Ctx.boxOp (cs := [.int .i64 x1.Request, .int .i64 x1.Layer, .int .i64 x1.Place]) (v := .agg #[.int .i64 x1.Request, .int .i64 x1.Layer, .int .i64 x1.Place]) hc rfl rfl) rfl ?_
 clear hc; rintro _ w3 ⟨b1, rfl, hc⟩
 refine rs (v := .bool false) (av (v := .bool false) rfl) rfl ?_
 refine rn ?_
 refine qn ?_
 refine Wseq ?_
 refine Wseq ?_
 refine Wreg ?_
 refine rs (v := .pointer (some ⟨b1, 2, none⟩)) (fax 2 rfl Try.underlying30 rfl Try.sizeOf3 rfl rfl rfl) rfl ?_
 refine rs (v := .int .i64 x1.Place) (ld rfl Try.isAgg3 (Ctx.cell hc (k := 0) rfl rfl rfl)) rfl ?_
 refine rs (v := .bool (decide (x1.Place = 0))) (eqd rfl rfl) rfl ?_
 refine rn ?_
 refine qn ?_
 cases hb4 : (decide (x1.Place = 0))
 · replace hp := gneg hp (of_decide_eq_false hb4)
   refine Wcf rfl ?_
   refine Wskip ?_
   refine qn ?_
   refine Wseq ?_
   refine Wreg ?_
   refine rs (v := .pointer (some ⟨b1, 2, none⟩)) (fax 2 rfl Try.underlying30 rfl Try.sizeOf3 rfl rfl rfl) rfl ?_
   refine rs (v := .int .i64 x1.Place) (ld rfl Try.isAgg3 (Ctx.cell hc (k := 0) rfl rfl rfl)) rfl ?_
   refine rs (v := .int .i64 (IntKind.i64.wrap (x1.Place - 1))) (sbw rfl rfl) rfl ?_
   refine rs (v := .pointer (some ⟨b1, 2, none⟩)) (fax 2 rfl Try.underlying30 rfl Try.sizeOf3 rfl rfl rfl) rfl ?_
   refine ruE (A := fun w' => Ctx w' (B b1 [.int .i64 x1.Request, .int .i64 x1.Layer, .int .i64 (IntKind.i64.wrap (x1.Place - 1))] 30 :: S_cache_Store.hp b0 x0 :: Fr)) (Ctx.putOp hc (k := 0) rfl rfl (v := .int .i64 (IntKind.i64.wrap (x1.Place - 1))) rfl rfl rfl Try.sizeOf3 rfl rfl rfl) rfl ?_
   clear hc; rintro w5 hc
   refine rn ?_
   refine qn ?_
   refine Wseq ?_
   replace hc := hc.pull 1 rfl rfl
   replace hc := Ctx.exF hc; obtain ⟨v6, hc⟩ := hc
   replace hc := Ctx.sepF hc
   replace hc := Ctx.mpoF hc (i := 1) rfl rfl; obtain ⟨o7, hc⟩ := hc
   replace hc : Ctx w5 (B b0 [.int .i64 x0.room, .map (some v6)] 63 :: MpO S_api_Spot.ek (HV vfA S_cache_rows.pr) v6 o7 x0.m :: B b1 [.int .i64 x1.Request, .int .i64 x1.Layer, .int .i64 (IntKind.i64.wrap (x1.Place - 1))] 30 :: Fr) := hc
   replace hc := hc.drew
   have hF : ∀ j, free [0, 1, 3, 7, 0, 31, 63, 127, 127, 0, 767, 2047] 0 j = true → (fun j w' => (j = 3 → w'.cell? ⟨b0, 1, none⟩ = some (.map (some v6))) ∧ (j = 4 → ∀ j v, ([.int .i64 x1.Request, .int .i64 x1.Layer, .int .i64 (IntKind.i64.wrap (x1.Place - 1))] : List Value)[j]? = some v → w'.cell? ((⟨b1, 0, none⟩ : Addr).add j) = some v) ∧ (j = 5 → w'.heap[v6]? = some o7) ∧ True) j (World.drew w5) := fun j hj => ⟨fun _ => hc.cell (k := 0) rfl rfl rfl, fun _ => Ctx.cells hc (k := 2) rfl rfl 0 (vs := [.int .i64 x1.Request, .int .i64 x1.Layer, .int .i64 (IntKind.i64.wrap (x1.Place - 1))]) rfl, fun _ => Ctx.mpoPin hc (i := 1) rfl rfl, trivial⟩
   refine Wdrw (fun j w' => (j = 3 → w'.cell? ⟨b0, 1, none⟩ = some (.map (some v6))) ∧ (j = 4 → ∀ j v, ([.int .i64 x1.Request, .int .i64 x1.Layer, .int .i64 (IntKind.i64.wrap (x1.Place - 1))] : List Value)[j]? = some v → w'.cell? ((⟨b1, 0, none⟩ : Addr).add j) = some v) ∧ (j = 5 → w'.heap[v6]? = some o7) ∧ True) [0, 1, 3, 7, 0, 31, 63, 127, 127, 0, 767, 2047] 0 0 rfl (by kernel_rfl) (hF) ?_
   generalize hw : World.drew w5 = w8 at *
   clear hw
   refine ds (v := .pointer (some ⟨b0, 0, none⟩)) rfl (fun w' hF => mv (v := .pointer (some ⟨b0, 0, none⟩)) rfl) rfl ?_
   refine ds (v := .pointer (some ⟨b0, 0, none⟩)) rfl (fun w' hF => nl rfl) rfl ?_
   refine ds (v := .pointer (some ⟨b0, 1, none⟩)) rfl (fun w' hF => fax 1 rfl Try.underlying63 rfl Try.sizeOf61 rfl rfl rfl) rfl ?_
   refine ds (v := .map (some v6)) rfl (fun w' hF => ld rfl Try.isAgg61 ((hF.1 rfl))) rfl ?_
   refine ds (v := .agg #[.int .i64 x1.Request, .int .i64 x1.Layer, .int .i64 (IntKind.i64.wrap (x1.Place - 1))]) rfl (fun w' hF => ldg rfl Try.isAgg30 Try.sizeOf30 rfl (hF.2.1 rfl)) rfl ?_
   replace hc := Ctx.mpoFact true S_api_Spot.keyL hc (i := 1) rfl rfl (⟨x1.Request, x1.Layer, (IntKind.i64.wrap (x1.Place - 1))⟩ : S_api_Spot) Try.underlying61 Try.zeroValue66 (zcs := [.slice none 0 0, .slice none 0 0]) (x0 := (⟨[], []⟩ : S_cache_rows)) rfl (fun _ _ => ⟨([.slice none 0 0] : List Value), ([.slice none 0 0] : List Value), rfl, ⟨_, rfl, none, 0, rfl, Nat.le_refl _, fun i x hx => by simp at hx⟩, ⟨_, rfl, none, 0, rfl, Nat.le_refl _, fun i x hx => by simp at hx⟩⟩); obtain ⟨cs9, hc, hr10⟩ := hc
   replace hp := bind_some hp; obtain ⟨y11, hy11, hp⟩ := hp
   injection hy11 with hy11
   rw [hy11] at hc
   replace hc := S_cache_rows.op hc; obtain ⟨a13, q14, a15, q16, u12, hc⟩ := hc; subst u12
   refine ds (v := .tuple #[.agg #[.slice a13 y11.k.length q14, .slice a15 y11.v.length q16], .bool ((mget x0.m (⟨x1.Request, x1.Layer, (IntKind.i64.wrap (x1.Place - 1))⟩ : S_api_Spot)).isSome)]) rfl (fun w' hF => hr10 ((hF.2.2.1 rfl)) rfl rfl) rfl ?_
   refine ds (v := .tuple #[.agg #[.slice a13 y11.k.length q14, .slice a15 y11.v.length q16], .bool ((mget x0.m (⟨x1.Request, x1.Layer, (IntKind.i64.wrap (x1.Place - 1))⟩ : S_api_Spot)).isSome)]) rfl (fun w' hF => mv (v := .tuple #[.agg #[.slice a13 y11.k.length q14, .slice a15 y11.v.length q16], .bool ((mget x0.m (⟨x1.Request, x1.Layer, (IntKind.i64.wrap (x1.Place - 1))⟩ : S_api_Spot)).isSome)]) rfl) rfl ?_
   refine ds (v := .agg #[.slice a13 y11.k.length q14, .slice a15 y11.v.length q16]) rfl (fun w' hF => ext (v := .agg #[.slice a13 y11.k.length q14, .slice a15 y11.v.length q16]) rfl rfl) rfl ?_
   refine ds (v := .bool ((mget x0.m (⟨x1.Request, x1.Layer, (IntKind.i64.wrap (x1.Place - 1))⟩ : S_api_Spot)).isSome)) rfl (fun w' hF => ext (v := .bool ((mget x0.m (⟨x1.Request, x1.Layer, (IntKind.i64.wrap (x1.Place - 1))⟩ : S_api_Spot)).isSome)) rfl rfl) rfl ?_
   refine deE (Ctx.allocOp (cs := [.slice none 0 0, .slice none 0 0]) hc Try.zeroValue66 rfl) rfl rfl ?_
   clear hc; rintro _ w19 ⟨b17, rfl, hc⟩
   refine ⟨fun j hj hb => ⟨fun _ => hc.cell (k := 3) rfl rfl rfl, fun _ => Ctx.cells hc (k := 5) rfl rfl 0 (vs := [.int .i64 x1.Request, .int .i64 x1.Layer, .int .i64 (IntKind.i64.wrap (x1.Place - 1))]) rfl, fun _ => Ctx.mpoPin hc (i := 4) rfl rfl, trivial⟩, ?_⟩
   refine duE (A := fun w' => Ctx w' (B b17 [.slice a13 y11.k.length q14, .slice a15 y11.v.length q16] 66 :: Hold (pRo (pInt .i8)) [.slice a13 y11.k.length q14] y11.k :: Hold (pRo (pInt .i8)) [.slice a15 y11.v.length q16] y11.v :: B b0 [.int .i64 x0.room, .map (some v6)] 63 :: MpO S_api_Spot.ek (HV vfA S_cache_rows.pr) v6 o7 x0.m :: B b1 [.int .i64 x1.Request, .int .i64 x1.Layer, .int .i64 (IntKind.i64.wrap (x1.Place - 1))] 30 :: Fr)) (Ctx.putAgg hc (k := 0) rfl rfl (vs := [.slice a13 y11.k.length q14, .slice a15 y11.v.length q16]) rfl rfl rfl Try.sizeOf66 rfl rfl rfl) rfl rfl ?_
   clear hc; rintro w20 hc
   refine ⟨fun j hj hb => ⟨fun e => (by subst e; exact absurd hj (by decide)), fun e => (by subst e; exact absurd hj (by decide)), fun e => (by subst e; exact absurd hj (by decide)), trivial⟩, ?_⟩
   refine ds (v := .bool ((mget x0.m (⟨x1.Request, x1.Layer, (IntKind.i64.wrap (x1.Place - 1))⟩ : S_api_Spot)).isSome)) rfl (fun w' hF => av (v := .bool ((mget x0.m (⟨x1.Request, x1.Layer, (IntKind.i64.wrap (x1.Place - 1))⟩ : S_api_Spot)).isSome)) rfl) rfl ?_
   replace hc := Ctx.mpoB hc (i := 4) rfl rfl rfl
   replace hc : Ctx w20 (B b17 [.slice a13 y11.k.length q14, .slice a15 y11.v.length q16] 66 :: Hold (pRo (pInt .i8)) [.slice a13 y11.k.length q14] y11.k :: Hold (pRo (pInt .i8)) [.slice a15 y11.v.length q16] y11.v :: B b0 [.int .i64 x0.room, .map (some v6)] 63 :: Mp S_api_Spot.ek (HV vfA S_cache_rows.pr) v6 x0.m :: B b1 [.int .i64 x1.Request, .int .i64 x1.Layer, .int .i64 (IntKind.i64.wrap (x1.Place - 1))] 30 :: Fr) := hc
   refine dn ?_
   refine qn ?_
   refine Wseq ?_
   refine Wreg ?_
   refine rs (v := .bool ((mget x0.m (⟨x1.Request, x1.Layer, (IntKind.i64.wrap (x1.Place - 1))⟩ : S_api_Spot)).isSome)) (mv (v := .bool ((mget x0.m (⟨x1.Request, x1.Layer, (IntKind.i64.wrap (x1.Place - 1))⟩ : S_api_Spot)).isSome)) rfl) rfl ?_
   refine rs (v := .bool ((mget x0.m (⟨x1.Request, x1.Layer, (IntKind.i64.wrap (x1.Place - 1))⟩ : S_api_Spot)).isSome)) (av (v := .bool ((mget x0.m (⟨x1.Request, x1.Layer, (IntKind.i64.wrap (x1.Place - 1))⟩ : S_api_Spot)).isSome)) rfl) rfl ?_
   refine rn ?_
   refine qn ?_
   refine Wret ?_
   replace hc := hc.pull 4 rfl rfl
   replace hc := hc.pull 4 rfl rfl
   replace hc : Ctx w20 (S_cache_Store.hp b0 x0 :: B b17 [.slice a13 y11.k.length q14, .slice a15 y11.v.length q16] 66 :: Hold (pRo (pInt .i8)) [.slice a13 y11.k.length q14] y11.k :: Hold (pRo (pInt .i8)) [.slice a15 y11.v.length q16] y11.v :: B b1 [.int .i64 x1.Request, .int .i64 x1.Layer, .int .i64 (IntKind.i64.wrap (x1.Place - 1))] 30 :: Fr) := Ctx.exB _ _ (Ctx.sepB hc)
   replace hc := hc.rem 4 rfl rfl
   replace hc := hc.rem 3 rfl rfl
   replace hc := hc.rem 2 rfl rfl
   replace hc := hc.rem 1 rfl rfl
   injection hp with hp; subst hp
   refine f1 (v := .bool ((mget x0.m (⟨x1.Request, x1.Layer, (IntKind.i64.wrap (x1.Place - 1))⟩ : S_api_Spot)).isSome)) Try.results27 Try.ntmps27 rfl ?_
   exact ⟨_, rfl, k _ hc⟩
 · replace hp := gpos hp (of_decide_eq_true hb4)
   refine Wct rfl ?_
   refine Wseq ?_
   refine Wreg ?_
   refine rs (v := .bool true) (av (v := .bool true) rfl) rfl ?_
   refine rn ?_
   refine qn ?_
   refine Wret ?_
   refine qr ?_
   replace hc := hc.rem 0 rfl rfl
   injection hp with hp; subst hp
   refine f1 (v := .bool true) Try.results27 Try.ntmps27 rfl ?_
   exact ⟨_, rfl, k _ hc⟩

-- FN (*peloton/cache.Store).Put
theorem bd_66_0_1 {ρ : Operand → Value} {w : World} {dst : Option Nat} {ty : TypeId} {pos : String} {after : Array Edge} {g : Option (Nat × Bool)} {x0 x1 : Operand} {a0 : Option Addr} {l0 c0 : Nat} {a1 : Option Addr} {l1 c1 : Nat} (h0 : ρ x0 = (.slice a0 l0 c0)) (h1 : ρ x1 = (.slice a1 l1 c1)) :
    (execOp ρ ⟨dst, .build 66 #[(0, x0), (1, x1)], ty, pos, after, g⟩).run Try.prog w = .ok (.value (.agg #[(.slice a0 l0 c0), (.slice a1 l1 c1)])) w := by
  simp [execOp, Instr.build, Instr.fill, Try.zeroValue66, Try.runUnderlying66, Try.sizeOf31, h0, h1, Value.cells]

def cache_Store_Put.J1 (x0 : S_cache_Store) (x1 : S_api_Spot) (x2 : (List Int)) (x3 : (List Int)) (j26 : Bool) : Option (Int × S_cache_Store) :=
  if j26 = true then
    some (0, x0)
  else
    if (mget x0.m (⟨x1.Request, x1.Layer, x1.Place⟩ : S_api_Spot)).isSome = true then
      some (2, x0)
    else
      if ((x0.m.length : Nat) : Int) ≥ x0.room then
        some (80, x0)
      else
        (slices_Clone_s_int8_int8 x2).bind fun r40 =>
        (slices_Clone_s_int8_int8 x3).bind fun r46 =>
        some (0, (⟨x0.room, (mset x0.m (⟨x1.Request, x1.Layer, x1.Place⟩ : S_api_Spot) (⟨r40, r46⟩ : S_cache_rows))⟩ : S_cache_Store))

def cache_Store_Put (N : Nat) (x0 : S_cache_Store) (x1 : S_api_Spot) (x2 : (List Int)) (x3 : (List Int)) : Option (Int × S_cache_Store) :=
  (some ((mget x0.m (⟨x1.Request, x1.Layer, x1.Place⟩ : S_api_Spot)).getD (⟨[], []⟩ : S_cache_rows))).bind fun y9 =>
  if x1.Request < 0 then
    some (2, x0)
  else
    if x1.Layer < 0 then
      some (2, x0)
    else
      if x1.Place < 0 then
        some (2, x0)
      else
        if ((x2.length : Nat) : Int) ≠ ((x3.length : Nat) : Int) then
          some (30, x0)
        else
          (cache_Store_ahead x0 (⟨x1.Request, x1.Layer, x1.Place⟩ : S_api_Spot)).bind fun r23 =>
          if r23 = true then
            if (mget x0.m (⟨x1.Request, x1.Layer, x1.Place⟩ : S_api_Spot)).isSome = true then
              (slices_Equal_s_int8_int8 N y9.k x2).bind fun r28 =>
              if r28 = true then
                (slices_Equal_s_int8_int8 N y9.v x3).bind fun r31 =>
                cache_Store_Put.J1 x0 x1 x2 x3 r31
              else
                cache_Store_Put.J1 x0 x1 x2 x3 false
            else
              cache_Store_Put.J1 x0 x1 x2 x3 false
          else
            some (120, x0)

set_option maxHeartbeats 8000000 in
theorem cache_Store_Put_any {N : Nat} {b0 : Nat} {x0 : S_cache_Store} {x1 : S_api_Spot} {x2 : (List Int)} {ax2 : Option Addr} {nx2 : Nat} {qx2 : Nat} {P2 : HP} {x3 : (List Int)} {ax3 : Option Addr} {nx3 : Nat} {qx3 : Nat} {P3 : HP} {Fr : List HP} {w : World} {r : Int × S_cache_Store} {K : Value → World → Prop} (hrd2 : Reads P2 (pInt .i8) (.slice ax2 nx2 qx2) x2) (hrd3 : Reads P3 (pInt .i8) (.slice ax3 nx3 qx3) x3) (hc : Ctx w (S_cache_Store.hp b0 x0 :: P2 :: P3 :: Fr)) (hp : cache_Store_Put N x0 x1 x2 x3 = some r)
    (k : ∀ w', Ctx w' (S_cache_Store.hp b0 r.2 :: P2 :: P3 :: Fr) → K (.int .i64 r.1) w') : Calls Try.prog 11 #[.pointer (some ⟨b0, 0, none⟩), .agg #[.int .i64 x1.Request, .int .i64 x1.Layer, .int .i64 x1.Place], .slice ax2 nx2 qx2, .slice ax3 nx3 qx3] w (Ret K) := by
 unfold cache_Store_Put at hp
 refine Center (args := [.pointer (some ⟨b0, 0, none⟩), .agg #[.int .i64 x1.Request, .int .i64 x1.Layer, .int .i64 x1.Place], .slice ax2 nx2 qx2, .slice ax3 nx3 qx3]) (l := [(0, .pointer (some ⟨b0, 0, none⟩)), (1, .agg #[.int .i64 x1.Request, .int .i64 x1.Layer, .int .i64 x1.Place]), (2, .slice ax2 nx2 qx2), (3, .slice ax3 nx3 qx3)]) Try.func11 Try.ntmps11 rfl rfl rfl ?_
 obtain ⟨hn2, _⟩ := Ctx.rdLen hc (k := 1) rfl rfl hrd2; subst hn2
 obtain ⟨hn3, _⟩ := Ctx.rdLen hc (k := 2) rfl rfl hrd3; subst hn3
 refine Wseq ?_
 refine Wreg ?_
 refine rsE (Ctx.boxOp (cs := [.int .i64 x1.Request, .int .i64 x1.Layer, .int .i64 x1.Place]) (v := .agg #[.int .i64 x1.Request, .int .i64 x1.Layer, .int .i64 x1.Place]) hc rfl rfl) rfl ?_
 clear hc; rintro _ w3 ⟨b1, rfl, hc⟩
 refine rs (v := .int .i64 0) (av (v := .int .i64 0) rfl) rfl ?_
 refine rn ?_
 refine qn ?_
 refine Wseq ?_
 replace hc := hc.pull 1 rfl rfl
 replace hc := Ctx.exF hc; obtain ⟨v4, hc⟩ := hc
 replace hc := Ctx.sepF hc
 replace hc := Ctx.mpoF hc (i := 1) rfl rfl; obtain ⟨o5, hc⟩ := hc
 replace hc : Ctx w3 (B b0 [.int .i64 x0.room, .map (some v4)] 63 :: MpO S_api_Spot.ek (HV vfA S_cache_rows.pr) v4 o5 x0.m :: B b1 [.int .i64 x1.Request, .int .i64 x1.Layer, .int .i64 x1.Place] 30 :: P2 :: P3 :: Fr) := hc
 replace hc := hc.drew
 have hF : ∀ j, free [0, 1, 3, 7, 0, 31, 63, 127, 127, 0, 767, 2047] 0 j = true → (fun j w' => (j = 3 → w'.cell? ⟨b0, 1, none⟩ = some (.map (some v4))) ∧ (j = 4 → ∀ j v, ([.int .i64 x1.Request, .int .i64 x1.Layer, .int .i64 x1.Place] : List Value)[j]? = some v → w'.cell? ((⟨b1, 0, none⟩ : Addr).add j) = some v) ∧ (j = 5 → w'.heap[v4]? = some o5) ∧ True) j (World.drew w3) := fun j hj => ⟨fun _ => hc.cell (k := 0) rfl rfl rfl, fun _ => Ctx.cells hc (k := 2) rfl rfl 0 (vs := [.int .i64 x1.Request, .int .i64 x1.Layer, .int .i64 x1.Place]) rfl, fun _ => Ctx.mpoPin hc (i := 1) rfl rfl, trivial⟩
 refine Wdrw (fun j w' => (j = 3 → w'.cell? ⟨b0, 1, none⟩ = some (.map (some v4))) ∧ (j = 4 → ∀ j v, ([.int .i64 x1.Request, .int .i64 x1.Layer, .int .i64 x1.Place] : List Value)[j]? = some v → w'.cell? ((⟨b1, 0, none⟩ : Addr).add j) = some v) ∧ (j = 5 → w'.heap[v4]? = some o5) ∧ True) [0, 1, 3, 7, 0, 31, 63, 127, 127, 0, 767, 2047] 0 0 rfl (by kernel_rfl) (hF) ?_
 generalize hw : World.drew w3 = w6 at *
 clear hw
 refine ds (v := .pointer (some ⟨b0, 0, none⟩)) rfl (fun w' hF => mv (v := .pointer (some ⟨b0, 0, none⟩)) rfl) rfl ?_
 refine ds (v := .pointer (some ⟨b0, 0, none⟩)) rfl (fun w' hF => nl rfl) rfl ?_
 refine ds (v := .pointer (some ⟨b0, 1, none⟩)) rfl (fun w' hF => fax 1 rfl Try.underlying63 rfl Try.sizeOf61 rfl rfl rfl) rfl ?_
 refine ds (v := .map (some v4)) rfl (fun w' hF => ld rfl Try.isAgg61 ((hF.1 rfl))) rfl ?_
 refine ds (v := .agg #[.int .i64 x1.Request, .int .i64 x1.Layer, .int .i64 x1.Place]) rfl (fun w' hF => ldg rfl Try.isAgg30 Try.sizeOf30 rfl (hF.2.1 rfl)) rfl ?_
 replace hc := Ctx.mpoFact true S_api_Spot.keyL hc (i := 1) rfl rfl (⟨x1.Request, x1.Layer, x1.Place⟩ : S_api_Spot) Try.underlying61 Try.zeroValue66 (zcs := [.slice none 0 0, .slice none 0 0]) (x0 := (⟨[], []⟩ : S_cache_rows)) rfl (fun _ _ => ⟨([.slice none 0 0] : List Value), ([.slice none 0 0] : List Value), rfl, ⟨_, rfl, none, 0, rfl, Nat.le_refl _, fun i x hx => by simp at hx⟩, ⟨_, rfl, none, 0, rfl, Nat.le_refl _, fun i x hx => by simp at hx⟩⟩); obtain ⟨cs7, hc, hr8⟩ := hc
 replace hp := bind_some hp; obtain ⟨y9, hy9, hp⟩ := hp
 injection hy9 with hy9
 rw [hy9] at hc
 replace hc := S_cache_rows.op hc; obtain ⟨a11, q12, a13, q14, u10, hc⟩ := hc; subst u10
 refine ds (v := .tuple #[.agg #[.slice a11 y9.k.length q12, .slice a13 y9.v.length q14], .bool ((mget x0.m (⟨x1.Request, x1.Layer, x1.Place⟩ : S_api_Spot)).isSome)]) rfl (fun w' hF => hr8 ((hF.2.2.1 rfl)) rfl rfl) rfl ?_
 refine ds (v := .tuple #[.agg #[.slice a11 y9.k.length q12, .slice a13 y9.v.length q14], .bool ((mget x0.m (⟨x1.Request, x1.Layer, x1.Place⟩ : S_api_Spot)).isSome)]) rfl (fun w' hF => mv (v := .tuple #[.agg #[.slice a11 y9.k.length q12, .slice a13 y9.v.length q14], .bool ((mget x0.m (⟨x1.Request, x1.Layer, x1.Place⟩ : S_api_Spot)).isSome)]) rfl) rfl ?_
 refine ds (v := .agg #[.slice a11 y9.k.length q12, .slice a13 y9.v.length q14]) rfl (fun w' hF => ext (v := .agg #[.slice a11 y9.k.length q12, .slice a13 y9.v.length q14]) rfl rfl) rfl ?_
 refine ds (v := .bool ((mget x0.m (⟨x1.Request, x1.Layer, x1.Place⟩ : S_api_Spot)).isSome)) rfl (fun w' hF => ext (v := .bool ((mget x0.m (⟨x1.Request, x1.Layer, x1.Place⟩ : S_api_Spot)).isSome)) rfl rfl) rfl ?_
 refine deE (Ctx.allocOp (cs := [.slice none 0 0, .slice none 0 0]) hc Try.zeroValue66 rfl) rfl rfl ?_
 clear hc; rintro _ w17 ⟨b15, rfl, hc⟩
 refine ⟨fun j hj hb => ⟨fun _ => hc.cell (k := 3) rfl rfl rfl, fun _ => Ctx.cells hc (k := 5) rfl rfl 0 (vs := [.int .i64 x1.Request, .int .i64 x1.Layer, .int .i64 x1.Place]) rfl, fun _ => Ctx.mpoPin hc (i := 4) rfl rfl, trivial⟩, ?_⟩
 refine duE (A := fun w' => Ctx w' (B b15 [.slice a11 y9.k.length q12, .slice a13 y9.v.length q14] 66 :: Hold (pRo (pInt .i8)) [.slice a11 y9.k.length q12] y9.k :: Hold (pRo (pInt .i8)) [.slice a13 y9.v.length q14] y9.v :: B b0 [.int .i64 x0.room, .map (some v4)] 63 :: MpO S_api_Spot.ek (HV vfA S_cache_rows.pr) v4 o5 x0.m :: B b1 [.int .i64 x1.Request, .int .i64 x1.Layer, .int .i64 x1.Place] 30 :: P2 :: P3 :: Fr)) (Ctx.putAgg hc (k := 0) rfl rfl (vs := [.slice a11 y9.k.length q12, .slice a13 y9.v.length q14]) rfl rfl rfl Try.sizeOf66 rfl rfl rfl) rfl rfl ?_
 clear hc; rintro w18 hc
 refine ⟨fun j hj hb => ⟨fun e => (by subst e; exact absurd hj (by decide)), fun e => (by subst e; exact absurd hj (by decide)), fun e => (by subst e; exact absurd hj (by decide)), trivial⟩, ?_⟩
 refine ds (v := .bool ((mget x0.m (⟨x1.Request, x1.Layer, x1.Place⟩ : S_api_Spot)).isSome)) rfl (fun w' hF => av (v := .bool ((mget x0.m (⟨x1.Request, x1.Layer, x1.Place⟩ : S_api_Spot)).isSome)) rfl) rfl ?_
 replace hc := Ctx.mpoB hc (i := 4) rfl rfl rfl
 replace hc : Ctx w18 (B b15 [.slice a11 y9.k.length q12, .slice a13 y9.v.length q14] 66 :: Hold (pRo (pInt .i8)) [.slice a11 y9.k.length q12] y9.k :: Hold (pRo (pInt .i8)) [.slice a13 y9.v.length q14] y9.v :: B b0 [.int .i64 x0.room, .map (some v4)] 63 :: Mp S_api_Spot.ek (HV vfA S_cache_rows.pr) v4 x0.m :: B b1 [.int .i64 x1.Request, .int .i64 x1.Layer, .int .i64 x1.Place] 30 :: P2 :: P3 :: Fr) := hc
 refine dn ?_
 refine qn ?_
 refine Wseq ?_
 refine Wblk ?_
 refine Wseq ?_
 refine Wreg ?_
 refine rs (v := .pointer (some ⟨b1, 0, none⟩)) (fax 0 rfl Try.underlying30 rfl Try.sizeOf3 rfl rfl rfl) rfl ?_
 refine rs (v := .int .i64 x1.Request) (ld rfl Try.isAgg3 (Ctx.cell hc (k := 5) rfl rfl rfl)) rfl ?_
 refine rs (v := .bool (decide (x1.Request < 0))) (lt' rfl rfl) rfl ?_
 refine rs (v := .bool (decide (x1.Request < 0))) (mv (v := .bool (decide (x1.Request < 0))) rfl) rfl ?_
 cases hb19 : (decide (x1.Request < 0))
 · replace hp := gneg hp (of_decide_eq_false hb19)
   refine rs (v := .pointer (some ⟨b1, 1, none⟩)) (fax 1 rfl Try.underlying30 rfl Try.sizeOf3 rfl rfl rfl) rfl ?_
   refine rs (v := .int .i64 x1.Layer) (ld rfl Try.isAgg3 (Ctx.cell hc (k := 5) rfl rfl rfl)) rfl ?_
   refine rs (v := .bool (decide (x1.Layer < 0))) (lt' rfl rfl) rfl ?_
   refine rs (v := .bool (decide (x1.Layer < 0))) (pkf (v := .bool (decide (x1.Layer < 0))) rfl rfl) rfl ?_
   refine rs (v := .bool (decide (x1.Layer < 0))) (mv (v := .bool (decide (x1.Layer < 0))) rfl) rfl ?_
   cases hb20 : (decide (x1.Layer < 0))
   · replace hp := gneg hp (of_decide_eq_false hb20)
     refine rs (v := .pointer (some ⟨b1, 2, none⟩)) (fax 2 rfl Try.underlying30 rfl Try.sizeOf3 rfl rfl rfl) rfl ?_
     refine rs (v := .int .i64 x1.Place) (ld rfl Try.isAgg3 (Ctx.cell hc (k := 5) rfl rfl rfl)) rfl ?_
     refine rs (v := .bool (decide (x1.Place < 0))) (lt' rfl rfl) rfl ?_
     refine rs (v := .bool (decide (x1.Place < 0))) (pkf (v := .bool (decide (x1.Place < 0))) rfl rfl) rfl ?_
     refine rs (v := .bool (decide (x1.Place < 0))) (av (v := .bool (decide (x1.Place < 0))) rfl) rfl ?_
     refine rn ?_
     refine qn ?_
     cases hb21 : (decide (x1.Place < 0))
     · replace hp := gneg hp (of_decide_eq_false hb21)
       refine Wcf rfl ?_
       refine Wseq ?_
       refine Wreg ?_
       refine rs (v := .slice ax2 x2.length qx2) (mv (v := .slice ax2 x2.length qx2) rfl) rfl ?_
       refine rs (v := .int .i64 ((x2.length : Nat) : Int)) (ln rfl Try.underlying31) rfl ?_
       refine rs (v := .slice ax3 x3.length qx3) (mv (v := .slice ax3 x3.length qx3) rfl) rfl ?_
       refine rs (v := .int .i64 ((x3.length : Nat) : Int)) (ln rfl Try.underlying31) rfl ?_
       refine rs (v := .bool (decide (((x2.length : Nat) : Int) ≠ ((x3.length : Nat) : Int)))) (ned rfl rfl) rfl ?_
       refine rs (v := .bool (decide (((x2.length : Nat) : Int) ≠ ((x3.length : Nat) : Int)))) (av (v := .bool (decide (((x2.length : Nat) : Int) ≠ ((x3.length : Nat) : Int)))) rfl) rfl ?_
       refine rn ?_
       refine qn ?_
       cases hb22 : (decide (((x2.length : Nat) : Int) ≠ ((x3.length : Nat) : Int)))
       · replace hp := gneg hp (of_decide_eq_false hb22)
         refine Wcf rfl ?_
         refine Wseq ?_
         refine Wreg ?_
         refine rs (v := .pointer (some ⟨b0, 0, none⟩)) (mv (v := .pointer (some ⟨b0, 0, none⟩)) rfl) rfl ?_
         refine rs (v := .agg #[.int .i64 x1.Request, .int .i64 x1.Layer, .int .i64 x1.Place]) (ldg rfl Try.isAgg30 Try.sizeOf30 rfl (Ctx.cells hc (k := 5) rfl rfl 0 (vs := [.int .i64 x1.Request, .int .i64 x1.Layer, .int .i64 x1.Place]) rfl)) rfl ?_
         replace hc := hc.pull 4 rfl rfl
         replace hc := hc.pull 4 rfl rfl
         replace hc : Ctx w18 (S_cache_Store.hp b0 x0 :: B b15 [.slice a11 y9.k.length q12, .slice a13 y9.v.length q14] 66 :: Hold (pRo (pInt .i8)) [.slice a11 y9.k.length q12] y9.k :: Hold (pRo (pInt .i8)) [.slice a13 y9.v.length q14] y9.v :: B b1 [.int .i64 x1.Request, .int .i64 x1.Layer, .int .i64 x1.Place] 30 :: P2 :: P3 :: Fr) := Ctx.exB _ _ (Ctx.sepB hc)
         replace hp := bind_some hp; obtain ⟨r23, hr23, hp⟩ := hp
         refine rc (cl Try.call27 rfl rfl) rfl ?_
         refine cache_Store_ahead_any (x1 := (⟨x1.Request, x1.Layer, x1.Place⟩ : S_api_Spot)) hc hr23 ?_
         clear hc; intro w24 hc
         cases hb25 : r23
         · replace hp := gneg hp (by rw [hb25]; exact Bool.false_ne_true)
           subst hb25
           refine rs (v := .bool true) (ntf rfl) rfl ?_
           refine rs (v := .bool true) (av (v := .bool true) rfl) rfl ?_
           refine rn ?_
           refine qn ?_
           refine Wct rfl ?_
           refine Wseq ?_
           refine Wreg ?_
           refine rs (v := .int .i64 120) (av (v := .int .i64 120) rfl) rfl ?_
           refine rn ?_
           refine qn ?_
           refine Wret ?_
           refine br ?_
           refine qr ?_
           replace hc := hc.rem 4 rfl rfl
           replace hc := hc.rem 3 rfl rfl
           replace hc := hc.rem 2 rfl rfl
           replace hc := hc.rem 1 rfl rfl
           injection hp with hp; subst hp
           refine f1 (v := .int .i64 120) Try.results11 Try.ntmps11 rfl ?_
           exact ⟨_, rfl, k _ hc⟩
         · replace hp := gpos hp hb25
           subst hb25
           refine rs (v := .bool false) (ntt rfl) rfl ?_
           refine rs (v := .bool false) (av (v := .bool false) rfl) rfl ?_
           refine rn ?_
           refine qn ?_
           refine Wcf rfl ?_
           refine Wseqm [45, 46, 47, 48, 49, 50, 51, 52, 53, 54, 55, 56, 57, 58] [45] (fun vs w' => ∃ j26 : Bool, vs = [.bool j26] ∧ cache_Store_Put.J1 x0 x1 x2 x3 j26 = some r ∧ Ctx w' (S_cache_Store.hp b0 x0 :: B b1 [.int .i64 x1.Request, .int .i64 x1.Layer, .int .i64 x1.Place] 30 :: P2 :: P3 :: Fr)) ?_ ?_
           · refine Wreg ?_
             refine rs (v := .bool ((mget x0.m (⟨x1.Request, x1.Layer, x1.Place⟩ : S_api_Spot)).isSome)) (mv (v := .bool ((mget x0.m (⟨x1.Request, x1.Layer, x1.Place⟩ : S_api_Spot)).isSome)) rfl) rfl ?_
             refine rs (v := .bool ((mget x0.m (⟨x1.Request, x1.Layer, x1.Place⟩ : S_api_Spot)).isSome)) (mv (v := .bool ((mget x0.m (⟨x1.Request, x1.Layer, x1.Place⟩ : S_api_Spot)).isSome)) rfl) rfl ?_
             cases hb27 : ((mget x0.m (⟨x1.Request, x1.Layer, x1.Place⟩ : S_api_Spot)).isSome)
             · replace hp := gneg hp (by rw [hb27]; exact Bool.false_ne_true)
               refine r0 rfl ?_
               refine r0 rfl ?_
               refine r0 rfl ?_
               refine r0 rfl ?_
               refine rs (v := .bool false) (pkf (v := .bool false) rfl rfl) rfl ?_
               refine rs (v := .bool false) (mv (v := .bool false) rfl) rfl ?_
               refine r0 rfl ?_
               refine r0 rfl ?_
               refine r0 rfl ?_
               refine r0 rfl ?_
               refine rs (v := .bool false) (pkf (v := .bool false) rfl rfl) rfl ?_
               refine rs (v := .bool false) (av (v := .bool false) rfl) rfl ?_
               refine rn ?_
               refine qn ?_
               replace hc := hc.rem 3 rfl rfl
               replace hc := hc.rem 2 rfl rfl
               replace hc := hc.rem 1 rfl rfl
               exact ⟨⟨false, rfl, hp, hc⟩, (kl rfl kb)⟩
             · replace hp := gpos hp hb27
               refine rs (v := .pointer (some ⟨b15, 0, none⟩)) (fax 0 rfl Try.underlying66 rfl Try.sizeOf31 rfl rfl rfl) rfl ?_
               refine rs (v := .slice a11 y9.k.length q12) (ld rfl Try.isAgg31 (Ctx.cell hc (k := 1) rfl rfl rfl)) rfl ?_
               refine rs (v := .slice ax2 x2.length qx2) (mv (v := .slice ax2 x2.length qx2) rfl) rfl ?_
               replace hc := hc.dup (k := 2) rfl rfl
               replace hp := bind_some hp; obtain ⟨r28, hr28, hp⟩ := hp
               replace hc := hc.pull 6 rfl rfl
               replace hc := hc.pull 1 rfl rfl
               refine rc (cl Try.call28 rfl rfl) rfl ?_
               refine slices_Equal_s_int8_int8_any reads_ro hrd2 hc hr28 ?_
               clear hc; intro w29 hc
               refine rs (v := .bool r28) (pkt (v := .bool r28) rfl rfl) rfl ?_
               refine rs (v := .bool r28) (mv (v := .bool r28) rfl) rfl ?_
               cases hb30 : r28
               · replace hp := gneg hp (by rw [hb30]; exact Bool.false_ne_true)
                 subst hb30
                 refine r0 rfl ?_
                 refine r0 rfl ?_
                 refine r0 rfl ?_
                 refine r0 rfl ?_
                 refine rs (v := .bool false) (pkf (v := .bool false) rfl rfl) rfl ?_
                 refine rs (v := .bool false) (av (v := .bool false) rfl) rfl ?_
                 refine rn ?_
                 refine qn ?_
                 replace hc := hc.rem 5 rfl rfl
                 replace hc := hc.rem 4 rfl rfl
                 replace hc := hc.rem 3 rfl rfl
                 replace hc := hc.rem 0 rfl rfl
                 replace hc := hc.pull 3 rfl rfl
                 replace hc := hc.pull 1 rfl rfl
                 replace hc := hc.pull 3 rfl rfl
                 replace hc := hc.pull 3 rfl rfl
                 exact ⟨⟨false, rfl, hp, hc⟩, (kl rfl kb)⟩
               · replace hp := gpos hp hb30
                 subst hb30
                 refine rs (v := .pointer (some ⟨b15, 1, none⟩)) (fax 1 rfl Try.underlying66 rfl Try.sizeOf31 rfl rfl rfl) rfl ?_
                 refine rs (v := .slice a13 y9.v.length q14) (ld rfl Try.isAgg31 (Ctx.cell hc (k := 3) rfl rfl rfl)) rfl ?_
                 refine rs (v := .slice ax3 x3.length qx3) (mv (v := .slice ax3 x3.length qx3) rfl) rfl ?_
                 replace hc := hc.dup (k := 5) rfl rfl
                 replace hp := bind_some hp; obtain ⟨r31, hr31, hp⟩ := hp
                 replace hc := hc.pull 8 rfl rfl
                 replace hc := hc.pull 1 rfl rfl
                 refine rc (cl Try.call28 rfl rfl) rfl ?_
                 refine slices_Equal_s_int8_int8_any reads_ro hrd3 hc hr31 ?_
                 clear hc; intro w32 hc
                 refine rs (v := .bool r31) (pkt (v := .bool r31) rfl rfl) rfl ?_
                 refine rs (v := .bool r31) (av (v := .bool r31) rfl) rfl ?_
                 refine rn ?_
                 refine qn ?_
                 replace hc := hc.rem 7 rfl rfl
                 replace hc := hc.rem 6 rfl rfl
                 replace hc := hc.rem 5 rfl rfl
                 replace hc := hc.rem 2 rfl rfl
                 replace hc := hc.rem 0 rfl rfl
                 replace hc := hc.pull 1 rfl rfl
                 replace hc := hc.pull 3 rfl rfl
                 replace hc := hc.pull 3 rfl rfl
                 exact ⟨⟨r31, rfl, hp, hc⟩, (kl rfl kb)⟩
           · clear hp hc; intro vs u w33 hJ
             obtain ⟨j26, rfl, hp, hc⟩ := hJ
             unfold cache_Store_Put.J1 at hp
             cases hb34 : j26
             · replace hp := gneg hp (by rw [hb34]; exact Bool.false_ne_true)
               subst hb34
               refine Wcf rfl ?_
               refine Wseq ?_
               refine Wreg ?_
               refine rs (v := .bool ((mget x0.m (⟨x1.Request, x1.Layer, x1.Place⟩ : S_api_Spot)).isSome)) (mv (v := .bool ((mget x0.m (⟨x1.Request, x1.Layer, x1.Place⟩ : S_api_Spot)).isSome)) rfl) rfl ?_
               refine rs (v := .bool ((mget x0.m (⟨x1.Request, x1.Layer, x1.Place⟩ : S_api_Spot)).isSome)) (av (v := .bool ((mget x0.m (⟨x1.Request, x1.Layer, x1.Place⟩ : S_api_Spot)).isSome)) rfl) rfl ?_
               refine rn ?_
               refine qn ?_
               cases hb35 : ((mget x0.m (⟨x1.Request, x1.Layer, x1.Place⟩ : S_api_Spot)).isSome)
               · replace hp := gneg hp (by rw [hb35]; exact Bool.false_ne_true)
                 refine Wcf rfl ?_
                 refine Wseq ?_
                 replace hc := Ctx.exF hc; obtain ⟨v36, hc⟩ := hc
                 replace hc := Ctx.sepF hc
                 replace hc := hc.drew
                 refine Wdrw (fun _ w' => w' = World.drew w33) [0, 1, 3, 7, 15, 0, 32, 96, 224, 511, 1023] 0 0 rfl (by kernel_rfl) (fun _ _ => rfl) ?_
                 generalize hw : World.drew w33 = w37 at *
                 clear hw
                 refine ds (v := .pointer (some ⟨b0, 0, none⟩)) rfl (fun w' hF => by subst hF; exact mv (v := .pointer (some ⟨b0, 0, none⟩)) rfl) rfl ?_
                 refine ds (v := .pointer (some ⟨b0, 0, none⟩)) rfl (fun w' hF => by subst hF; exact nl rfl) rfl ?_
                 refine ds (v := .pointer (some ⟨b0, 1, none⟩)) rfl (fun w' hF => by subst hF; exact fax 1 rfl Try.underlying63 rfl Try.sizeOf61 rfl rfl rfl) rfl ?_
                 refine ds (v := .map (some v36)) rfl (fun w' hF => by subst hF; exact ld rfl Try.isAgg61 (Ctx.cell hc (k := 0) rfl rfl rfl)) rfl ?_
                 refine ds (v := .int .i64 ((x0.m.length : Nat) : Int)) rfl (fun w' hF => by subst hF; exact Ctx.mpLen hc (i := 1) rfl rfl Try.underlying61 rfl) rfl ?_
                 refine ds (v := .pointer (some ⟨b0, 0, none⟩)) rfl (fun w' hF => by subst hF; exact mv (v := .pointer (some ⟨b0, 0, none⟩)) rfl) rfl ?_
                 refine ds (v := .pointer (some ⟨b0, 0, none⟩)) rfl (fun w' hF => by subst hF; exact nl rfl) rfl ?_
                 refine ds (v := .pointer (some ⟨b0, 0, none⟩)) rfl (fun w' hF => by subst hF; exact fax 0 rfl Try.underlying63 rfl Try.sizeOf3 rfl rfl rfl) rfl ?_
                 refine ds (v := .int .i64 x0.room) rfl (fun w' hF => by subst hF; exact ld rfl Try.isAgg3 (Ctx.cell hc (k := 0) rfl rfl rfl)) rfl ?_
                 refine ds (v := .bool (decide (((x0.m.length : Nat) : Int) ≥ x0.room))) rfl (fun w' hF => by subst hF; exact ge' rfl rfl) rfl ?_
                 refine ds (v := .bool (decide (((x0.m.length : Nat) : Int) ≥ x0.room))) rfl (fun w' hF => av (v := .bool (decide (((x0.m.length : Nat) : Int) ≥ x0.room))) rfl) rfl ?_
                 refine dn ?_
                 refine qn ?_
                 cases hb38 : (decide (((x0.m.length : Nat) : Int) ≥ x0.room))
                 · replace hp := gneg hp (of_decide_eq_false hb38)
                   refine Wcf rfl ?_
                   refine Wskip ?_
                   refine bn ?_
                   refine qn ?_
                   refine Wseq ?_
                   replace hc := hc.drew
                   have hF : ∀ j, free [0, 1, 3, 7, 0, 0, 32, 0, 224, 480, 1023] 0 j = true → (fun j w' => (j = 3 → w'.cell? ⟨b0, 1, none⟩ = some (.map (some v36))) ∧ (j = 4 → ∀ j v, ([.int .i64 x1.Request, .int .i64 x1.Layer, .int .i64 x1.Place] : List Value)[j]? = some v → w'.cell? ((⟨b1, 0, none⟩ : Addr).add j) = some v) ∧ True) j (World.drew w37) := fun j hj => ⟨fun _ => hc.cell (k := 0) rfl rfl rfl, fun _ => Ctx.cells hc (k := 2) rfl rfl 0 (vs := [.int .i64 x1.Request, .int .i64 x1.Layer, .int .i64 x1.Place]) rfl, trivial⟩
                   refine Wdrw (fun j w' => (j = 3 → w'.cell? ⟨b0, 1, none⟩ = some (.map (some v36))) ∧ (j = 4 → ∀ j v, ([.int .i64 x1.Request, .int .i64 x1.Layer, .int .i64 x1.Place] : List Value)[j]? = some v → w'.cell? ((⟨b1, 0, none⟩ : Addr).add j) = some v) ∧ True) [0, 1, 3, 7, 0, 0, 32, 0, 224, 480, 1023] 0 0 rfl (by kernel_rfl) (hF) ?_
                   generalize hw : World.drew w37 = w39 at *
                   clear hw
                   refine ds (v := .pointer (some ⟨b0, 0, none⟩)) rfl (fun w' hF => mv (v := .pointer (some ⟨b0, 0, none⟩)) rfl) rfl ?_
                   refine ds (v := .pointer (some ⟨b0, 0, none⟩)) rfl (fun w' hF => nl rfl) rfl ?_
                   refine ds (v := .pointer (some ⟨b0, 1, none⟩)) rfl (fun w' hF => fax 1 rfl Try.underlying63 rfl Try.sizeOf61 rfl rfl rfl) rfl ?_
                   refine ds (v := .map (some v36)) rfl (fun w' hF => ld rfl Try.isAgg61 ((hF.1 rfl))) rfl ?_
                   refine ds (v := .agg #[.int .i64 x1.Request, .int .i64 x1.Layer, .int .i64 x1.Place]) rfl (fun w' hF => ldg rfl Try.isAgg30 Try.sizeOf30 rfl (hF.2.1 rfl)) rfl ?_
                   refine ds (v := .slice ax2 x2.length qx2) rfl (fun w' hF => mv (v := .slice ax2 x2.length qx2) rfl) rfl ?_
                   replace hp := bind_some hp; obtain ⟨r40, hr40, hp⟩ := hp
                   replace hc := hc.pull 3 rfl rfl
                   refine dc (cl Try.call29 rfl rfl) rfl rfl ?_
                   refine slices_Clone_s_int8_int8_any hrd2 hc hr40 ?_
                   clear hc; intro a41 n42 q43 w44 hc
                   obtain ⟨u45, _⟩ := Ctx.rdLen hc (k := 0) rfl rfl reads_own; subst u45
                   refine ⟨fun j hj hb => ⟨fun _ => hc.cell (k := 2) rfl rfl rfl, fun _ => Ctx.cells hc (k := 4) rfl rfl 0 (vs := [.int .i64 x1.Request, .int .i64 x1.Layer, .int .i64 x1.Place]) rfl, trivial⟩, ?_⟩
                   refine ds (v := .slice ax3 x3.length qx3) rfl (fun w' hF => mv (v := .slice ax3 x3.length qx3) rfl) rfl ?_
                   replace hp := bind_some hp; obtain ⟨r46, hr46, hp⟩ := hp
                   replace hc := hc.pull 5 rfl rfl
                   refine dc (cl Try.call29 rfl rfl) rfl rfl ?_
                   refine slices_Clone_s_int8_int8_any hrd3 hc hr46 ?_
                   clear hc; intro a47 n48 q49 w50 hc
                   obtain ⟨u51, _⟩ := Ctx.rdLen hc (k := 0) rfl rfl reads_own; subst u51
                   refine ⟨fun j hj hb => ⟨fun _ => hc.cell (k := 4) rfl rfl rfl, fun _ => Ctx.cells hc (k := 6) rfl rfl 0 (vs := [.int .i64 x1.Request, .int .i64 x1.Layer, .int .i64 x1.Place]) rfl, trivial⟩, ?_⟩
                   refine ds (v := .agg #[.slice a41 r40.length q43, .slice a47 r46.length q49]) rfl (fun w' hF => bd_66_0_1 rfl rfl) rfl ?_
                   replace hc := hc.freeze (k := 0) rfl rfl rfl
                   replace hc := hc.dup (k := 0) rfl rfl
                   replace hc := hc.freeze (k := 3) rfl rfl rfl
                   replace hc := hc.dup (k := 3) rfl rfl
                   replace hc : Ctx w50 (Hold S_cache_rows.pr [.slice a41 r40.length q43, .slice a47 r46.length q49] (⟨r40, r46⟩ : S_cache_rows) :: Hold (pRo (pInt .i8)) [.slice a47 r46.length q49] r46 :: P3 :: Hold (pRo (pInt .i8)) [.slice a41 r40.length q43] r40 :: P2 :: B b0 [.int .i64 x0.room, .map (some v36)] 63 :: Mp S_api_Spot.ek (HV vfA S_cache_rows.pr) v36 x0.m :: B b1 [.int .i64 x1.Request, .int .i64 x1.Layer, .int .i64 x1.Place] 30 :: Fr) := S_cache_rows.cl hc
                   refine duE (A := fun w' => Ctx w' (Hold (pRo (pInt .i8)) [.slice a47 r46.length q49] r46 :: P3 :: Hold (pRo (pInt .i8)) [.slice a41 r40.length q43] r40 :: P2 :: B b0 [.int .i64 x0.room, .map (some v36)] 63 :: Mp S_api_Spot.ek (HV vfA S_cache_rows.pr) v36 (mset x0.m (⟨x1.Request, x1.Layer, x1.Place⟩ : S_api_Spot) (⟨r40, r46⟩ : S_cache_rows)) :: B b1 [.int .i64 x1.Request, .int .i64 x1.Layer, .int .i64 x1.Place] 30 :: Fr)) (Ctx.mpSet S_api_Spot.keyL hc (i := 5) rfl rfl Try.underlying61 rfl rfl rfl) rfl rfl ?_
                   clear hc; rintro w52 hc
                   refine ⟨fun j hj hb => ⟨fun e => (by subst e; exact absurd hj (by decide)), fun e => (by subst e; exact absurd hj (by decide)), trivial⟩, ?_⟩
                   refine dn ?_
                   refine qn ?_
                   refine Wseq ?_
                   refine Wreg ?_
                   refine rs (v := .int .i64 0) (av (v := .int .i64 0) rfl) rfl ?_
                   refine rn ?_
                   refine qn ?_
                   refine Wret ?_
                   replace hc := hc.pull 5 rfl rfl
                   replace hc := hc.pull 5 rfl rfl
                   replace hc : Ctx w52 (S_cache_Store.hp b0 (⟨x0.room, (mset x0.m (⟨x1.Request, x1.Layer, x1.Place⟩ : S_api_Spot) (⟨r40, r46⟩ : S_cache_rows))⟩ : S_cache_Store) :: Hold (pRo (pInt .i8)) [.slice a47 r46.length q49] r46 :: P3 :: Hold (pRo (pInt .i8)) [.slice a41 r40.length q43] r40 :: P2 :: B b1 [.int .i64 x1.Request, .int .i64 x1.Layer, .int .i64 x1.Place] 30 :: Fr) := Ctx.exB _ _ (Ctx.sepB hc)
                   replace hc := hc.rem 5 rfl rfl
                   replace hc := hc.rem 3 rfl rfl
                   replace hc := hc.rem 1 rfl rfl
                   replace hc := hc.pull 1 rfl rfl
                   replace hc := hc.pull 2 rfl rfl
                   replace hc := hc.pull 2 rfl rfl
                   injection hp with hp; subst hp
                   refine f1 (v := .int .i64 0) Try.results11 Try.ntmps11 rfl ?_
                   exact ⟨_, rfl, k _ hc⟩
                 · replace hp := gpos hp (of_decide_eq_true hb38)
                   refine Wct rfl ?_
                   refine Wseq ?_
                   refine Wreg ?_
                   refine rs (v := .int .i64 80) (av (v := .int .i64 80) rfl) rfl ?_
                   refine rn ?_
                   refine qn ?_
                   refine Wret ?_
                   refine br ?_
                   refine qr ?_
                   replace hc := hc.pull 1 rfl rfl
                   replace hc := hc.pull 1 rfl rfl
                   replace hc : Ctx w37 (S_cache_Store.hp b0 x0 :: B b1 [.int .i64 x1.Request, .int .i64 x1.Layer, .int .i64 x1.Place] 30 :: P2 :: P3 :: Fr) := Ctx.exB _ _ (Ctx.sepB hc)
                   replace hc := hc.rem 1 rfl rfl
                   injection hp with hp; subst hp
                   refine f1 (v := .int .i64 80) Try.results11 Try.ntmps11 rfl ?_
                   exact ⟨_, rfl, k _ hc⟩
               · replace hp := gpos hp hb35
                 refine Wct rfl ?_
                 refine Wseq ?_
                 refine Wreg ?_
                 refine rs (v := .int .i64 2) (av (v := .int .i64 2) rfl) rfl ?_
                 refine rn ?_
                 refine qn ?_
                 refine Wret ?_
                 refine br ?_
                 refine qr ?_
                 replace hc := hc.rem 1 rfl rfl
                 injection hp with hp; subst hp
                 refine f1 (v := .int .i64 2) Try.results11 Try.ntmps11 rfl ?_
                 exact ⟨_, rfl, k _ hc⟩
             · replace hp := gpos hp hb34
               subst hb34
               refine Wct rfl ?_
               refine Wseq ?_
               refine Wreg ?_
               refine rs (v := .int .i64 0) (av (v := .int .i64 0) rfl) rfl ?_
               refine rn ?_
               refine qn ?_
               refine Wret ?_
               refine br ?_
               refine qr ?_
               replace hc := hc.rem 1 rfl rfl
               injection hp with hp; subst hp
               refine f1 (v := .int .i64 0) Try.results11 Try.ntmps11 rfl ?_
               exact ⟨_, rfl, k _ hc⟩
       · replace hp := gpos hp (of_decide_eq_true hb22)
         refine Wct rfl ?_
         refine Wseq ?_
         refine Wreg ?_
         refine rs (v := .int .i64 30) (av (v := .int .i64 30) rfl) rfl ?_
         refine rn ?_
         refine qn ?_
         refine Wret ?_
         refine br ?_
         refine qr ?_
         replace hc := hc.pull 4 rfl rfl
         replace hc := hc.pull 4 rfl rfl
         replace hc : Ctx w18 (S_cache_Store.hp b0 x0 :: B b15 [.slice a11 y9.k.length q12, .slice a13 y9.v.length q14] 66 :: Hold (pRo (pInt .i8)) [.slice a11 y9.k.length q12] y9.k :: Hold (pRo (pInt .i8)) [.slice a13 y9.v.length q14] y9.v :: B b1 [.int .i64 x1.Request, .int .i64 x1.Layer, .int .i64 x1.Place] 30 :: P2 :: P3 :: Fr) := Ctx.exB _ _ (Ctx.sepB hc)
         replace hc := hc.rem 4 rfl rfl
         replace hc := hc.rem 3 rfl rfl
         replace hc := hc.rem 2 rfl rfl
         replace hc := hc.rem 1 rfl rfl
         injection hp with hp; subst hp
         refine f1 (v := .int .i64 30) Try.results11 Try.ntmps11 rfl ?_
         exact ⟨_, rfl, k _ hc⟩
     · replace hp := gpos hp (of_decide_eq_true hb21)
       refine Wct rfl ?_
       refine Wseq ?_
       refine Wreg ?_
       refine rs (v := .int .i64 2) (av (v := .int .i64 2) rfl) rfl ?_
       refine rn ?_
       refine qn ?_
       refine Wret ?_
       refine br ?_
       refine qr ?_
       replace hc := hc.pull 4 rfl rfl
       replace hc := hc.pull 4 rfl rfl
       replace hc : Ctx w18 (S_cache_Store.hp b0 x0 :: B b15 [.slice a11 y9.k.length q12, .slice a13 y9.v.length q14] 66 :: Hold (pRo (pInt .i8)) [.slice a11 y9.k.length q12] y9.k :: Hold (pRo (pInt .i8)) [.slice a13 y9.v.length q14] y9.v :: B b1 [.int .i64 x1.Request, .int .i64 x1.Layer, .int .i64 x1.Place] 30 :: P2 :: P3 :: Fr) := Ctx.exB _ _ (Ctx.sepB hc)
       replace hc := hc.rem 4 rfl rfl
       replace hc := hc.rem 3 rfl rfl
       replace hc := hc.rem 2 rfl rfl
       replace hc := hc.rem 1 rfl rfl
       injection hp with hp; subst hp
       refine f1 (v := .int .i64 2) Try.results11 Try.ntmps11 rfl ?_
       exact ⟨_, rfl, k _ hc⟩
   · replace hp := gpos hp (of_decide_eq_true hb20)
     refine r0 rfl ?_
     refine r0 rfl ?_
     refine r0 rfl ?_
     refine rs (v := .bool true) (pkt (v := .bool true) rfl rfl) rfl ?_
     refine rs (v := .bool true) (av (v := .bool true) rfl) rfl ?_
     refine rn ?_
     refine qn ?_
     refine Wct rfl ?_
     refine Wseq ?_
     refine Wreg ?_
     refine rs (v := .int .i64 2) (av (v := .int .i64 2) rfl) rfl ?_
     refine rn ?_
     refine qn ?_
     refine Wret ?_
     refine br ?_
     refine qr ?_
     replace hc := hc.pull 4 rfl rfl
     replace hc := hc.pull 4 rfl rfl
     replace hc : Ctx w18 (S_cache_Store.hp b0 x0 :: B b15 [.slice a11 y9.k.length q12, .slice a13 y9.v.length q14] 66 :: Hold (pRo (pInt .i8)) [.slice a11 y9.k.length q12] y9.k :: Hold (pRo (pInt .i8)) [.slice a13 y9.v.length q14] y9.v :: B b1 [.int .i64 x1.Request, .int .i64 x1.Layer, .int .i64 x1.Place] 30 :: P2 :: P3 :: Fr) := Ctx.exB _ _ (Ctx.sepB hc)
     replace hc := hc.rem 4 rfl rfl
     replace hc := hc.rem 3 rfl rfl
     replace hc := hc.rem 2 rfl rfl
     replace hc := hc.rem 1 rfl rfl
     injection hp with hp; subst hp
     refine f1 (v := .int .i64 2) Try.results11 Try.ntmps11 rfl ?_
     exact ⟨_, rfl, k _ hc⟩
 · replace hp := gpos hp (of_decide_eq_true hb19)
   refine r0 rfl ?_
   refine r0 rfl ?_
   refine r0 rfl ?_
   refine rs (v := .bool true) (pkt (v := .bool true) rfl rfl) rfl ?_
   refine rs (v := .bool true) (mv (v := .bool true) rfl) rfl ?_
   refine r0 rfl ?_
   refine r0 rfl ?_
   refine r0 rfl ?_
   refine rs (v := .bool true) (pkt (v := .bool true) rfl rfl) rfl ?_
   refine rs (v := .bool true) (av (v := .bool true) rfl) rfl ?_
   refine rn ?_
   refine qn ?_
   refine Wct rfl ?_
   refine Wseq ?_
   refine Wreg ?_
   refine rs (v := .int .i64 2) (av (v := .int .i64 2) rfl) rfl ?_
   refine rn ?_
   refine qn ?_
   refine Wret ?_
   refine br ?_
   refine qr ?_
   replace hc := hc.pull 4 rfl rfl
   replace hc := hc.pull 4 rfl rfl
   replace hc : Ctx w18 (S_cache_Store.hp b0 x0 :: B b15 [.slice a11 y9.k.length q12, .slice a13 y9.v.length q14] 66 :: Hold (pRo (pInt .i8)) [.slice a11 y9.k.length q12] y9.k :: Hold (pRo (pInt .i8)) [.slice a13 y9.v.length q14] y9.v :: B b1 [.int .i64 x1.Request, .int .i64 x1.Layer, .int .i64 x1.Place] 30 :: P2 :: P3 :: Fr) := Ctx.exB _ _ (Ctx.sepB hc)
   replace hc := hc.rem 4 rfl rfl
   replace hc := hc.rem 3 rfl rfl
   replace hc := hc.rem 2 rfl rfl
   replace hc := hc.rem 1 rfl rfl
   injection hp with hp; subst hp
   refine f1 (v := .int .i64 2) Try.results11 Try.ntmps11 rfl ?_
   exact ⟨_, rfl, k _ hc⟩

-- FN (*peloton/cache.Store).Get
def cache_Store_Get (x0 : S_cache_Store) (x1 : S_api_Spot) : Option ((List Int) × (List Int) × Bool) :=
  (some ((mget x0.m (⟨x1.Request, x1.Layer, x1.Place⟩ : S_api_Spot)).getD (⟨[], []⟩ : S_cache_rows))).bind fun y9 =>
  (slices_Clone_s_int8_int8 y9.k).bind fun r20 =>
  (slices_Clone_s_int8_int8 y9.v).bind fun r26 =>
  some (r20, r26, (mget x0.m (⟨x1.Request, x1.Layer, x1.Place⟩ : S_api_Spot)).isSome)

set_option maxHeartbeats 8000000 in
theorem cache_Store_Get_any {b0 : Nat} {x0 : S_cache_Store} {x1 : S_api_Spot} {Fr : List HP} {w : World} {r : (List Int) × (List Int) × Bool} {K : Value → World → Prop}  (hc : Ctx w (S_cache_Store.hp b0 x0 :: Fr)) (hp : cache_Store_Get x0 x1 = some r)
    (k : ∀ (a32 : Option Addr) (n33 : Nat) (q34 : Nat) (a35 : Option Addr) (n36 : Nat) (q37 : Nat) w', Ctx w' (Own (pInt .i8) 42 (.slice a32 n33 q34) r.1 :: Own (pInt .i8) 42 (.slice a35 n36 q37) r.2.1 :: S_cache_Store.hp b0 x0 :: Fr) → K (.tuple #[.slice a32 n33 q34, .slice a35 n36 q37, .bool r.2.2]) w') : Calls Try.prog 15 #[.pointer (some ⟨b0, 0, none⟩), .agg #[.int .i64 x1.Request, .int .i64 x1.Layer, .int .i64 x1.Place]] w (Ret K) := by
 unfold cache_Store_Get at hp
 refine Center (args := [.pointer (some ⟨b0, 0, none⟩), .agg #[.int .i64 x1.Request, .int .i64 x1.Layer, .int .i64 x1.Place]]) (l := [(0, .pointer (some ⟨b0, 0, none⟩)), (1, .agg #[.int .i64 x1.Request, .int .i64 x1.Layer, .int .i64 x1.Place])]) Try.func15 Try.ntmps15 rfl rfl rfl ?_
 refine Wseq ?_
 refine Wreg ?_
 refine rsE (Ctx.boxOp (cs := [.int .i64 x1.Request, .int .i64 x1.Layer, .int .i64 x1.Place]) (v := .agg #[.int .i64 x1.Request, .int .i64 x1.Layer, .int .i64 x1.Place]) hc rfl rfl) rfl ?_
 clear hc; rintro _ w3 ⟨b1, rfl, hc⟩
 refine rs (v := .slice none 0 0) (av (v := .slice none 0 0) rfl) rfl ?_
 refine rs (v := .slice none 0 0) (av (v := .slice none 0 0) rfl) rfl ?_
 refine rs (v := .bool false) (av (v := .bool false) rfl) rfl ?_
 refine rn ?_
 refine qn ?_
 refine Wseq ?_
 replace hc := hc.pull 1 rfl rfl
 replace hc := Ctx.exF hc; obtain ⟨v4, hc⟩ := hc
 replace hc := Ctx.sepF hc
 replace hc := Ctx.mpoF hc (i := 1) rfl rfl; obtain ⟨o5, hc⟩ := hc
 replace hc : Ctx w3 (B b0 [.int .i64 x0.room, .map (some v4)] 63 :: MpO S_api_Spot.ek (HV vfA S_cache_rows.pr) v4 o5 x0.m :: B b1 [.int .i64 x1.Request, .int .i64 x1.Layer, .int .i64 x1.Place] 30 :: Fr) := hc
 replace hc := hc.drew
 have hF : ∀ j, free [0, 1, 3, 7, 0, 31, 63, 127, 127, 0, 767, 2047] 0 j = true → (fun j w' => (j = 3 → w'.cell? ⟨b0, 1, none⟩ = some (.map (some v4))) ∧ (j = 4 → ∀ j v, ([.int .i64 x1.Request, .int .i64 x1.Layer, .int .i64 x1.Place] : List Value)[j]? = some v → w'.cell? ((⟨b1, 0, none⟩ : Addr).add j) = some v) ∧ (j = 5 → w'.heap[v4]? = some o5) ∧ True) j (World.drew w3) := fun j hj => ⟨fun _ => hc.cell (k := 0) rfl rfl rfl, fun _ => Ctx.cells hc (k := 2) rfl rfl 0 (vs := [.int .i64 x1.Request, .int .i64 x1.Layer, .int .i64 x1.Place]) rfl, fun _ => Ctx.mpoPin hc (i := 1) rfl rfl, trivial⟩
 refine Wdrw (fun j w' => (j = 3 → w'.cell? ⟨b0, 1, none⟩ = some (.map (some v4))) ∧ (j = 4 → ∀ j v, ([.int .i64 x1.Request, .int .i64 x1.Layer, .int .i64 x1.Place] : List Value)[j]? = some v → w'.cell? ((⟨b1, 0, none⟩ : Addr).add j) = some v) ∧ (j = 5 → w'.heap[v4]? = some o5) ∧ True) [0, 1, 3, 7, 0, 31, 63, 127, 127, 0, 767, 2047] 0 0 rfl (by kernel_rfl) (hF) ?_
 generalize hw : World.drew w3 = w6 at *
 clear hw
 refine ds (v := .pointer (some ⟨b0, 0, none⟩)) rfl (fun w' hF => mv (v := .pointer (some ⟨b0, 0, none⟩)) rfl) rfl ?_
 refine ds (v := .pointer (some ⟨b0, 0, none⟩)) rfl (fun w' hF => nl rfl) rfl ?_
 refine ds (v := .pointer (some ⟨b0, 1, none⟩)) rfl (fun w' hF => fax 1 rfl Try.underlying63 rfl Try.sizeOf61 rfl rfl rfl) rfl ?_
 refine ds (v := .map (some v4)) rfl (fun w' hF => ld rfl Try.isAgg61 ((hF.1 rfl))) rfl ?_
 refine ds (v := .agg #[.int .i64 x1.Request, .int .i64 x1.Layer, .int .i64 x1.Place]) rfl (fun w' hF => ldg rfl Try.isAgg30 Try.sizeOf30 rfl (hF.2.1 rfl)) rfl ?_
 replace hc := Ctx.mpoFact true S_api_Spot.keyL hc (i := 1) rfl rfl (⟨x1.Request, x1.Layer, x1.Place⟩ : S_api_Spot) Try.underlying61 Try.zeroValue66 (zcs := [.slice none 0 0, .slice none 0 0]) (x0 := (⟨[], []⟩ : S_cache_rows)) rfl (fun _ _ => ⟨([.slice none 0 0] : List Value), ([.slice none 0 0] : List Value), rfl, ⟨_, rfl, none, 0, rfl, Nat.le_refl _, fun i x hx => by simp at hx⟩, ⟨_, rfl, none, 0, rfl, Nat.le_refl _, fun i x hx => by simp at hx⟩⟩); obtain ⟨cs7, hc, hr8⟩ := hc
 replace hp := bind_some hp; obtain ⟨y9, hy9, hp⟩ := hp
 injection hy9 with hy9
 rw [hy9] at hc
 replace hc := S_cache_rows.op hc; obtain ⟨a11, q12, a13, q14, u10, hc⟩ := hc; subst u10
 refine ds (v := .tuple #[.agg #[.slice a11 y9.k.length q12, .slice a13 y9.v.length q14], .bool ((mget x0.m (⟨x1.Request, x1.Layer, x1.Place⟩ : S_api_Spot)).isSome)]) rfl (fun w' hF => hr8 ((hF.2.2.1 rfl)) rfl rfl) rfl ?_
 refine ds (v := .tuple #[.agg #[.slice a11 y9.k.length q12, .slice a13 y9.v.length q14], .bool ((mget x0.m (⟨x1.Request, x1.Layer, x1.Place⟩ : S_api_Spot)).isSome)]) rfl (fun w' hF => mv (v := .tuple #[.agg #[.slice a11 y9.k.length q12, .slice a13 y9.v.length q14], .bool ((mget x0.m (⟨x1.Request, x1.Layer, x1.Place⟩ : S_api_Spot)).isSome)]) rfl) rfl ?_
 refine ds (v := .agg #[.slice a11 y9.k.length q12, .slice a13 y9.v.length q14]) rfl (fun w' hF => ext (v := .agg #[.slice a11 y9.k.length q12, .slice a13 y9.v.length q14]) rfl rfl) rfl ?_
 refine ds (v := .bool ((mget x0.m (⟨x1.Request, x1.Layer, x1.Place⟩ : S_api_Spot)).isSome)) rfl (fun w' hF => ext (v := .bool ((mget x0.m (⟨x1.Request, x1.Layer, x1.Place⟩ : S_api_Spot)).isSome)) rfl rfl) rfl ?_
 refine deE (Ctx.allocOp (cs := [.slice none 0 0, .slice none 0 0]) hc Try.zeroValue66 rfl) rfl rfl ?_
 clear hc; rintro _ w17 ⟨b15, rfl, hc⟩
 refine ⟨fun j hj hb => ⟨fun _ => hc.cell (k := 3) rfl rfl rfl, fun _ => Ctx.cells hc (k := 5) rfl rfl 0 (vs := [.int .i64 x1.Request, .int .i64 x1.Layer, .int .i64 x1.Place]) rfl, fun _ => Ctx.mpoPin hc (i := 4) rfl rfl, trivial⟩, ?_⟩
 refine duE (A := fun w' => Ctx w' (B b15 [.slice a11 y9.k.length q12, .slice a13 y9.v.length q14] 66 :: Hold (pRo (pInt .i8)) [.slice a11 y9.k.length q12] y9.k :: Hold (pRo (pInt .i8)) [.slice a13 y9.v.length q14] y9.v :: B b0 [.int .i64 x0.room, .map (some v4)] 63 :: MpO S_api_Spot.ek (HV vfA S_cache_rows.pr) v4 o5 x0.m :: B b1 [.int .i64 x1.Request, .int .i64 x1.Layer, .int .i64 x1.Place] 30 :: Fr)) (Ctx.putAgg hc (k := 0) rfl rfl (vs := [.slice a11 y9.k.length q12, .slice a13 y9.v.length q14]) rfl rfl rfl Try.sizeOf66 rfl rfl rfl) rfl rfl ?_
 clear hc; rintro w18 hc
 refine ⟨fun j hj hb => ⟨fun e => (by subst e; exact absurd hj (by decide)), fun e => (by subst e; exact absurd hj (by decide)), fun e => (by subst e; exact absurd hj (by decide)), trivial⟩, ?_⟩
 refine ds (v := .bool ((mget x0.m (⟨x1.Request, x1.Layer, x1.Place⟩ : S_api_Spot)).isSome)) rfl (fun w' hF => av (v := .bool ((mget x0.m (⟨x1.Request, x1.Layer, x1.Place⟩ : S_api_Spot)).isSome)) rfl) rfl ?_
 replace hc := Ctx.mpoB hc (i := 4) rfl rfl rfl
 replace hc : Ctx w18 (B b15 [.slice a11 y9.k.length q12, .slice a13 y9.v.length q14] 66 :: Hold (pRo (pInt .i8)) [.slice a11 y9.k.length q12] y9.k :: Hold (pRo (pInt .i8)) [.slice a13 y9.v.length q14] y9.v :: B b0 [.int .i64 x0.room, .map (some v4)] 63 :: Mp S_api_Spot.ek (HV vfA S_cache_rows.pr) v4 x0.m :: B b1 [.int .i64 x1.Request, .int .i64 x1.Layer, .int .i64 x1.Place] 30 :: Fr) := hc
 refine dn ?_
 refine qn ?_
 refine Wseq ?_
 replace hc := hc.drew
 have hF : ∀ j, free [0, 1, 3, 0, 8, 31, 0, 63, 191, 511] 0 j = true → (fun j w' => (j = 4 → w'.cell? ⟨b15, 1, none⟩ = some (.slice a13 y9.v.length q14)) ∧ True) j (World.drew w18) := fun j hj => ⟨fun _ => hc.cell (k := 0) rfl rfl rfl, trivial⟩
 refine Wdrw (fun j w' => (j = 4 → w'.cell? ⟨b15, 1, none⟩ = some (.slice a13 y9.v.length q14)) ∧ True) [0, 1, 3, 0, 8, 31, 0, 63, 191, 511] 0 2 rfl (by kernel_rfl) (hF) ?_
 generalize hw : World.drew w18 = w19 at *
 clear hw
 refine ds (v := .pointer (some ⟨b15, 0, none⟩)) rfl (fun w' hF => fax 0 rfl Try.underlying66 rfl Try.sizeOf31 rfl rfl rfl) rfl ?_
 refine dx (v := .slice a11 y9.k.length q12) rfl (ld rfl Try.isAgg31 (Ctx.cell hc (k := 0) rfl rfl rfl)) rfl rfl ?_
 replace hc := hc.dup (k := 1) rfl rfl
 replace hp := bind_some hp; obtain ⟨r20, hr20, hp⟩ := hp
 refine dc (cl Try.call29 rfl rfl) rfl rfl ?_
 refine slices_Clone_s_int8_int8_any reads_ro hc hr20 ?_
 clear hc; intro a21 n22 q23 w24 hc
 obtain ⟨u25, _⟩ := Ctx.rdLen hc (k := 0) rfl rfl reads_own; subst u25
 refine ⟨fun j hj hb => ⟨fun _ => hc.cell (k := 2) rfl rfl rfl, trivial⟩, ?_⟩
 refine ds (v := .pointer (some ⟨b15, 1, none⟩)) rfl (fun w' hF => fax 1 rfl Try.underlying66 rfl Try.sizeOf31 rfl rfl rfl) rfl ?_
 refine ds (v := .slice a13 y9.v.length q14) rfl (fun w' hF => ld rfl Try.isAgg31 ((hF.1 rfl))) rfl ?_
 replace hc := hc.dup (k := 4) rfl rfl
 replace hp := bind_some hp; obtain ⟨r26, hr26, hp⟩ := hp
 refine dc (cl Try.call29 rfl rfl) rfl rfl ?_
 refine slices_Clone_s_int8_int8_any reads_ro hc hr26 ?_
 clear hc; intro a27 n28 q29 w30 hc
 obtain ⟨u31, _⟩ := Ctx.rdLen hc (k := 0) rfl rfl reads_own; subst u31
 refine ⟨fun j hj hb => ⟨fun e => (by subst e; exact absurd hj (by decide)), trivial⟩, ?_⟩
 refine ds (v := .bool ((mget x0.m (⟨x1.Request, x1.Layer, x1.Place⟩ : S_api_Spot)).isSome)) rfl (fun w' hF => mv (v := .bool ((mget x0.m (⟨x1.Request, x1.Layer, x1.Place⟩ : S_api_Spot)).isSome)) rfl) rfl ?_
 refine ds (v := .slice a21 r20.length q23) rfl (fun w' hF => av (v := .slice a21 r20.length q23) rfl) rfl ?_
 refine ds (v := .slice a27 r26.length q29) rfl (fun w' hF => av (v := .slice a27 r26.length q29) rfl) rfl ?_
 refine ds (v := .bool ((mget x0.m (⟨x1.Request, x1.Layer, x1.Place⟩ : S_api_Spot)).isSome)) rfl (fun w' hF => av (v := .bool ((mget x0.m (⟨x1.Request, x1.Layer, x1.Place⟩ : S_api_Spot)).isSome)) rfl) rfl ?_
 refine dn ?_
 refine qn ?_
 refine Wret ?_
 replace hc := hc.pull 8 rfl rfl
 replace hc := hc.pull 8 rfl rfl
 replace hc : Ctx w30 (S_cache_Store.hp b0 x0 :: Own (pInt .i8) 42 (.slice a27 r26.length q29) r26 :: Hold (pRo (pInt .i8)) [.slice a13 y9.v.length q14] y9.v :: Own (pInt .i8) 42 (.slice a21 r20.length q23) r20 :: Hold (pRo (pInt .i8)) [.slice a11 y9.k.length q12] y9.k :: B b15 [.slice a11 y9.k.length q12, .slice a13 y9.v.length q14] 66 :: Hold (pRo (pInt .i8)) [.slice a11 y9.k.length q12] y9.k :: Hold (pRo (pInt .i8)) [.slice a13 y9.v.length q14] y9.v :: B b1 [.int .i64 x1.Request, .int .i64 x1.Layer, .int .i64 x1.Place] 30 :: Fr) := Ctx.exB _ _ (Ctx.sepB hc)
 replace hc := hc.rem 8 rfl rfl
 replace hc := hc.rem 7 rfl rfl
 replace hc := hc.rem 6 rfl rfl
 replace hc := hc.rem 5 rfl rfl
 replace hc := hc.rem 4 rfl rfl
 replace hc := hc.rem 2 rfl rfl
 replace hc := hc.pull 1 rfl rfl
 replace hc := hc.pull 2 rfl rfl
 injection hp with hp; subst hp
 refine f3 (v := .slice a21 r20.length q23) (u := .slice a27 r26.length q29) (z := .bool ((mget x0.m (⟨x1.Request, x1.Layer, x1.Place⟩ : S_api_Spot)).isSome)) Try.results15 Try.ntmps15 rfl rfl rfl ?_
 exact ⟨_, rfl, k _ _ _ _ _ _ _ hc⟩

-- FN (*peloton/cache.Store).Line
theorem bd_30_0_1 {ρ : Operand → Value} {w : World} {dst : Option Nat} {ty : TypeId} {pos : String} {after : Array Edge} {g : Option (Nat × Bool)} {x0 x1 : Operand} {k0 : IntKind} {a0 : Int} {k1 : IntKind} {a1 : Int} (h0 : ρ x0 = (.int k0 a0)) (h1 : ρ x1 = (.int k1 a1)) :
    (execOp ρ ⟨dst, .build 30 #[(0, x0), (1, x1)], ty, pos, after, g⟩).run Try.prog w = .ok (.value (.agg #[(.int k0 a0), (.int k1 a1), (.int .i64 0)])) w := by
  simp [execOp, Instr.build, Instr.fill, Try.zeroValue30, Try.runUnderlying30, Try.sizeOf3, h0, h1, Value.cells]

def cache_Store_Line.L1 (x0 : S_cache_Store) (x1 : Int) (x2 : Int) : Nat → (List (List Int)) → (List (List Int)) → Int → Option ((List (List Int)) × (List (List Int)))
  | 0, _, _, _ => none
  | m1 + 1, j5, j9, j14 =>
    (cache_Store_Get x0 (⟨x1, x2, j14⟩ : S_api_Spot)).bind fun r18 =>
    if r18.2.2 = true then
      (app j5 ([r18.1])).bind fun z31 =>
      (app j9 ([r18.2.1])).bind fun z39 =>
      (cache_Store_Line.L1 x0 x1 x2 m1) z31 z39 (IntKind.i64.wrap (j14 + 1))
    else
      some (j5, j9)

def cache_Store_Line (N : Nat) (x0 : S_cache_Store) (x1 : Int) (x2 : Int) : Option ((List (List Int)) × (List (List Int))) :=
  cache_Store_Line.L1 x0 x1 x2 N ([]) ([]) 0

set_option maxHeartbeats 8000000 in
theorem cache_Store_Line_any {N : Nat} {b0 : Nat} {x0 : S_cache_Store} {x1 : Int} {x2 : Int} {Fr : List HP} {w : World} {r : (List (List Int)) × (List (List Int))} {K : Value → World → Prop}  (hc : Ctx w (S_cache_Store.hp b0 x0 :: Fr)) (hp : cache_Store_Line N x0 x1 x2 = some r)
    (k : ∀ (a50 : Option Addr) (n51 : Nat) (q52 : Nat) (a53 : Option Addr) (n54 : Nat) (q55 : Nat) w', Ctx w' (Own (pRo (pInt .i8)) 31 (.slice a50 n51 q52) r.1 :: Own (pRo (pInt .i8)) 31 (.slice a53 n54 q55) r.2 :: S_cache_Store.hp b0 x0 :: Fr) → K (.tuple #[.slice a50 n51 q52, .slice a53 n54 q55]) w') : Calls Try.prog 12 #[.pointer (some ⟨b0, 0, none⟩), .int .i64 x1, .int .i64 x2] w (Ret K) := by
 unfold cache_Store_Line at hp
 refine Center (args := [.pointer (some ⟨b0, 0, none⟩), .int .i64 x1, .int .i64 x2]) (l := [(0, .pointer (some ⟨b0, 0, none⟩)), (1, .int .i64 x1), (2, .int .i64 x2)]) Try.func12 Try.ntmps12 rfl rfl rfl ?_
 refine Wseq ?_
 refine Wreg ?_
 refine rs (v := .slice none 0 0) (av (v := .slice none 0 0) rfl) rfl ?_
 refine rs (v := .slice none 0 0) (av (v := .slice none 0 0) rfl) rfl ?_
 refine rn ?_
 refine qn ?_
 refine Wseq ?_
 refine Wreg ?_
 refine rs (v := .slice none 0 0) (av (v := .slice none 0 0) rfl) rfl ?_
 refine rs (v := .slice none 0 0) (av (v := .slice none 0 0) rfl) rfl ?_
 refine rn ?_
 refine qn ?_
 refine Wseq ?_
 refine Wreg ?_
 refine rs (v := .int .i64 x1) (mv (v := .int .i64 x1) rfl) rfl ?_
 refine rs (v := .int .i64 x2) (mv (v := .int .i64 x2) rfl) rfl ?_
 refine rs (v := .agg #[.int .i64 x1, .int .i64 x2, .int .i64 0]) (bd_30_0_1 rfl rfl) rfl ?_
 refine rsE (Ctx.allocOp (cs := [.int .i64 0, .int .i64 0, .int .i64 0]) hc Try.zeroValue30 rfl) rfl ?_
 clear hc; rintro _ w3 ⟨b1, rfl, hc⟩
 refine ruE (A := fun w' => Ctx w' (B b1 [.int .i64 x1, .int .i64 x2, .int .i64 0] 30 :: S_cache_Store.hp b0 x0 :: Fr)) (Ctx.putAgg hc (k := 0) rfl rfl (vs := [.int .i64 x1, .int .i64 x2, .int .i64 0]) rfl rfl rfl Try.sizeOf30 rfl rfl rfl) rfl ?_
 clear hc; rintro w4 hc
 refine rn ?_
 refine qn ?_
 refine Wblk ?_
 replace hc := hc.nilOwn (pRo (pInt .i8)) 31
 replace hc := hc.nilOwn (pRo (pInt .i8)) 31
 replace hc := hc.pull 2 rfl rfl
 replace hc := hc.pull 1 rfl rfl
 replace hc := hc.pull 2 rfl rfl
 replace hc := hc.pull 3 rfl rfl
 refine Wloop [6, 7, 8, 9, 10, 11, 12, 13, 17, 18, 19, 20, 21, 22, 23, 24, 25, 26, 27, 28, 29, 30, 31, 32, 33, 34, 35, 36, 37, 38, 39, 40] [8, 9, 10] (fun m vs w' => ∃ j5 : (List (List Int)), ∃ j9 : (List (List Int)), ∃ j14 : Int, ∃ a6 : Option Addr, ∃ n7 : Nat, ∃ q8 : Nat, ∃ a10 : Option Addr, ∃ n11 : Nat, ∃ q12 : Nat, ∃ b13 : Nat, vs = [.slice a6 n7 q8, .slice a10 n11 q12, .pointer (some ⟨b13, 0, none⟩)] ∧ cache_Store_Line.L1 x0 x1 x2 m j5 j9 j14 = some r ∧ Ctx w' (S_cache_Store.hp b0 x0 :: Own (pRo (pInt .i8)) 31 (.slice a6 n7 q8) j5 :: Own (pRo (pInt .i8)) 31 (.slice a10 n11 q12) j9 :: B b13 [.int .i64 x1, .int .i64 x2, .int .i64 j14] 30 :: Fr)) N ?_ ?_
 · exact ⟨[], [], 0, none, 0, 0, none, 0, 0, b1, rfl, hp, hc⟩
 · clear hp hc; intro m vs u w15 hJ
   obtain ⟨j5, j9, j14, a6, n7, q8, a10, n11, q12, b13, rfl, hp, hc⟩ := hJ
   obtain ⟨u16, _⟩ := Ctx.rdLen hc (k := 1) rfl rfl reads_own; subst u16
   obtain ⟨u17, _⟩ := Ctx.rdLen hc (k := 2) rfl rfl reads_own; subst u17
   rcases m with _ | m1
   · cases (show none = some r from hp)
   rw [cache_Store_Line.L1] at hp
   refine Wseq ?_
   refine Wblk ?_
   refine Wseq ?_
   refine Wreg ?_
   refine rs (v := .pointer (some ⟨b0, 0, none⟩)) (mv (v := .pointer (some ⟨b0, 0, none⟩)) rfl) rfl ?_
   refine rs (v := .agg #[.int .i64 x1, .int .i64 x2, .int .i64 j14]) (ldg rfl Try.isAgg30 Try.sizeOf30 rfl (Ctx.cells hc (k := 3) rfl rfl 0 (vs := [.int .i64 x1, .int .i64 x2, .int .i64 j14]) rfl)) rfl ?_
   replace hp := bind_some hp; obtain ⟨r18, hr18, hp⟩ := hp
   refine rc (cl Try.call15 rfl rfl) rfl ?_
   refine cache_Store_Get_any (x1 := (⟨x1, x2, j14⟩ : S_api_Spot)) hc hr18 ?_
   clear hc; intro a19 n20 q21 a22 n23 q24 w25 hc
   obtain ⟨u26, _⟩ := Ctx.rdLen hc (k := 0) rfl rfl reads_own; subst u26
   obtain ⟨u27, _⟩ := Ctx.rdLen hc (k := 1) rfl rfl reads_own; subst u27
   refine rs (v := .tuple #[.slice a19 r18.1.length q21, .slice a22 r18.2.1.length q24, .bool r18.2.2]) (mv (v := .tuple #[.slice a19 r18.1.length q21, .slice a22 r18.2.1.length q24, .bool r18.2.2]) rfl) rfl ?_
   refine rs (v := .slice a19 r18.1.length q21) (ext (v := .slice a19 r18.1.length q21) rfl rfl) rfl ?_
   refine rs (v := .slice a22 r18.2.1.length q24) (ext (v := .slice a22 r18.2.1.length q24) rfl rfl) rfl ?_
   refine rs (v := .bool r18.2.2) (ext (v := .bool r18.2.2) rfl rfl) rfl ?_
   refine rs (v := .slice a19 r18.1.length q21) (av (v := .slice a19 r18.1.length q21) rfl) rfl ?_
   refine rs (v := .slice a22 r18.2.1.length q24) (av (v := .slice a22 r18.2.1.length q24) rfl) rfl ?_
   refine rs (v := .bool r18.2.2) (av (v := .bool r18.2.2) rfl) rfl ?_
   refine rn ?_
   refine qn ?_
   refine Wseq ?_
   refine Wseq ?_
   refine Wreg ?_
   refine rs (v := .bool r18.2.2) (mv (v := .bool r18.2.2) rfl) rfl ?_
   cases hb28 : r18.2.2
   · replace hp := gneg hp (by rw [hb28]; exact Bool.false_ne_true)
     refine rs (v := .bool true) (ntf rfl) rfl ?_
     refine rn ?_
     refine qn ?_
     refine Wct rfl ?_
     refine Wseq ?_
     refine Wreg ?_
     refine rs (v := .slice a6 j5.length q8) (mv (v := .slice a6 j5.length q8) rfl) rfl ?_
     refine rs (v := .slice a10 j9.length q12) (mv (v := .slice a10 j9.length q12) rfl) rfl ?_
     refine rs (v := .slice a6 j5.length q8) (av (v := .slice a6 j5.length q8) rfl) rfl ?_
     refine rs (v := .slice a10 j9.length q12) (av (v := .slice a10 j9.length q12) rfl) rfl ?_
     refine rn ?_
     refine qn ?_
     refine Wret ?_
     refine qr ?_
     refine br ?_
     refine qr ?_
     refine qr ?_
     refine br ?_
     replace hc := hc.rem 5 rfl rfl
     replace hc := hc.rem 1 rfl rfl
     replace hc := hc.rem 0 rfl rfl
     replace hc := hc.pull 2 rfl rfl
     replace hc := hc.pull 2 rfl rfl
     injection hp with hp; subst hp
     refine f2 (v := .slice a6 j5.length q8) (u := .slice a10 j9.length q12) Try.results12 Try.ntmps12 rfl rfl ?_
     exact ⟨_, rfl, k _ _ _ _ _ _ _ hc⟩
   · replace hp := gpos hp hb28
     refine rs (v := .bool false) (ntt rfl) rfl ?_
     refine rn ?_
     refine qn ?_
     refine Wcf rfl ?_
     refine Wskip ?_
     refine qn ?_
     refine Wreg ?_
     refine rs (v := .slice a6 j5.length q8) (mv (v := .slice a6 j5.length q8) rfl) rfl ?_
     refine rs (v := .slice a19 r18.1.length q21) (mv (v := .slice a19 r18.1.length q21) rfl) rfl ?_
     replace hc := hc.freeze (k := 0) rfl rfl rfl
     replace hc := hc.dup (k := 0) rfl rfl
     refine rsE (Ctx.builtOp (css := [[.slice a19 r18.1.length q21]]) (xs := ([r18.1] : List (List Int))) (E := (pRo (pInt .i8))) hc Try.underlying37 Try.sizeOf31 Try.zeroValue31 rfl rfl rfl rfl rfl rfl rfl rfl) rfl ?_
     clear hc; rintro _ w30 ⟨a29, rfl, hc⟩
     replace hp := bind_some hp; obtain ⟨z31, hz31, hp⟩ := hp
     obtain ⟨hg32, e33⟩ := app_some hz31
     refine rsE (Ctx.append hc (k := 4) rfl rfl (k2 := 0) rfl rfl reads_own Try.underlying37 (i := Try.t31) rfl rfl rfl rfl rfl rfl rfl rfl hg32) rfl ?_
     clear hc; rintro _ w36 ⟨a34, q35, rfl, hc⟩
     rw [← e33] at hc ⊢
     refine rs (v := .slice a10 j9.length q12) (mv (v := .slice a10 j9.length q12) rfl) rfl ?_
     refine rs (v := .slice a22 r18.2.1.length q24) (mv (v := .slice a22 r18.2.1.length q24) rfl) rfl ?_
     replace hc := hc.freeze (k := 2) rfl rfl rfl
     replace hc := hc.dup (k := 2) rfl rfl
     refine rsE (Ctx.builtOp (css := [[.slice a22 r18.2.1.length q24]]) (xs := ([r18.2.1] : List (List Int))) (E := (pRo (pInt .i8))) hc Try.underlying37 Try.sizeOf31 Try.zeroValue31 rfl rfl rfl rfl rfl rfl rfl rfl) rfl ?_
     clear hc; rintro _ w38 ⟨a37, rfl, hc⟩
     replace hp := bind_some hp; obtain ⟨z39, hz39, hp⟩ := hp
     obtain ⟨hg40, e41⟩ := app_some hz39
     refine rsE (Ctx.append hc (k := 6) rfl rfl (k2 := 0) rfl rfl reads_own Try.underlying37 (i := Try.t31) rfl rfl rfl rfl rfl rfl rfl rfl hg40) rfl ?_
     clear hc; rintro _ w44 ⟨a42, q43, rfl, hc⟩
     rw [← e41] at hc ⊢
     refine rs (v := .slice a34 z31.length q35) (av (v := .slice a34 z31.length q35) rfl) rfl ?_
     refine rs (v := .slice a42 z39.length q43) (av (v := .slice a42 z39.length q43) rfl) rfl ?_
     refine rn ?_
     refine bn ?_
     refine qn ?_
     refine Wseq ?_
     refine Wseq ?_
     refine Wreg ?_
     refine rs (v := .agg #[.int .i64 x1, .int .i64 x2, .int .i64 j14]) (ldg rfl Try.isAgg30 Try.sizeOf30 rfl (Ctx.cells hc (k := 7) rfl rfl 0 (vs := [.int .i64 x1, .int .i64 x2, .int .i64 j14]) rfl)) rfl ?_
     refine rn ?_
     refine qn ?_
     refine Wreg ?_
     refine rsE (Ctx.allocOp (cs := [.int .i64 0, .int .i64 0, .int .i64 0]) hc Try.zeroValue30 rfl) rfl ?_
     clear hc; rintro _ w47 ⟨b45, rfl, hc⟩
     refine ruE (A := fun w' => Ctx w' (B b45 [.int .i64 x1, .int .i64 x2, .int .i64 j14] 30 :: Own (pRo (pInt .i8)) 31 (.slice a37 1 1) ([r18.2.1]) :: Own (pRo (pInt .i8)) 31 (.slice a29 1 1) ([r18.1]) :: Hold (pRo (pInt .i8)) [.slice a19 r18.1.length q21] r18.1 :: Hold (pRo (pInt .i8)) [.slice a22 r18.2.1.length q24] r18.2.1 :: S_cache_Store.hp b0 x0 :: Own (pRo (pInt .i8)) 31 (.slice a34 z31.length q35) z31 :: Own (pRo (pInt .i8)) 31 (.slice a42 z39.length q43) z39 :: B b13 [.int .i64 x1, .int .i64 x2, .int .i64 j14] 30 :: Fr)) (Ctx.putAgg hc (k := 0) rfl rfl (vs := [.int .i64 x1, .int .i64 x2, .int .i64 j14]) rfl rfl rfl Try.sizeOf30 rfl rfl rfl) rfl ?_
     clear hc; rintro w48 hc
     refine rn ?_
     refine qn ?_
     refine Wreg ?_
     refine rs (v := .pointer (some ⟨b45, 2, none⟩)) (fax 2 rfl Try.underlying30 rfl Try.sizeOf3 rfl rfl rfl) rfl ?_
     refine rs (v := .int .i64 j14) (ld rfl Try.isAgg3 (Ctx.cell hc (k := 0) rfl rfl rfl)) rfl ?_
     refine rs (v := .int .i64 (IntKind.i64.wrap (j14 + 1))) (adw rfl rfl) rfl ?_
     refine rs (v := .pointer (some ⟨b45, 2, none⟩)) (fax 2 rfl Try.underlying30 rfl Try.sizeOf3 rfl rfl rfl) rfl ?_
     refine ruE (A := fun w' => Ctx w' (B b45 [.int .i64 x1, .int .i64 x2, .int .i64 (IntKind.i64.wrap (j14 + 1))] 30 :: Own (pRo (pInt .i8)) 31 (.slice a37 1 1) ([r18.2.1]) :: Own (pRo (pInt .i8)) 31 (.slice a29 1 1) ([r18.1]) :: Hold (pRo (pInt .i8)) [.slice a19 r18.1.length q21] r18.1 :: Hold (pRo (pInt .i8)) [.slice a22 r18.2.1.length q24] r18.2.1 :: S_cache_Store.hp b0 x0 :: Own (pRo (pInt .i8)) 31 (.slice a34 z31.length q35) z31 :: Own (pRo (pInt .i8)) 31 (.slice a42 z39.length q43) z39 :: B b13 [.int .i64 x1, .int .i64 x2, .int .i64 j14] 30 :: Fr)) (Ctx.putOp hc (k := 0) rfl rfl (v := .int .i64 (IntKind.i64.wrap (j14 + 1))) rfl rfl rfl Try.sizeOf3 rfl rfl rfl) rfl ?_
     clear hc; rintro w49 hc
     refine rn ?_
     refine qn ?_
     replace hc := hc.rem 8 rfl rfl
     replace hc := hc.rem 4 rfl rfl
     replace hc := hc.rem 3 rfl rfl
     replace hc := hc.rem 2 rfl rfl
     replace hc := hc.rem 1 rfl rfl
     replace hc := hc.pull 3 rfl rfl
     replace hc := hc.pull 3 rfl rfl
     replace hc := hc.pull 3 rfl rfl
     exact ⟨m1, Nat.lt_succ_self _, ⟨z31, z39, (IntKind.i64.wrap (j14 + 1)), a34, z31.length, q35, a42, z39.length, q43, b45, rfl, hp, hc⟩, (kl rfl k0)⟩

-- FN (*peloton/cache.Store).Drop
def cache_Store_Drop (N : Nat) (x0 : S_cache_Store) (x1 : (List Int)) : Option (Int × S_cache_Store) :=
  (maps_DeleteFunc_map_api_Spot_cache_rows_api_Spot_cache_rows N x0.m (fun (y6 : S_api_Spot) (y7 : S_cache_rows) =>
    (slices_Contains_s_int_int N x1 y6.Request).bind fun r22 =>
    some r22)).bind fun r24 =>
  (some (IntKind.i64.wrap (((x0.m.length : Nat) : Int) - ((r24.length : Nat) : Int)))).bind fun e26 =>
  some (e26, (⟨x0.room, r24⟩ : S_cache_Store))

set_option maxHeartbeats 8000000 in
theorem cache_Store_Drop_any {N : Nat} {b0 : Nat} {x0 : S_cache_Store} {x1 : (List Int)} {ax1 : Option Addr} {nx1 : Nat} {qx1 : Nat} {P1 : HP} {Fr : List HP} {w : World} {r : Int × S_cache_Store} {K : Value → World → Prop} (hrd1 : Reads P1 (pInt .i64) (.slice ax1 nx1 qx1) x1) (hc : Ctx w (S_cache_Store.hp b0 x0 :: P1 :: Fr)) (hp : cache_Store_Drop N x0 x1 = some r)
    (k : ∀ w', Ctx w' (S_cache_Store.hp b0 r.2 :: P1 :: Fr) → K (.int .i64 r.1) w') : Calls Try.prog 10 #[.pointer (some ⟨b0, 0, none⟩), .slice ax1 nx1 qx1] w (Ret K) := by
 unfold cache_Store_Drop at hp
 refine Center (args := [.pointer (some ⟨b0, 0, none⟩), .slice ax1 nx1 qx1]) (l := [(0, .pointer (some ⟨b0, 0, none⟩)), (1, .slice ax1 nx1 qx1)]) Try.func10 Try.ntmps10 rfl rfl rfl ?_
 obtain ⟨hn1, _⟩ := Ctx.rdLen hc (k := 1) rfl rfl hrd1; subst hn1
 refine Wseq ?_
 refine Wreg ?_
 refine rsE (Ctx.boxOp (cs := [.slice ax1 x1.length qx1]) (v := .slice ax1 x1.length qx1) hc rfl rfl) rfl ?_
 clear hc; rintro _ w3 ⟨b1, rfl, hc⟩
 refine rs (v := .int .i64 0) (av (v := .int .i64 0) rfl) rfl ?_
 refine rn ?_
 refine qn ?_
 refine Wseq ?_
 refine Wreg ?_
 refine rs (v := .pointer (some ⟨b0, 0, none⟩)) (mv (v := .pointer (some ⟨b0, 0, none⟩)) rfl) rfl ?_
 refine rs (v := .pointer (some ⟨b0, 0, none⟩)) (nl rfl) rfl ?_
 refine rs (v := .pointer (some ⟨b0, 1, none⟩)) (fax 1 rfl Try.underlying63 rfl Try.sizeOf61 rfl rfl rfl) rfl ?_
 replace hc := hc.pull 1 rfl rfl
 replace hc := Ctx.exF hc; obtain ⟨v4, hc⟩ := hc
 replace hc := Ctx.sepF hc
 refine rs (v := .map (some v4)) (ld rfl Try.isAgg61 (Ctx.cell hc (k := 0) rfl rfl rfl)) rfl ?_
 refine rs (v := .int .i64 ((x0.m.length : Nat) : Int)) (Ctx.mpLen hc (i := 1) rfl rfl Try.underlying61 rfl) rfl ?_
 refine rs (v := .int .i64 ((x0.m.length : Nat) : Int)) (av (v := .int .i64 ((x0.m.length : Nat) : Int)) rfl) rfl ?_
 refine rn ?_
 refine qn ?_
 refine Wseq ?_
 refine Wreg ?_
 refine rs (v := .pointer (some ⟨b0, 0, none⟩)) (mv (v := .pointer (some ⟨b0, 0, none⟩)) rfl) rfl ?_
 refine rs (v := .pointer (some ⟨b0, 0, none⟩)) (nl rfl) rfl ?_
 refine rs (v := .pointer (some ⟨b0, 1, none⟩)) (fax 1 rfl Try.underlying63 rfl Try.sizeOf61 rfl rfl rfl) rfl ?_
 refine rs (v := .map (some v4)) (ld rfl Try.isAgg61 (Ctx.cell hc (k := 0) rfl rfl rfl)) rfl ?_
 refine rs (v := .func (.func 25) #[] #[.pointer (some ⟨b1, 0, none⟩)]) (mkf rfl rfl) rfl ?_
 replace hc := hc.pull 1 rfl rfl
 have hf5 : ∀ (y0 : S_api_Spot) (y1 : S_cache_rows) (a24 : Option Addr) (n25 : Nat) (q26 : Nat) (a27 : Option Addr) (n28 : Nat) (q29 : Nat) (Qs : List HP) (w : World) (r : Bool) (K : Value → World → Prop), Ctx w (Hold (pRo (pInt .i8)) [.slice a24 n25 q26] y1.k :: Hold (pRo (pInt .i8)) [.slice a27 n28 q29] y1.v :: (Qs ++ (B b0 [.int .i64 x0.room, .map (some v4)] 63 :: B b1 [.slice ax1 x1.length qx1] 47 :: P1 :: Fr))) → (fun (y6 : S_api_Spot) (y7 : S_cache_rows) =>
          (slices_Contains_s_int_int N x1 y6.Request).bind fun r22 =>
          some r22) y0 y1 = some r → (∀ w', Ctx w' (Qs ++ (B b0 [.int .i64 x0.room, .map (some v4)] 63 :: B b1 [.slice ax1 x1.length qx1] 47 :: P1 :: Fr)) → K (.bool r) w') → Calls Try.prog 25 (([.agg #[.int .i64 y0.Request, .int .i64 y0.Layer, .int .i64 y0.Place], .agg #[.slice a24 n25 q26, .slice a27 n28 q29]] : List Value) ++ ([.pointer (some ⟨b1, 0, none⟩)] : List Value)).toArray w (Ret K) := by
  intro y6 y7 a8 n9 q10 a11 n12 q13 Qs w r K hc hp k
  replace hc : Ctx w (B b0 [.int .i64 x0.room, .map (some v4)] 63 :: B b1 [.slice ax1 x1.length qx1] 47 :: P1 :: Hold (pRo (pInt .i8)) [.slice a8 n9 q10] y7.k :: Hold (pRo (pInt .i8)) [.slice a11 n12 q13] y7.v :: (Qs ++ Fr)) := Ctx.front (As := [B b0 [.int .i64 x0.room, .map (some v4)] 63, B b1 [.slice ax1 x1.length qx1] 47, P1]) (Qs := Hold (pRo (pInt .i8)) [.slice a8 n9 q10] y7.k :: Hold (pRo (pInt .i8)) [.slice a11 n12 q13] y7.v :: Qs) hc
  refine Center (args := [.agg #[.int .i64 y6.Request, .int .i64 y6.Layer, .int .i64 y6.Place], .agg #[.slice a8 n9 q10, .slice a11 n12 q13], .pointer (some ⟨b1, 0, none⟩)]) (l := [(0, .agg #[.int .i64 y6.Request, .int .i64 y6.Layer, .int .i64 y6.Place]), (1, .agg #[.slice a8 n9 q10, .slice a11 n12 q13]), (2, .pointer (some ⟨b1, 0, none⟩))]) Try.func25 Try.ntmps25 rfl rfl rfl ?_
  obtain ⟨u14, _⟩ := Ctx.rdLen hc (k := 3) rfl rfl reads_ro; subst u14
  obtain ⟨u15, _⟩ := Ctx.rdLen hc (k := 4) rfl rfl reads_ro; subst u15
  refine Wseq ?_
  refine Wreg ?_
  refine rsE (Ctx.boxOp (cs := [.int .i64 y6.Request, .int .i64 y6.Layer, .int .i64 y6.Place]) (v := .agg #[.int .i64 y6.Request, .int .i64 y6.Layer, .int .i64 y6.Place]) hc rfl rfl) rfl ?_
  clear hc; rintro _ w18 ⟨b16, rfl, hc⟩
  refine rsE (Ctx.boxOp (cs := [.slice a8 y7.k.length q10, .slice a11 y7.v.length q13]) (v := .agg #[.slice a8 y7.k.length q10, .slice a11 y7.v.length q13]) hc rfl rfl) rfl ?_
  clear hc; rintro _ w21 ⟨b19, rfl, hc⟩
  refine rs (v := .bool false) (av (v := .bool false) rfl) rfl ?_
  refine rn ?_
  refine qn ?_
  refine Wseq ?_
  refine Wreg ?_
  refine rs (v := .slice ax1 x1.length qx1) (ld rfl Try.isAgg47 (Ctx.cell hc (k := 3) rfl rfl rfl)) rfl ?_
  refine rs (v := .pointer (some ⟨b16, 0, none⟩)) (fax 0 rfl Try.underlying30 rfl Try.sizeOf3 rfl rfl rfl) rfl ?_
  refine rs (v := .int .i64 y6.Request) (ld rfl Try.isAgg3 (Ctx.cell hc (k := 1) rfl rfl rfl)) rfl ?_
  replace hp := bind_some hp; obtain ⟨r22, hr22, hp⟩ := hp
  replace hc := hc.pull 4 rfl rfl
  refine rc (cl Try.call26 rfl rfl) rfl ?_
  refine slices_Contains_s_int_int_any hrd1 hc hr22 ?_
  clear hc; intro w23 hc
  refine rs (v := .bool r22) (av (v := .bool r22) rfl) rfl ?_
  refine rn ?_
  refine qn ?_
  refine Wret ?_
  replace hc := hc.rem 6 rfl rfl
  replace hc := hc.rem 5 rfl rfl
  replace hc := hc.rem 2 rfl rfl
  replace hc := hc.rem 1 rfl rfl
  replace hc := hc.pull 2 rfl rfl
  replace hc := hc.pull 2 rfl rfl
  injection hp with hp; subst hp
  replace hc : Ctx w23 (Qs ++ (B b0 [.int .i64 x0.room, .map (some v4)] 63 :: B b1 [.slice ax1 x1.length qx1] 47 :: P1 :: Fr)) := Ctx.front (Qs := [B b0 [.int .i64 x0.room, .map (some v4)] 63, B b1 [.slice ax1 x1.length qx1] 47, P1]) (As := Qs) hc
  refine f1 (v := .bool r22) Try.results25 Try.ntmps25 rfl ?_
  exact ⟨_, rfl, k _ hc⟩
 replace hp := bind_some hp; obtain ⟨r24, hr24, hp⟩ := hp
 refine rc (cl Try.call24 rfl rfl) rfl ?_
 refine maps_DeleteFunc_map_api_Spot_cache_rows_api_Spot_cache_rows_any Try.call25 hf5 hc hr24 ?_
 clear hc; intro w25 hc
 refine rn ?_
 refine qn ?_
 refine Wseq ?_
 refine Wreg ?_
 refine rs (v := .int .i64 ((x0.m.length : Nat) : Int)) (mv (v := .int .i64 ((x0.m.length : Nat) : Int)) rfl) rfl ?_
 refine rs (v := .pointer (some ⟨b0, 0, none⟩)) (mv (v := .pointer (some ⟨b0, 0, none⟩)) rfl) rfl ?_
 refine rs (v := .pointer (some ⟨b0, 0, none⟩)) (nl rfl) rfl ?_
 refine rs (v := .pointer (some ⟨b0, 1, none⟩)) (fax 1 rfl Try.underlying63 rfl Try.sizeOf61 rfl rfl rfl) rfl ?_
 refine rs (v := .map (some v4)) (ld rfl Try.isAgg61 (Ctx.cell hc (k := 1) rfl rfl rfl)) rfl ?_
 refine rs (v := .int .i64 ((r24.length : Nat) : Int)) (Ctx.mpLen hc (i := 0) rfl rfl Try.underlying61 rfl) rfl ?_
 refine rs (v := .int .i64 (IntKind.i64.wrap (((x0.m.length : Nat) : Int) - ((r24.length : Nat) : Int)))) (sbw rfl rfl) rfl ?_
 replace hp := bind_some hp; obtain ⟨e26, he26, hp⟩ := hp
 injection he26 with he26
 refine rs (v := .int .i64 e26) (av (v := .int .i64 e26) (by rw [← he26]; rfl)) rfl ?_
 refine rn ?_
 refine qn ?_
 refine Wret ?_
 replace hc := hc.pull 1 rfl rfl
 replace hc : Ctx w25 (S_cache_Store.hp b0 (⟨x0.room, r24⟩ : S_cache_Store) :: B b1 [.slice ax1 x1.length qx1] 47 :: P1 :: Fr) := Ctx.exB _ _ (Ctx.sepB hc)
 replace hc := hc.rem 1 rfl rfl
 injection hp with hp; subst hp
 refine f1 (v := .int .i64 e26) Try.results10 Try.ntmps10 rfl ?_
 exact ⟨_, rfl, k _ hc⟩

-- FN (*peloton/cache.Store).Clear
def cache_Store_Clear (x0 : S_cache_Store) : Option (S_cache_Store) :=
  some (⟨x0.room, []⟩ : S_cache_Store)

set_option maxHeartbeats 8000000 in
theorem cache_Store_Clear_any {b0 : Nat} {x0 : S_cache_Store} {Fr : List HP} {w : World} {r : S_cache_Store} {K : Value → World → Prop}  (hc : Ctx w (S_cache_Store.hp b0 x0 :: Fr)) (hp : cache_Store_Clear x0 = some r)
    (k : ∀ w', Ctx w' (S_cache_Store.hp b0 r :: Fr) → K (.tuple #[]) w') : Calls Try.prog 14 #[.pointer (some ⟨b0, 0, none⟩)] w (Ret K) := by
 unfold cache_Store_Clear at hp
 refine Center (args := [.pointer (some ⟨b0, 0, none⟩)]) (l := [(0, .pointer (some ⟨b0, 0, none⟩))]) Try.func14 Try.ntmps14 rfl rfl rfl ?_
 refine Wreg ?_
 refine rs (v := .pointer (some ⟨b0, 0, none⟩)) (mv (v := .pointer (some ⟨b0, 0, none⟩)) rfl) rfl ?_
 refine rs (v := .pointer (some ⟨b0, 0, none⟩)) (nl rfl) rfl ?_
 refine rs (v := .pointer (some ⟨b0, 1, none⟩)) (fax 1 rfl Try.underlying63 rfl Try.sizeOf61 rfl rfl rfl) rfl ?_
 replace hc := Ctx.exF hc; obtain ⟨v1, hc⟩ := hc
 replace hc := Ctx.sepF hc
 refine rs (v := .map (some v1)) (ld rfl Try.isAgg61 (Ctx.cell hc (k := 0) rfl rfl rfl)) rfl ?_
 refine rvE (Ctx.mpClear hc (i := 1) rfl rfl Try.underlying61 rfl) rfl ?_
 clear hc; intro w2 hc
 refine rn ?_
 refine f0n Try.results14 ?_
 replace hc := hc.pull 1 rfl rfl
 replace hc := hc.pull 1 rfl rfl
 replace hc : Ctx w2 (S_cache_Store.hp b0 (⟨x0.room, []⟩ : S_cache_Store) :: Fr) := Ctx.exB _ _ (Ctx.sepB hc)
 injection hp with hp; subst hp
 exact ⟨_, rfl, k _ hc⟩

-- FN (*peloton/cache.Store).Len
def cache_Store_Len (x0 : S_cache_Store) : Option (Int) :=
  some ((x0.m.length : Nat) : Int)

set_option maxHeartbeats 8000000 in
theorem cache_Store_Len_any {b0 : Nat} {x0 : S_cache_Store} {Fr : List HP} {w : World} {r : Int} {K : Value → World → Prop}  (hc : Ctx w (S_cache_Store.hp b0 x0 :: Fr)) (hp : cache_Store_Len x0 = some r)
    (k : ∀ w', Ctx w' (S_cache_Store.hp b0 x0 :: Fr) → K (.int .i64 r) w') : Calls Try.prog 13 #[.pointer (some ⟨b0, 0, none⟩)] w (Ret K) := by
 unfold cache_Store_Len at hp
 refine Center (args := [.pointer (some ⟨b0, 0, none⟩)]) (l := [(0, .pointer (some ⟨b0, 0, none⟩))]) Try.func13 Try.ntmps13 rfl rfl rfl ?_
 refine Wseq ?_
 refine Wreg ?_
 refine rs (v := .int .i64 0) (av (v := .int .i64 0) rfl) rfl ?_
 refine rn ?_
 refine qn ?_
 refine Wseq ?_
 refine Wreg ?_
 refine rs (v := .pointer (some ⟨b0, 0, none⟩)) (mv (v := .pointer (some ⟨b0, 0, none⟩)) rfl) rfl ?_
 refine rs (v := .pointer (some ⟨b0, 0, none⟩)) (nl rfl) rfl ?_
 refine rs (v := .pointer (some ⟨b0, 1, none⟩)) (fax 1 rfl Try.underlying63 rfl Try.sizeOf61 rfl rfl rfl) rfl ?_
 replace hc := Ctx.exF hc; obtain ⟨v1, hc⟩ := hc
 replace hc := Ctx.sepF hc
 refine rs (v := .map (some v1)) (ld rfl Try.isAgg61 (Ctx.cell hc (k := 0) rfl rfl rfl)) rfl ?_
 refine rs (v := .int .i64 ((x0.m.length : Nat) : Int)) (Ctx.mpLen hc (i := 1) rfl rfl Try.underlying61 rfl) rfl ?_
 refine rs (v := .int .i64 ((x0.m.length : Nat) : Int)) (av (v := .int .i64 ((x0.m.length : Nat) : Int)) rfl) rfl ?_
 refine rn ?_
 refine qn ?_
 refine Wret ?_
 replace hc := hc.pull 1 rfl rfl
 replace hc := hc.pull 1 rfl rfl
 replace hc : Ctx w (S_cache_Store.hp b0 x0 :: Fr) := Ctx.exB _ _ (Ctx.sepB hc)
 injection hp with hp; subst hp
 refine f1 (v := .int .i64 ((x0.m.length : Nat) : Int)) Try.results13 Try.ntmps13 rfl ?_
 exact ⟨_, rfl, k _ hc⟩

-- FN (*peloton/cache.Store).Room
def cache_Store_Room (x0 : S_cache_Store) : Option (Int) :=
  some x0.room

set_option maxHeartbeats 8000000 in
theorem cache_Store_Room_any {b0 : Nat} {x0 : S_cache_Store} {Fr : List HP} {w : World} {r : Int} {K : Value → World → Prop}  (hc : Ctx w (S_cache_Store.hp b0 x0 :: Fr)) (hp : cache_Store_Room x0 = some r)
    (k : ∀ w', Ctx w' (S_cache_Store.hp b0 x0 :: Fr) → K (.int .i64 r) w') : Calls Try.prog 20 #[.pointer (some ⟨b0, 0, none⟩)] w (Ret K) := by
 unfold cache_Store_Room at hp
 refine Center (args := [.pointer (some ⟨b0, 0, none⟩)]) (l := [(0, .pointer (some ⟨b0, 0, none⟩))]) Try.func20 Try.ntmps20 rfl rfl rfl ?_
 refine Wseq ?_
 refine Wreg ?_
 refine rs (v := .int .i64 0) (av (v := .int .i64 0) rfl) rfl ?_
 refine rn ?_
 refine qn ?_
 refine Wseq ?_
 refine Wreg ?_
 refine rs (v := .pointer (some ⟨b0, 0, none⟩)) (mv (v := .pointer (some ⟨b0, 0, none⟩)) rfl) rfl ?_
 refine rs (v := .pointer (some ⟨b0, 0, none⟩)) (nl rfl) rfl ?_
 refine rs (v := .pointer (some ⟨b0, 0, none⟩)) (fax 0 rfl Try.underlying63 rfl Try.sizeOf3 rfl rfl rfl) rfl ?_
 replace hc := Ctx.exF hc; obtain ⟨v1, hc⟩ := hc
 replace hc := Ctx.sepF hc
 refine rs (v := .int .i64 x0.room) (ld rfl Try.isAgg3 (Ctx.cell hc (k := 0) rfl rfl rfl)) rfl ?_
 refine rs (v := .int .i64 x0.room) (av (v := .int .i64 x0.room) rfl) rfl ?_
 refine rn ?_
 refine qn ?_
 refine Wret ?_
 replace hc := hc.pull 1 rfl rfl
 replace hc := hc.pull 1 rfl rfl
 replace hc : Ctx w (S_cache_Store.hp b0 x0 :: Fr) := Ctx.exB _ _ (Ctx.sepB hc)
 injection hp with hp; subst hp
 refine f1 (v := .int .i64 x0.room) Try.results20 Try.ntmps20 rfl ?_
 exact ⟨_, rfl, k _ hc⟩

-- FN peloton/pelotonref04.Bytes
def ref04_Bytes.L1 (x0 : (List Int)) (x1 : (List Int)) : Nat → Int → Option (Bool)
  | 0, _ => none
  | m1 + 1, j2 =>
    if j2 < ((x0.length : Nat) : Int) then
      (idx x0 j2).bind fun y6 =>
      (idx x1 j2).bind fun y15 =>
      if y6 ≠ y15 then
        some false
      else
        (ref04_Bytes.L1 x0 x1 m1) (IntKind.i64.wrap (j2 + 1))
    else
      some true

def ref04_Bytes (N : Nat) (x0 : (List Int)) (x1 : (List Int)) : Option (Bool) :=
  if ((x0.length : Nat) : Int) ≠ ((x1.length : Nat) : Int) then
    some false
  else
    ref04_Bytes.L1 x0 x1 N 0

set_option maxHeartbeats 8000000 in
theorem ref04_Bytes_any {N : Nat} {x0 : (List Int)} {ax0 : Option Addr} {nx0 : Nat} {qx0 : Nat} {P0 : HP} {x1 : (List Int)} {ax1 : Option Addr} {nx1 : Nat} {qx1 : Nat} {P1 : HP} {Fr : List HP} {w : World} {r : Bool} {K : Value → World → Prop} (hrd0 : Reads P0 (pInt .i8) (.slice ax0 nx0 qx0) x0) (hrd1 : Reads P1 (pInt .i8) (.slice ax1 nx1 qx1) x1) (hc : Ctx w (P0 :: P1 :: Fr)) (hp : ref04_Bytes N x0 x1 = some r)
    (k : ∀ w', Ctx w' (P0 :: P1 :: Fr) → K (.bool r) w') : Calls Try.prog 16 #[.slice ax0 nx0 qx0, .slice ax1 nx1 qx1] w (Ret K) := by
 unfold ref04_Bytes at hp
 refine Center (args := [.slice ax0 nx0 qx0, .slice ax1 nx1 qx1]) (l := [(0, .slice ax0 nx0 qx0), (1, .slice ax1 nx1 qx1)]) Try.func16 Try.ntmps16 rfl rfl rfl ?_
 obtain ⟨hn0, _⟩ := Ctx.rdLen hc (k := 0) rfl rfl hrd0; subst hn0
 obtain ⟨hn1, _⟩ := Ctx.rdLen hc (k := 1) rfl rfl hrd1; subst hn1
 refine Wseq ?_
 refine Wreg ?_
 refine rs (v := .bool false) (av (v := .bool false) rfl) rfl ?_
 refine rn ?_
 refine qn ?_
 refine Wseq ?_
 refine Wseq ?_
 refine Wreg ?_
 refine rs (v := .slice ax0 x0.length qx0) (mv (v := .slice ax0 x0.length qx0) rfl) rfl ?_
 refine rs (v := .int .i64 ((x0.length : Nat) : Int)) (ln rfl Try.underlying31) rfl ?_
 refine rs (v := .slice ax1 x1.length qx1) (mv (v := .slice ax1 x1.length qx1) rfl) rfl ?_
 refine rs (v := .int .i64 ((x1.length : Nat) : Int)) (ln rfl Try.underlying31) rfl ?_
 refine rs (v := .bool (decide (((x0.length : Nat) : Int) ≠ ((x1.length : Nat) : Int)))) (ned rfl rfl) rfl ?_
 refine rn ?_
 refine qn ?_
 cases hb1 : (decide (((x0.length : Nat) : Int) ≠ ((x1.length : Nat) : Int)))
 · replace hp := gneg hp (of_decide_eq_false hb1)
   refine Wcf rfl ?_
   refine Wskip ?_
   refine qn ?_
   refine Wseq ?_
   refine Wseq ?_
   refine Wreg ?_
   refine rs (v := .int .i64 0) (av (v := .int .i64 0) rfl) rfl ?_
   refine rn ?_
   refine qn ?_
   refine Wblk ?_
   refine Wloop [4, 5, 11, 12, 13, 14, 15, 16, 17, 18, 19, 20, 21, 22, 23, 24, 25] [5] (fun m vs w' => ∃ j2 : Int, vs = [.int .i64 j2] ∧ ref04_Bytes.L1 x0 x1 m j2 = some r ∧ Ctx w' (P0 :: P1 :: Fr)) N ?_ ?_
   · exact ⟨0, rfl, hp, hc⟩
   · clear hp hc; intro m vs u w3 hJ
     obtain ⟨j2, rfl, hp, hc⟩ := hJ
     rcases m with _ | m1
     · cases (show none = some r from hp)
     rw [ref04_Bytes.L1] at hp
     refine Wseq ?_
     refine Wseq ?_
     refine Wreg ?_
     refine rs (v := .int .i64 j2) (mv (v := .int .i64 j2) rfl) rfl ?_
     refine rs (v := .slice ax0 x0.length qx0) (mv (v := .slice ax0 x0.length qx0) rfl) rfl ?_
     refine rs (v := .int .i64 ((x0.length : Nat) : Int)) (ln rfl Try.underlying31) rfl ?_
     refine rs (v := .bool (decide (j2 < ((x0.length : Nat) : Int)))) (lt' rfl rfl) rfl ?_
     refine rn ?_
     refine qn ?_
     cases hb4 : (decide (j2 < ((x0.length : Nat) : Int)))
     · replace hp := gneg hp (of_decide_eq_false hb4)
       refine Wcf rfl ?_
       refine Wexit ?_
       refine qx ?_
       refine qx ?_
       refine be ?_
       refine qn ?_
       refine Wseq ?_
       refine Wreg ?_
       refine rs (v := .bool true) (av (v := .bool true) rfl) rfl ?_
       refine rn ?_
       refine qn ?_
       refine Wret ?_
       injection hp with hp; subst hp
       refine f1 (v := .bool true) Try.results16 Try.ntmps16 rfl ?_
       exact ⟨_, rfl, k _ hc⟩
     · replace hp := gpos hp (of_decide_eq_true hb4)
       refine Wct rfl ?_
       refine Wskip ?_
       refine qn ?_
       refine Wseq ?_
       refine Wblk ?_
       refine Wseq ?_
       replace hc := hc.drew
       refine Wdrw (fun _ w' => w' = World.drew w3) [0, 0, 3, 7, 0, 0, 48, 112, 255] 0 0 rfl (by kernel_rfl) (fun _ _ => rfl) ?_
       generalize hw : World.drew w3 = w5 at *
       clear hw
       refine ds (v := .slice ax0 x0.length qx0) rfl (fun w' hF => by subst hF; exact mv (v := .slice ax0 x0.length qx0) rfl) rfl ?_
       refine ds (v := .int .i64 j2) rfl (fun w' hF => by subst hF; exact mv (v := .int .i64 j2) rfl) rfl ?_
       replace hp := bind_some hp; obtain ⟨y6, hy6, hp⟩ := hp
       obtain ⟨b9, o10, u11, hi7, hi8⟩ := Ctx.rdAt hc (k := 0) rfl rfl hrd0 hy6
       subst u11
       refine ds (v := .pointer (some ⟨b9, o10 + (j2).toNat * 1, none⟩)) rfl (fun w' hF => by subst hF; exact ixx rfl rfl Try.underlying31 Try.sizeOf42 hi7 hi8 rfl) rfl ?_
       replace hc := Ctx.rdCell hc (k := 0) rfl rfl hrd0 hy6; obtain ⟨cs12, hc, hcell13⟩ := hc
       replace hc := Ctx.holdC hc; obtain ⟨u14, hc⟩ := hc; subst u14
       refine ds (v := .int .i8 y6) rfl (fun w' hF => by subst hF; exact ld rfl Try.isAgg42 (hcell13 0 _ rfl)) rfl ?_
       refine ds (v := .slice ax1 x1.length qx1) rfl (fun w' hF => by subst hF; exact mv (v := .slice ax1 x1.length qx1) rfl) rfl ?_
       refine ds (v := .int .i64 j2) rfl (fun w' hF => by subst hF; exact mv (v := .int .i64 j2) rfl) rfl ?_
       replace hp := bind_some hp; obtain ⟨y15, hy15, hp⟩ := hp
       obtain ⟨b18, o19, u20, hi16, hi17⟩ := Ctx.rdAt hc (k := 1) rfl rfl hrd1 hy15
       subst u20
       refine ds (v := .pointer (some ⟨b18, o19 + (j2).toNat * 1, none⟩)) rfl (fun w' hF => by subst hF; exact ixx rfl rfl Try.underlying31 Try.sizeOf42 hi16 hi17 rfl) rfl ?_
       replace hc := Ctx.rdCell hc (k := 1) rfl rfl hrd1 hy15; obtain ⟨cs21, hc, hcell22⟩ := hc
       replace hc := Ctx.holdC hc; obtain ⟨u23, hc⟩ := hc; subst u23
       refine ds (v := .int .i8 y15) rfl (fun w' hF => by subst hF; exact ld rfl Try.isAgg42 (hcell22 0 _ rfl)) rfl ?_
       refine ds (v := .bool (decide (y6 ≠ y15))) rfl (fun w' hF => by subst hF; exact ned rfl rfl) rfl ?_
       refine dn ?_
       refine qn ?_
       cases hb24 : (decide (y6 ≠ y15))
       · replace hp := gneg hp (of_decide_eq_false hb24)
         refine Wcf rfl ?_
         refine Wskip ?_
         refine bn ?_
         refine qn ?_
         refine Wreg ?_
         refine rs (v := .int .i64 j2) (mv (v := .int .i64 j2) rfl) rfl ?_
         refine rs (v := .int .i64 (IntKind.i64.wrap (j2 + 1))) (adw rfl rfl) rfl ?_
         refine rs (v := .int .i64 (IntKind.i64.wrap (j2 + 1))) (av (v := .int .i64 (IntKind.i64.wrap (j2 + 1))) rfl) rfl ?_
         refine rn ?_
         refine qn ?_
         exact ⟨m1, Nat.lt_succ_self _, ⟨(IntKind.i64.wrap (j2 + 1)), rfl, hp, hc⟩, (kl rfl k0)⟩
       · replace hp := gpos hp (of_decide_eq_true hb24)
         refine Wct rfl ?_
         refine Wseq ?_
         refine Wreg ?_
         refine rs (v := .bool false) (av (v := .bool false) rfl) rfl ?_
         refine rn ?_
         refine qn ?_
         refine Wret ?_
         refine br ?_
         refine qr ?_
         refine qr ?_
         refine br ?_
         refine qr ?_
         injection hp with hp; subst hp
         refine f1 (v := .bool false) Try.results16 Try.ntmps16 rfl ?_
         exact ⟨_, rfl, k _ hc⟩
 · replace hp := gpos hp (of_decide_eq_true hb1)
   refine Wct rfl ?_
   refine Wseq ?_
   refine Wreg ?_
   refine rs (v := .bool false) (av (v := .bool false) rfl) rfl ?_
   refine rn ?_
   refine qn ?_
   refine Wret ?_
   refine qr ?_
   injection hp with hp; subst hp
   refine f1 (v := .bool false) Try.results16 Try.ntmps16 rfl ?_
   exact ⟨_, rfl, k _ hc⟩

-- FN peloton/pelotonlaw12.awake
def law12_awake (N : Nat) : Option (Bool) :=
  (cache_New 2).bind fun r1 =>
  optc r1.1 (
    some false) fun y5 =>
  if r1.2 ≠ 0 then
    some false
  else
    (law12_spot 7 0 1).bind fun r12 =>
    (cache_Store_Put N y5 r12 ([1]) ([1])).bind fun r14 =>
    (law12_spot 7 0 0).bind fun r16 =>
    (cache_Store_Put N r14.2 r16 ([1]) ([1])).bind fun r18 =>
    (law12_spot 7 0 1).bind fun r20 =>
    (cache_Store_Put N r18.2 r20 ([1]) ([1])).bind fun r22 =>
    (law12_spot 7 1 0).bind fun r24 =>
    (cache_Store_Put N r22.2 r24 ([1]) ([1])).bind fun r26 =>
    (law12_spot 7 0 0).bind fun r28 =>
    (cache_Store_Put N r26.2 r28 ([1]) ([1])).bind fun r30 =>
    (law12_spot 7 0 0).bind fun r32 =>
    (cache_Store_Put N r30.2 r32 ([1]) ([2])).bind fun r36 =>
    if r14.1 = 120 then
      if r18.1 = 0 then
        if r22.1 = 0 then
          if r26.1 = 80 then
            if r30.1 = 0 then
              if r36.1 = 2 then
                (cache_Store_Drop N r36.2 ([7])).bind fun r46 =>
                some (decide (r46.1 = 2))
              else
                some false
            else
              some false
          else
            some false
        else
          some false
      else
        some false
    else
      some false

set_option maxHeartbeats 8000000 in
theorem law12_awake_any {N : Nat} {Fr : List HP} {w : World} {r : Bool} {K : Value → World → Prop}  (hc : Ctx w (Fr)) (hp : law12_awake N = some r)
    (k : ∀ w', Ctx w' (Fr) → K (.bool r) w') : Calls Try.prog 7 #[] w (Ret K) := by
 unfold law12_awake at hp
 refine Center (args := []) (l := []) Try.func7 Try.ntmps7 rfl rfl rfl ?_
 refine Wseq ?_
 refine Wreg ?_
 refine rs (v := .bool false) (av (v := .bool false) rfl) rfl ?_
 refine rn ?_
 refine qn ?_
 refine Wseq ?_
 refine Wreg ?_
 replace hp := bind_some hp; obtain ⟨r1, hr1, hp⟩ := hp
 refine rc (cl Try.call8 rfl rfl) rfl ?_
 refine cache_New_any hc hr1 ?_
 clear hc; intro v2 w3 hc
 refine rs (v := .tuple #[v2, .int .i64 r1.2]) (mv (v := .tuple #[v2, .int .i64 r1.2]) rfl) rfl ?_
 refine rs (v := v2) (ext (v := v2) rfl rfl) rfl ?_
 refine rs (v := .int .i64 r1.2) (ext (v := .int .i64 r1.2) rfl rfl) rfl ?_
 refine rs (v := v2) (av (v := v2) rfl) rfl ?_
 refine rs (v := .int .i64 r1.2) (av (v := .int .i64 r1.2) rfl) rfl ?_
 refine rn ?_
 refine qn ?_
 refine Wseq ?_
 refine Wseq ?_
 refine Wreg ?_
 refine rs (v := v2) (mv (v := v2) rfl) rfl ?_
 cases hb4 : r1.1
 · replace hp := optN hp hb4
   rw [hb4] at hc
   replace hc := Ctx.ptoN hc; obtain ⟨u6, hc⟩ := hc; subst u6
   refine rs (v := .bool true) (ept Try.underlying24 rfl rfl) rfl ?_
   refine rs (v := .bool true) (mv (v := .bool true) rfl) rfl ?_
   refine r0 rfl ?_
   refine r0 rfl ?_
   refine rs (v := .bool true) (pkt (v := .bool true) rfl rfl) rfl ?_
   refine rn ?_
   refine qn ?_
   refine Wct rfl ?_
   refine Wseq ?_
   refine Wreg ?_
   refine rs (v := .bool false) (av (v := .bool false) rfl) rfl ?_
   refine rn ?_
   refine qn ?_
   refine Wret ?_
   refine qr ?_
   injection hp with hp; subst hp
   refine f1 (v := .bool false) Try.results7 Try.ntmps7 rfl ?_
   exact ⟨_, rfl, k _ hc⟩
 · rename_i y5
   replace hp := optS hp hb4
   rw [hb4] at hc
   replace hc := Ctx.ptoS hc; obtain ⟨b7, u8, hc⟩ := hc; subst u8
   refine rs (v := .bool false) (epf Try.underlying24 rfl rfl) rfl ?_
   refine rs (v := .bool false) (mv (v := .bool false) rfl) rfl ?_
   refine rs (v := .int .i64 r1.2) (mv (v := .int .i64 r1.2) rfl) rfl ?_
   refine rs (v := .bool (decide (r1.2 ≠ 0))) (ned rfl rfl) rfl ?_
   refine rs (v := .bool (decide (r1.2 ≠ 0))) (pkf (v := .bool (decide (r1.2 ≠ 0))) rfl rfl) rfl ?_
   refine rn ?_
   refine qn ?_
   cases hb9 : (decide (r1.2 ≠ 0))
   · replace hp := gneg hp (of_decide_eq_false hb9)
     refine Wcf rfl ?_
     refine Wskip ?_
     refine qn ?_
     refine Wseq ?_
     refine Wreg ?_
     replace hc : Ctx w3 (Hold (pInt .i8) [.int .i8 1] 1 :: S_cache_Store.hp b7 y5 :: Fr) := hc.add _ fun _ _ _ => ⟨rfl, rfl⟩
     refine rsE (Ctx.builtOp (css := [[.int .i8 1]]) (xs := ([1] : List Int)) (E := (pInt .i8)) hc Try.underlying31 Try.sizeOf42 Try.zeroValue42 rfl rfl rfl rfl rfl rfl rfl rfl) rfl ?_
     clear hc; rintro _ w11 ⟨a10, rfl, hc⟩
     refine rs (v := .slice a10 1 1) (av (v := .slice a10 1 1) rfl) rfl ?_
     refine rn ?_
     refine qn ?_
     refine Wseq ?_
     refine Wreg ?_
     refine rs (v := .pointer (some ⟨b7, 0, none⟩)) (mv (v := .pointer (some ⟨b7, 0, none⟩)) rfl) rfl ?_
     replace hp := bind_some hp; obtain ⟨r12, hr12, hp⟩ := hp
     refine rc (cl Try.call9 rfl rfl) rfl ?_
     refine law12_spot_any hc hr12 ?_
     clear hc; intro w13 hc
     refine rs (v := .slice a10 1 1) (mv (v := .slice a10 1 1) rfl) rfl ?_
     refine rs (v := .slice a10 1 1) (mv (v := .slice a10 1 1) rfl) rfl ?_
     replace hc := hc.freeze (k := 0) rfl rfl rfl
     replace hc := hc.dup (k := 0) rfl rfl
     replace hc := hc.dup (k := 1) rfl rfl
     replace hp := bind_some hp; obtain ⟨r14, hr14, hp⟩ := hp
     replace hc := hc.pull 1 rfl rfl
     replace hc := hc.pull 3 rfl rfl
     refine rc (cl Try.call11 rfl rfl) rfl ?_
     refine cache_Store_Put_any reads_ro reads_ro hc hr14 ?_
     clear hc; intro w15 hc
     refine rs (v := .pointer (some ⟨b7, 0, none⟩)) (mv (v := .pointer (some ⟨b7, 0, none⟩)) rfl) rfl ?_
     replace hp := bind_some hp; obtain ⟨r16, hr16, hp⟩ := hp
     refine rc (cl Try.call9 rfl rfl) rfl ?_
     refine law12_spot_any hc hr16 ?_
     clear hc; intro w17 hc
     refine rs (v := .slice a10 1 1) (mv (v := .slice a10 1 1) rfl) rfl ?_
     refine rs (v := .slice a10 1 1) (mv (v := .slice a10 1 1) rfl) rfl ?_
     replace hc := hc.dup (k := 3) rfl rfl
     replace hc := hc.dup (k := 4) rfl rfl
     replace hp := bind_some hp; obtain ⟨r18, hr18, hp⟩ := hp
     replace hc := hc.pull 1 rfl rfl
     replace hc := hc.pull 2 rfl rfl
     refine rc (cl Try.call11 rfl rfl) rfl ?_
     refine cache_Store_Put_any reads_ro reads_ro hc hr18 ?_
     clear hc; intro w19 hc
     refine rs (v := .pointer (some ⟨b7, 0, none⟩)) (mv (v := .pointer (some ⟨b7, 0, none⟩)) rfl) rfl ?_
     replace hp := bind_some hp; obtain ⟨r20, hr20, hp⟩ := hp
     refine rc (cl Try.call9 rfl rfl) rfl ?_
     refine law12_spot_any hc hr20 ?_
     clear hc; intro w21 hc
     refine rs (v := .slice a10 1 1) (mv (v := .slice a10 1 1) rfl) rfl ?_
     refine rs (v := .slice a10 1 1) (mv (v := .slice a10 1 1) rfl) rfl ?_
     replace hc := hc.dup (k := 5) rfl rfl
     replace hc := hc.dup (k := 6) rfl rfl
     replace hp := bind_some hp; obtain ⟨r22, hr22, hp⟩ := hp
     replace hc := hc.pull 1 rfl rfl
     replace hc := hc.pull 2 rfl rfl
     refine rc (cl Try.call11 rfl rfl) rfl ?_
     refine cache_Store_Put_any reads_ro reads_ro hc hr22 ?_
     clear hc; intro w23 hc
     refine rs (v := .int .i64 r14.1) (av (v := .int .i64 r14.1) rfl) rfl ?_
     refine rs (v := .int .i64 r18.1) (av (v := .int .i64 r18.1) rfl) rfl ?_
     refine rs (v := .int .i64 r22.1) (av (v := .int .i64 r22.1) rfl) rfl ?_
     refine rn ?_
     refine qn ?_
     refine Wseq ?_
     refine Wreg ?_
     refine rs (v := .pointer (some ⟨b7, 0, none⟩)) (mv (v := .pointer (some ⟨b7, 0, none⟩)) rfl) rfl ?_
     replace hp := bind_some hp; obtain ⟨r24, hr24, hp⟩ := hp
     refine rc (cl Try.call9 rfl rfl) rfl ?_
     refine law12_spot_any hc hr24 ?_
     clear hc; intro w25 hc
     refine rs (v := .slice a10 1 1) (mv (v := .slice a10 1 1) rfl) rfl ?_
     refine rs (v := .slice a10 1 1) (mv (v := .slice a10 1 1) rfl) rfl ?_
     replace hc := hc.dup (k := 7) rfl rfl
     replace hc := hc.dup (k := 8) rfl rfl
     replace hp := bind_some hp; obtain ⟨r26, hr26, hp⟩ := hp
     replace hc := hc.pull 1 rfl rfl
     replace hc := hc.pull 2 rfl rfl
     refine rc (cl Try.call11 rfl rfl) rfl ?_
     refine cache_Store_Put_any reads_ro reads_ro hc hr26 ?_
     clear hc; intro w27 hc
     refine rs (v := .pointer (some ⟨b7, 0, none⟩)) (mv (v := .pointer (some ⟨b7, 0, none⟩)) rfl) rfl ?_
     replace hp := bind_some hp; obtain ⟨r28, hr28, hp⟩ := hp
     refine rc (cl Try.call9 rfl rfl) rfl ?_
     refine law12_spot_any hc hr28 ?_
     clear hc; intro w29 hc
     refine rs (v := .slice a10 1 1) (mv (v := .slice a10 1 1) rfl) rfl ?_
     refine rs (v := .slice a10 1 1) (mv (v := .slice a10 1 1) rfl) rfl ?_
     replace hc := hc.dup (k := 9) rfl rfl
     replace hc := hc.dup (k := 10) rfl rfl
     replace hp := bind_some hp; obtain ⟨r30, hr30, hp⟩ := hp
     replace hc := hc.pull 1 rfl rfl
     replace hc := hc.pull 2 rfl rfl
     refine rc (cl Try.call11 rfl rfl) rfl ?_
     refine cache_Store_Put_any reads_ro reads_ro hc hr30 ?_
     clear hc; intro w31 hc
     refine rs (v := .pointer (some ⟨b7, 0, none⟩)) (mv (v := .pointer (some ⟨b7, 0, none⟩)) rfl) rfl ?_
     replace hp := bind_some hp; obtain ⟨r32, hr32, hp⟩ := hp
     refine rc (cl Try.call9 rfl rfl) rfl ?_
     refine law12_spot_any hc hr32 ?_
     clear hc; intro w33 hc
     refine rs (v := .slice a10 1 1) (mv (v := .slice a10 1 1) rfl) rfl ?_
     replace hc : Ctx w33 (Hold (pInt .i8) [.int .i8 2] 2 :: S_cache_Store.hp b7 r30.2 :: Hold (pRo (pInt .i8)) [.slice a10 1 1] ([1]) :: Hold (pRo (pInt .i8)) [.slice a10 1 1] ([1]) :: Hold (pRo (pInt .i8)) [.slice a10 1 1] ([1]) :: Hold (pRo (pInt .i8)) [.slice a10 1 1] ([1]) :: Hold (pRo (pInt .i8)) [.slice a10 1 1] ([1]) :: Hold (pRo (pInt .i8)) [.slice a10 1 1] ([1]) :: Hold (pRo (pInt .i8)) [.slice a10 1 1] ([1]) :: Hold (pRo (pInt .i8)) [.slice a10 1 1] ([1]) :: Hold (pRo (pInt .i8)) [.slice a10 1 1] ([1]) :: Hold (pRo (pInt .i8)) [.slice a10 1 1] ([1]) :: Hold (pRo (pInt .i8)) [.slice a10 1 1] ([1]) :: Fr) := hc.add _ fun _ _ _ => ⟨rfl, rfl⟩
     refine rsE (Ctx.builtOp (css := [[.int .i8 2]]) (xs := ([2] : List Int)) (E := (pInt .i8)) hc Try.underlying31 Try.sizeOf42 Try.zeroValue42 rfl rfl rfl rfl rfl rfl rfl rfl) rfl ?_
     clear hc; rintro _ w35 ⟨a34, rfl, hc⟩
     replace hc := hc.dup (k := 12) rfl rfl
     replace hp := bind_some hp; obtain ⟨r36, hr36, hp⟩ := hp
     replace hc := hc.pull 1 rfl rfl
     replace hc := hc.pull 1 rfl rfl
     replace hc := hc.pull 2 rfl rfl
     refine rc (cl Try.call11 rfl rfl) rfl ?_
     refine cache_Store_Put_any reads_ro reads_own hc hr36 ?_
     clear hc; intro w37 hc
     refine rs (v := .int .i64 r26.1) (av (v := .int .i64 r26.1) rfl) rfl ?_
     refine rs (v := .int .i64 r30.1) (av (v := .int .i64 r30.1) rfl) rfl ?_
     refine rs (v := .int .i64 r36.1) (av (v := .int .i64 r36.1) rfl) rfl ?_
     refine rn ?_
     refine qn ?_
     refine Wseq ?_
     refine Wreg ?_
     refine rs (v := .int .i64 r14.1) (mv (v := .int .i64 r14.1) rfl) rfl ?_
     refine rs (v := .bool (decide (r14.1 = 120))) (eqd rfl rfl) rfl ?_
     refine rs (v := .bool (decide (r14.1 = 120))) (mv (v := .bool (decide (r14.1 = 120))) rfl) rfl ?_
     cases hb38 : (decide (r14.1 = 120))
     · replace hp := gneg hp (of_decide_eq_false hb38)
       refine r0 rfl ?_
       refine r0 rfl ?_
       refine rs (v := .bool false) (pkf (v := .bool false) rfl rfl) rfl ?_
       refine rs (v := .bool false) (mv (v := .bool false) rfl) rfl ?_
       refine r0 rfl ?_
       refine r0 rfl ?_
       refine rs (v := .bool false) (pkf (v := .bool false) rfl rfl) rfl ?_
       refine rs (v := .bool false) (mv (v := .bool false) rfl) rfl ?_
       refine r0 rfl ?_
       refine r0 rfl ?_
       refine rs (v := .bool false) (pkf (v := .bool false) rfl rfl) rfl ?_
       refine rs (v := .bool false) (mv (v := .bool false) rfl) rfl ?_
       refine r0 rfl ?_
       refine r0 rfl ?_
       refine rs (v := .bool false) (pkf (v := .bool false) rfl rfl) rfl ?_
       refine rs (v := .bool false) (mv (v := .bool false) rfl) rfl ?_
       refine r0 rfl ?_
       refine r0 rfl ?_
       refine rs (v := .bool false) (pkf (v := .bool false) rfl rfl) rfl ?_
       refine rs (v := .bool false) (mv (v := .bool false) rfl) rfl ?_
       refine r0 rfl ?_
       refine r0 rfl ?_
       refine r0 rfl ?_
       refine r0 rfl ?_
       refine rs (v := .bool false) (pkf (v := .bool false) rfl rfl) rfl ?_
       refine rs (v := .bool false) (av (v := .bool false) rfl) rfl ?_
       refine rn ?_
       refine qn ?_
       refine Wret ?_
       replace hc := hc.rem 13 rfl rfl
       replace hc := hc.rem 12 rfl rfl
       replace hc := hc.rem 11 rfl rfl
       replace hc := hc.rem 10 rfl rfl
       replace hc := hc.rem 9 rfl rfl
       replace hc := hc.rem 8 rfl rfl
       replace hc := hc.rem 7 rfl rfl
       replace hc := hc.rem 6 rfl rfl
       replace hc := hc.rem 5 rfl rfl
       replace hc := hc.rem 4 rfl rfl
       replace hc := hc.rem 3 rfl rfl
       replace hc := hc.rem 2 rfl rfl
       replace hc := hc.rem 1 rfl rfl
       replace hc := hc.rem 0 rfl rfl
       injection hp with hp; subst hp
       refine f1 (v := .bool false) Try.results7 Try.ntmps7 rfl ?_
       exact ⟨_, rfl, k _ hc⟩
     · replace hp := gpos hp (of_decide_eq_true hb38)
       refine rs (v := .int .i64 r18.1) (mv (v := .int .i64 r18.1) rfl) rfl ?_
       refine rs (v := .bool (decide (r18.1 = 0))) (eqd rfl rfl) rfl ?_
       refine rs (v := .bool (decide (r18.1 = 0))) (pkt (v := .bool (decide (r18.1 = 0))) rfl rfl) rfl ?_
       refine rs (v := .bool (decide (r18.1 = 0))) (mv (v := .bool (decide (r18.1 = 0))) rfl) rfl ?_
       cases hb39 : (decide (r18.1 = 0))
       · replace hp := gneg hp (of_decide_eq_false hb39)
         refine r0 rfl ?_
         refine r0 rfl ?_
         refine rs (v := .bool false) (pkf (v := .bool false) rfl rfl) rfl ?_
         refine rs (v := .bool false) (mv (v := .bool false) rfl) rfl ?_
         refine r0 rfl ?_
         refine r0 rfl ?_
         refine rs (v := .bool false) (pkf (v := .bool false) rfl rfl) rfl ?_
         refine rs (v := .bool false) (mv (v := .bool false) rfl) rfl ?_
         refine r0 rfl ?_
         refine r0 rfl ?_
         refine rs (v := .bool false) (pkf (v := .bool false) rfl rfl) rfl ?_
         refine rs (v := .bool false) (mv (v := .bool false) rfl) rfl ?_
         refine r0 rfl ?_
         refine r0 rfl ?_
         refine rs (v := .bool false) (pkf (v := .bool false) rfl rfl) rfl ?_
         refine rs (v := .bool false) (mv (v := .bool false) rfl) rfl ?_
         refine r0 rfl ?_
         refine r0 rfl ?_
         refine r0 rfl ?_
         refine r0 rfl ?_
         refine rs (v := .bool false) (pkf (v := .bool false) rfl rfl) rfl ?_
         refine rs (v := .bool false) (av (v := .bool false) rfl) rfl ?_
         refine rn ?_
         refine qn ?_
         refine Wret ?_
         replace hc := hc.rem 13 rfl rfl
         replace hc := hc.rem 12 rfl rfl
         replace hc := hc.rem 11 rfl rfl
         replace hc := hc.rem 10 rfl rfl
         replace hc := hc.rem 9 rfl rfl
         replace hc := hc.rem 8 rfl rfl
         replace hc := hc.rem 7 rfl rfl
         replace hc := hc.rem 6 rfl rfl
         replace hc := hc.rem 5 rfl rfl
         replace hc := hc.rem 4 rfl rfl
         replace hc := hc.rem 3 rfl rfl
         replace hc := hc.rem 2 rfl rfl
         replace hc := hc.rem 1 rfl rfl
         replace hc := hc.rem 0 rfl rfl
         injection hp with hp; subst hp
         refine f1 (v := .bool false) Try.results7 Try.ntmps7 rfl ?_
         exact ⟨_, rfl, k _ hc⟩
       · replace hp := gpos hp (of_decide_eq_true hb39)
         refine rs (v := .int .i64 r22.1) (mv (v := .int .i64 r22.1) rfl) rfl ?_
         refine rs (v := .bool (decide (r22.1 = 0))) (eqd rfl rfl) rfl ?_
         refine rs (v := .bool (decide (r22.1 = 0))) (pkt (v := .bool (decide (r22.1 = 0))) rfl rfl) rfl ?_
         refine rs (v := .bool (decide (r22.1 = 0))) (mv (v := .bool (decide (r22.1 = 0))) rfl) rfl ?_
         cases hb40 : (decide (r22.1 = 0))
         · replace hp := gneg hp (of_decide_eq_false hb40)
           refine r0 rfl ?_
           refine r0 rfl ?_
           refine rs (v := .bool false) (pkf (v := .bool false) rfl rfl) rfl ?_
           refine rs (v := .bool false) (mv (v := .bool false) rfl) rfl ?_
           refine r0 rfl ?_
           refine r0 rfl ?_
           refine rs (v := .bool false) (pkf (v := .bool false) rfl rfl) rfl ?_
           refine rs (v := .bool false) (mv (v := .bool false) rfl) rfl ?_
           refine r0 rfl ?_
           refine r0 rfl ?_
           refine rs (v := .bool false) (pkf (v := .bool false) rfl rfl) rfl ?_
           refine rs (v := .bool false) (mv (v := .bool false) rfl) rfl ?_
           refine r0 rfl ?_
           refine r0 rfl ?_
           refine r0 rfl ?_
           refine r0 rfl ?_
           refine rs (v := .bool false) (pkf (v := .bool false) rfl rfl) rfl ?_
           refine rs (v := .bool false) (av (v := .bool false) rfl) rfl ?_
           refine rn ?_
           refine qn ?_
           refine Wret ?_
           replace hc := hc.rem 13 rfl rfl
           replace hc := hc.rem 12 rfl rfl
           replace hc := hc.rem 11 rfl rfl
           replace hc := hc.rem 10 rfl rfl
           replace hc := hc.rem 9 rfl rfl
           replace hc := hc.rem 8 rfl rfl
           replace hc := hc.rem 7 rfl rfl
           replace hc := hc.rem 6 rfl rfl
           replace hc := hc.rem 5 rfl rfl
           replace hc := hc.rem 4 rfl rfl
           replace hc := hc.rem 3 rfl rfl
           replace hc := hc.rem 2 rfl rfl
           replace hc := hc.rem 1 rfl rfl
           replace hc := hc.rem 0 rfl rfl
           injection hp with hp; subst hp
           refine f1 (v := .bool false) Try.results7 Try.ntmps7 rfl ?_
           exact ⟨_, rfl, k _ hc⟩
         · replace hp := gpos hp (of_decide_eq_true hb40)
           refine rs (v := .int .i64 r26.1) (mv (v := .int .i64 r26.1) rfl) rfl ?_
           refine rs (v := .bool (decide (r26.1 = 80))) (eqd rfl rfl) rfl ?_
           refine rs (v := .bool (decide (r26.1 = 80))) (pkt (v := .bool (decide (r26.1 = 80))) rfl rfl) rfl ?_
           refine rs (v := .bool (decide (r26.1 = 80))) (mv (v := .bool (decide (r26.1 = 80))) rfl) rfl ?_
           cases hb41 : (decide (r26.1 = 80))
           · replace hp := gneg hp (of_decide_eq_false hb41)
             refine r0 rfl ?_
             refine r0 rfl ?_
             refine rs (v := .bool false) (pkf (v := .bool false) rfl rfl) rfl ?_
             refine rs (v := .bool false) (mv (v := .bool false) rfl) rfl ?_
             refine r0 rfl ?_
             refine r0 rfl ?_
             refine rs (v := .bool false) (pkf (v := .bool false) rfl rfl) rfl ?_
             refine rs (v := .bool false) (mv (v := .bool false) rfl) rfl ?_
             refine r0 rfl ?_
             refine r0 rfl ?_
             refine r0 rfl ?_
             refine r0 rfl ?_
             refine rs (v := .bool false) (pkf (v := .bool false) rfl rfl) rfl ?_
             refine rs (v := .bool false) (av (v := .bool false) rfl) rfl ?_
             refine rn ?_
             refine qn ?_
             refine Wret ?_
             replace hc := hc.rem 13 rfl rfl
             replace hc := hc.rem 12 rfl rfl
             replace hc := hc.rem 11 rfl rfl
             replace hc := hc.rem 10 rfl rfl
             replace hc := hc.rem 9 rfl rfl
             replace hc := hc.rem 8 rfl rfl
             replace hc := hc.rem 7 rfl rfl
             replace hc := hc.rem 6 rfl rfl
             replace hc := hc.rem 5 rfl rfl
             replace hc := hc.rem 4 rfl rfl
             replace hc := hc.rem 3 rfl rfl
             replace hc := hc.rem 2 rfl rfl
             replace hc := hc.rem 1 rfl rfl
             replace hc := hc.rem 0 rfl rfl
             injection hp with hp; subst hp
             refine f1 (v := .bool false) Try.results7 Try.ntmps7 rfl ?_
             exact ⟨_, rfl, k _ hc⟩
           · replace hp := gpos hp (of_decide_eq_true hb41)
             refine rs (v := .int .i64 r30.1) (mv (v := .int .i64 r30.1) rfl) rfl ?_
             refine rs (v := .bool (decide (r30.1 = 0))) (eqd rfl rfl) rfl ?_
             refine rs (v := .bool (decide (r30.1 = 0))) (pkt (v := .bool (decide (r30.1 = 0))) rfl rfl) rfl ?_
             refine rs (v := .bool (decide (r30.1 = 0))) (mv (v := .bool (decide (r30.1 = 0))) rfl) rfl ?_
             cases hb42 : (decide (r30.1 = 0))
             · replace hp := gneg hp (of_decide_eq_false hb42)
               refine r0 rfl ?_
               refine r0 rfl ?_
               refine rs (v := .bool false) (pkf (v := .bool false) rfl rfl) rfl ?_
               refine rs (v := .bool false) (mv (v := .bool false) rfl) rfl ?_
               refine r0 rfl ?_
               refine r0 rfl ?_
               refine r0 rfl ?_
               refine r0 rfl ?_
               refine rs (v := .bool false) (pkf (v := .bool false) rfl rfl) rfl ?_
               refine rs (v := .bool false) (av (v := .bool false) rfl) rfl ?_
               refine rn ?_
               refine qn ?_
               refine Wret ?_
               replace hc := hc.rem 13 rfl rfl
               replace hc := hc.rem 12 rfl rfl
               replace hc := hc.rem 11 rfl rfl
               replace hc := hc.rem 10 rfl rfl
               replace hc := hc.rem 9 rfl rfl
               replace hc := hc.rem 8 rfl rfl
               replace hc := hc.rem 7 rfl rfl
               replace hc := hc.rem 6 rfl rfl
               replace hc := hc.rem 5 rfl rfl
               replace hc := hc.rem 4 rfl rfl
               replace hc := hc.rem 3 rfl rfl
               replace hc := hc.rem 2 rfl rfl
               replace hc := hc.rem 1 rfl rfl
               replace hc := hc.rem 0 rfl rfl
               injection hp with hp; subst hp
               refine f1 (v := .bool false) Try.results7 Try.ntmps7 rfl ?_
               exact ⟨_, rfl, k _ hc⟩
             · replace hp := gpos hp (of_decide_eq_true hb42)
               refine rs (v := .int .i64 r36.1) (mv (v := .int .i64 r36.1) rfl) rfl ?_
               refine rs (v := .bool (decide (r36.1 = 2))) (eqd rfl rfl) rfl ?_
               refine rs (v := .bool (decide (r36.1 = 2))) (pkt (v := .bool (decide (r36.1 = 2))) rfl rfl) rfl ?_
               refine rs (v := .bool (decide (r36.1 = 2))) (mv (v := .bool (decide (r36.1 = 2))) rfl) rfl ?_
               cases hb43 : (decide (r36.1 = 2))
               · replace hp := gneg hp (of_decide_eq_false hb43)
                 refine r0 rfl ?_
                 refine r0 rfl ?_
                 refine r0 rfl ?_
                 refine r0 rfl ?_
                 refine rs (v := .bool false) (pkf (v := .bool false) rfl rfl) rfl ?_
                 refine rs (v := .bool false) (av (v := .bool false) rfl) rfl ?_
                 refine rn ?_
                 refine qn ?_
                 refine Wret ?_
                 replace hc := hc.rem 13 rfl rfl
                 replace hc := hc.rem 12 rfl rfl
                 replace hc := hc.rem 11 rfl rfl
                 replace hc := hc.rem 10 rfl rfl
                 replace hc := hc.rem 9 rfl rfl
                 replace hc := hc.rem 8 rfl rfl
                 replace hc := hc.rem 7 rfl rfl
                 replace hc := hc.rem 6 rfl rfl
                 replace hc := hc.rem 5 rfl rfl
                 replace hc := hc.rem 4 rfl rfl
                 replace hc := hc.rem 3 rfl rfl
                 replace hc := hc.rem 2 rfl rfl
                 replace hc := hc.rem 1 rfl rfl
                 replace hc := hc.rem 0 rfl rfl
                 injection hp with hp; subst hp
                 refine f1 (v := .bool false) Try.results7 Try.ntmps7 rfl ?_
                 exact ⟨_, rfl, k _ hc⟩
               · replace hp := gpos hp (of_decide_eq_true hb43)
                 refine rs (v := .pointer (some ⟨b7, 0, none⟩)) (mv (v := .pointer (some ⟨b7, 0, none⟩)) rfl) rfl ?_
                 replace hc : Ctx w37 (Hold (pInt .i64) [.int .i64 7] 7 :: S_cache_Store.hp b7 r36.2 :: Hold (pRo (pInt .i8)) [.slice a10 1 1] ([1]) :: Own (pInt .i8) 42 (.slice a34 1 1) ([2]) :: Hold (pRo (pInt .i8)) [.slice a10 1 1] ([1]) :: Hold (pRo (pInt .i8)) [.slice a10 1 1] ([1]) :: Hold (pRo (pInt .i8)) [.slice a10 1 1] ([1]) :: Hold (pRo (pInt .i8)) [.slice a10 1 1] ([1]) :: Hold (pRo (pInt .i8)) [.slice a10 1 1] ([1]) :: Hold (pRo (pInt .i8)) [.slice a10 1 1] ([1]) :: Hold (pRo (pInt .i8)) [.slice a10 1 1] ([1]) :: Hold (pRo (pInt .i8)) [.slice a10 1 1] ([1]) :: Hold (pRo (pInt .i8)) [.slice a10 1 1] ([1]) :: Hold (pRo (pInt .i8)) [.slice a10 1 1] ([1]) :: Hold (pRo (pInt .i8)) [.slice a10 1 1] ([1]) :: Fr) := hc.add _ fun _ _ _ => ⟨rfl, rfl⟩
                 refine rsE (Ctx.builtOp (css := [[.int .i64 7]]) (xs := ([7] : List Int)) (E := (pInt .i64)) hc Try.underlying47 Try.sizeOf3 Try.zeroValue3 rfl rfl rfl rfl rfl rfl rfl rfl) rfl ?_
                 clear hc; rintro _ w45 ⟨a44, rfl, hc⟩
                 replace hp := bind_some hp; obtain ⟨r46, hr46, hp⟩ := hp
                 replace hc := hc.pull 1 rfl rfl
                 refine rc (cl Try.call10 rfl rfl) rfl ?_
                 refine cache_Store_Drop_any reads_own hc hr46 ?_
                 clear hc; intro w47 hc
                 refine rs (v := .bool (decide (r46.1 = 2))) (eqd rfl rfl) rfl ?_
                 refine rs (v := .bool (decide (r46.1 = 2))) (pkt (v := .bool (decide (r46.1 = 2))) rfl rfl) rfl ?_
                 refine rs (v := .bool (decide (r46.1 = 2))) (av (v := .bool (decide (r46.1 = 2))) rfl) rfl ?_
                 refine rn ?_
                 refine qn ?_
                 refine Wret ?_
                 replace hc := hc.rem 14 rfl rfl
                 replace hc := hc.rem 13 rfl rfl
                 replace hc := hc.rem 12 rfl rfl
                 replace hc := hc.rem 11 rfl rfl
                 replace hc := hc.rem 10 rfl rfl
                 replace hc := hc.rem 9 rfl rfl
                 replace hc := hc.rem 8 rfl rfl
                 replace hc := hc.rem 7 rfl rfl
                 replace hc := hc.rem 6 rfl rfl
                 replace hc := hc.rem 5 rfl rfl
                 replace hc := hc.rem 4 rfl rfl
                 replace hc := hc.rem 3 rfl rfl
                 replace hc := hc.rem 2 rfl rfl
                 replace hc := hc.rem 1 rfl rfl
                 replace hc := hc.rem 0 rfl rfl
                 injection hp with hp; subst hp
                 refine f1 (v := .bool (decide (r46.1 = 2))) Try.results7 Try.ntmps7 rfl ?_
                 exact ⟨_, rfl, k _ hc⟩
   · replace hp := gpos hp (of_decide_eq_true hb9)
     refine Wct rfl ?_
     refine Wseq ?_
     refine Wreg ?_
     refine rs (v := .bool false) (av (v := .bool false) rfl) rfl ?_
     refine rn ?_
     refine qn ?_
     refine Wret ?_
     refine qr ?_
     replace hc := hc.rem 0 rfl rfl
     injection hp with hp; subst hp
     refine f1 (v := .bool false) Try.results7 Try.ntmps7 rfl ?_
     exact ⟨_, rfl, k _ hc⟩

-- FN peloton/pelotonlaw12.CacheFills
def law12_CacheFills.J2 (N : Nat) (e4 : Int) (e14 : Int) (j15 : S_cache_Store) (j22 : Bool) : Option (Bool) :=
  if j22 = true then
    (cache_Store_Drop N j15 ([0])).bind fun r37 =>
    chk (e14 ≠ 0) <|
    if r37.1 = (IntKind.i64.wrap (Int.tdiv (IntKind.i64.wrap ((IntKind.i64.wrap (e4 + e14)) - 1)) e14)) then
      (cache_Store_Len r37.2).bind fun r41 =>
      if r41 = (IntKind.i64.wrap (e4 - r37.1)) then
        (law12_spot 0 0 0).bind fun r44 =>
        (cache_Store_Put N r37.2 r44 ([]) ([])).bind fun r46 =>
        some (decide (r46.1 = 0))
      else
        some false
    else
      some false
  else
    (cache_Store_Clear j15).bind fun r26 =>
    (cache_Store_Len r26).bind fun r28 =>
    if r28 = 0 then
      (law12_spot 9 9 0).bind fun r31 =>
      (cache_Store_Put N r26 r31 ([]) ([])).bind fun r33 =>
      some ((decide (e4 = 0)) == (decide (r33.1 = 80)))
    else
      some false

def law12_CacheFills.J5 (j16 : Int) (j48 : S_cache_Store) (k1 : S_cache_Store → Int → Option (Bool)) (j113 : Bool) : Option (Bool) :=
  if j113 = true then
    some false
  else
    k1 j48 (IntKind.i64.wrap (j16 + 1))

def law12_CacheFills.J4 (N : Nat) (e4 : Int) (e14 : Int) (j16 : Int) (j48 : S_cache_Store) (k1 : S_cache_Store → Int → Option (Bool)) (j93 : Bool) : Option (Bool) :=
  if j93 = true then
    some false
  else
    chk (e14 ≠ 0) <|
    (cache_Store_Line N j48 (Int.tmod j16 e14) 2).bind fun r103 =>
    if j16 < e4 then
      chk (e14 ≠ 0) <|
      law12_CacheFills.J5 j16 j48 k1 (decide (((r103.1.length : Nat) : Int) ≠ (IntKind.i64.wrap ((IntKind.i64.wrap (Int.tdiv j16 e14)) + 1))))
    else
      law12_CacheFills.J5 j16 j48 k1 false

def law12_CacheFills.J3 (N : Nat) (e4 : Int) (e14 : Int) (j16 : Int) (k1 : S_cache_Store → Int → Option (Bool)) (j48 : S_cache_Store) (j49 : Int) : Option (Bool) :=
  if j16 < e4 then
    if j49 ≠ 0 then
      law12_CacheFills.J4 N e4 e14 j16 j48 k1 true
    else
      if j16 ≥ e4 then
        if j49 ≠ 80 then
          law12_CacheFills.J4 N e4 e14 j16 j48 k1 (decide (j49 ≠ 120))
        else
          law12_CacheFills.J4 N e4 e14 j16 j48 k1 false
      else
        law12_CacheFills.J4 N e4 e14 j16 j48 k1 false
  else
    if j16 ≥ e4 then
      if j49 ≠ 80 then
        law12_CacheFills.J4 N e4 e14 j16 j48 k1 (decide (j49 ≠ 120))
      else
        law12_CacheFills.J4 N e4 e14 j16 j48 k1 false
    else
      law12_CacheFills.J4 N e4 e14 j16 j48 k1 false

def law12_CacheFills.L1 (N : Nat) (x2 : Bool) (e4 : Int) (e14 : Int) : Nat → S_cache_Store → Int → Option (Bool)
  | 0, _, _ => none
  | m1 + 1, j15, j16 =>
    if j16 < 60 then
      chk (e14 ≠ 0) <|
      (law12_spot (Int.tmod j16 e14) 2 (IntKind.i64.wrap (Int.tdiv j16 e14))).bind fun r100085 =>
      (cache_Store_Put N j15 r100085 ([(IntKind.i8.wrap j16)]) ([1])).bind fun r100086 =>
      law12_CacheFills.J3 N e4 e14 j16 (law12_CacheFills.L1 N x2 e4 e14 m1) r100086.2 r100086.1
    else
      (cache_Store_Len j15).bind fun r19 =>
      if r19 ≠ e4 then
        some false
      else
        if x2 = true then
          law12_CacheFills.J2 N e4 e14 j15 (decide (e4 > 0))
        else
          law12_CacheFills.J2 N e4 e14 j15 false

def law12_CacheFills (N : Nat) (x0 : Int) (x1 : Int) (x2 : Bool) : Option (Bool) :=
  (law12_awake N).bind fun r1 =>
  if r1 = true then
    (some (Int.tmod (IntKind.i64.wrap ((Int.tmod x0 40) + 40)) 40)).bind fun e4 =>
    (cache_New e4).bind fun r5 =>
    optc r5.1 (
      some false) fun y9 =>
    if r5.2 ≠ 0 then
      some false
    else
      (some (IntKind.i64.wrap (1 + (Int.tmod (IntKind.i64.wrap ((Int.tmod x1 5) + 5)) 5)))).bind fun e14 =>
      law12_CacheFills.L1 N x2 e4 e14 N y9 0
  else
    some false

set_option maxHeartbeats 8000000 in
theorem law12_CacheFills_any {N : Nat} {x0 : Int} {x1 : Int} {x2 : Bool} {Fr : List HP} {w : World} {r : Bool} {K : Value → World → Prop}  (hc : Ctx w (Fr)) (hp : law12_CacheFills N x0 x1 x2 = some r)
    (k : ∀ w', Ctx w' (Fr) → K (.bool r) w') : Calls Try.prog 4 #[.int .i64 x0, .int .i64 x1, .bool x2] w (Ret K) := by
 unfold law12_CacheFills at hp
 refine Center (args := [.int .i64 x0, .int .i64 x1, .bool x2]) (l := [(0, .int .i64 x0), (1, .int .i64 x1), (2, .bool x2)]) Try.func4 Try.ntmps4 rfl rfl rfl ?_
 refine Wseq ?_
 refine Wreg ?_
 refine rs (v := .bool false) (av (v := .bool false) rfl) rfl ?_
 refine rn ?_
 refine qn ?_
 refine Wseq ?_
 refine Wseq ?_
 refine Wreg ?_
 replace hp := bind_some hp; obtain ⟨r1, hr1, hp⟩ := hp
 refine rc (cl Try.call7 rfl rfl) rfl ?_
 refine law12_awake_any hc hr1 ?_
 clear hc; intro w2 hc
 cases hb3 : r1
 · replace hp := gneg hp (by rw [hb3]; exact Bool.false_ne_true)
   subst hb3
   refine rs (v := .bool true) (ntf rfl) rfl ?_
   refine rn ?_
   refine qn ?_
   refine Wct rfl ?_
   refine Wseq ?_
   refine Wreg ?_
   refine rs (v := .bool false) (av (v := .bool false) rfl) rfl ?_
   refine rn ?_
   refine qn ?_
   refine Wret ?_
   refine qr ?_
   injection hp with hp; subst hp
   refine f1 (v := .bool false) Try.results4 Try.ntmps4 rfl ?_
   exact ⟨_, rfl, k _ hc⟩
 · replace hp := gpos hp hb3
   subst hb3
   refine rs (v := .bool false) (ntt rfl) rfl ?_
   refine rn ?_
   refine qn ?_
   refine Wcf rfl ?_
   refine Wskip ?_
   refine qn ?_
   refine Wseq ?_
   refine Wreg ?_
   refine rs (v := .int .i64 x0) (mv (v := .int .i64 x0) rfl) rfl ?_
   refine rs (v := .int .i64 (Int.tmod x0 40)) (rm rfl rfl (by decide)) rfl ?_
   refine rs (v := .int .i64 (IntKind.i64.wrap ((Int.tmod x0 40) + 40))) (adw rfl rfl) rfl ?_
   refine rs (v := .int .i64 (Int.tmod (IntKind.i64.wrap ((Int.tmod x0 40) + 40)) 40)) (rm rfl rfl (by decide)) rfl ?_
   replace hp := bind_some hp; obtain ⟨e4, he4, hp⟩ := hp
   injection he4 with he4
   refine rs (v := .int .i64 e4) (av (v := .int .i64 e4) (by rw [← he4]; rfl)) rfl ?_
   refine rn ?_
   refine qn ?_
   refine Wseq ?_
   refine Wreg ?_
   refine rs (v := .int .i64 e4) (mv (v := .int .i64 e4) rfl) rfl ?_
   replace hp := bind_some hp; obtain ⟨r5, hr5, hp⟩ := hp
   refine rc (cl Try.call8 rfl rfl) rfl ?_
   refine cache_New_any hc hr5 ?_
   clear hc; intro v6 w7 hc
   refine rs (v := .tuple #[v6, .int .i64 r5.2]) (mv (v := .tuple #[v6, .int .i64 r5.2]) rfl) rfl ?_
   refine rs (v := v6) (ext (v := v6) rfl rfl) rfl ?_
   refine rs (v := .int .i64 r5.2) (ext (v := .int .i64 r5.2) rfl rfl) rfl ?_
   refine rs (v := v6) (av (v := v6) rfl) rfl ?_
   refine rs (v := .int .i64 r5.2) (av (v := .int .i64 r5.2) rfl) rfl ?_
   refine rn ?_
   refine qn ?_
   refine Wseq ?_
   refine Wseq ?_
   refine Wreg ?_
   refine rs (v := v6) (mv (v := v6) rfl) rfl ?_
   cases hb8 : r5.1
   · replace hp := optN hp hb8
     rw [hb8] at hc
     replace hc := Ctx.ptoN hc; obtain ⟨u10, hc⟩ := hc; subst u10
     refine rs (v := .bool true) (ept Try.underlying24 rfl rfl) rfl ?_
     refine rs (v := .bool true) (mv (v := .bool true) rfl) rfl ?_
     refine r0 rfl ?_
     refine r0 rfl ?_
     refine rs (v := .bool true) (pkt (v := .bool true) rfl rfl) rfl ?_
     refine rn ?_
     refine qn ?_
     refine Wct rfl ?_
     refine Wseq ?_
     refine Wreg ?_
     refine rs (v := .bool false) (av (v := .bool false) rfl) rfl ?_
     refine rn ?_
     refine qn ?_
     refine Wret ?_
     refine qr ?_
     injection hp with hp; subst hp
     refine f1 (v := .bool false) Try.results4 Try.ntmps4 rfl ?_
     exact ⟨_, rfl, k _ hc⟩
   · rename_i y9
     replace hp := optS hp hb8
     rw [hb8] at hc
     replace hc := Ctx.ptoS hc; obtain ⟨b11, u12, hc⟩ := hc; subst u12
     refine rs (v := .bool false) (epf Try.underlying24 rfl rfl) rfl ?_
     refine rs (v := .bool false) (mv (v := .bool false) rfl) rfl ?_
     refine rs (v := .int .i64 r5.2) (mv (v := .int .i64 r5.2) rfl) rfl ?_
     refine rs (v := .bool (decide (r5.2 ≠ 0))) (ned rfl rfl) rfl ?_
     refine rs (v := .bool (decide (r5.2 ≠ 0))) (pkf (v := .bool (decide (r5.2 ≠ 0))) rfl rfl) rfl ?_
     refine rn ?_
     refine qn ?_
     cases hb13 : (decide (r5.2 ≠ 0))
     · replace hp := gneg hp (of_decide_eq_false hb13)
       refine Wcf rfl ?_
       refine Wskip ?_
       refine qn ?_
       refine Wseq ?_
       refine Wreg ?_
       refine rs (v := .int .i64 x1) (mv (v := .int .i64 x1) rfl) rfl ?_
       refine rs (v := .int .i64 (Int.tmod x1 5)) (rm rfl rfl (by decide)) rfl ?_
       refine rs (v := .int .i64 (IntKind.i64.wrap ((Int.tmod x1 5) + 5))) (adw rfl rfl) rfl ?_
       refine rs (v := .int .i64 (Int.tmod (IntKind.i64.wrap ((Int.tmod x1 5) + 5)) 5)) (rm rfl rfl (by decide)) rfl ?_
       refine rs (v := .int .i64 (IntKind.i64.wrap (1 + (Int.tmod (IntKind.i64.wrap ((Int.tmod x1 5) + 5)) 5)))) (adw rfl rfl) rfl ?_
       replace hp := bind_some hp; obtain ⟨e14, he14, hp⟩ := hp
       injection he14 with he14
       refine rs (v := .int .i64 e14) (av (v := .int .i64 e14) (by rw [← he14]; rfl)) rfl ?_
       refine rn ?_
       refine qn ?_
       refine Wseq ?_
       refine Wseq ?_
       refine Wreg ?_
       refine rs (v := .int .i64 0) (av (v := .int .i64 0) rfl) rfl ?_
       refine rn ?_
       refine qn ?_
       refine Wblk ?_
       refine Wloop [6, 11, 12, 13, 14, 38, 39, 40, 41, 42, 43, 44, 45, 46, 47, 48, 49, 50, 51, 52, 53, 54, 55, 56, 57, 58, 59, 60, 61, 62, 63, 64, 65, 66, 67, 68, 69, 70, 71, 72, 73, 74, 75, 76, 77, 78, 79, 80, 81, 82, 83, 84, 85, 86, 87, 88, 89, 90, 91, 92, 93, 94] [11] (fun m vs w' => ∃ j15 : S_cache_Store, ∃ j16 : Int, vs = [.int .i64 j16] ∧ law12_CacheFills.L1 N x2 e4 e14 m j15 j16 = some r ∧ Ctx w' (S_cache_Store.hp b11 j15 :: Fr)) N ?_ ?_
       · exact ⟨y9, 0, rfl, hp, hc⟩
       · clear hp hc; intro m vs u w17 hJ
         obtain ⟨j15, j16, rfl, hp, hc⟩ := hJ
         rcases m with _ | m1
         · cases (show none = some r from hp)
         rw [law12_CacheFills.L1] at hp
         refine Wseq ?_
         refine Wseq ?_
         refine Wreg ?_
         refine rs (v := .int .i64 j16) (mv (v := .int .i64 j16) rfl) rfl ?_
         refine rs (v := .bool (decide (j16 < 60))) (lt' rfl rfl) rfl ?_
         refine rn ?_
         refine qn ?_
         cases hb18 : (decide (j16 < 60))
         · replace hp := gneg hp (of_decide_eq_false hb18)
           refine Wcf rfl ?_
           refine Wexit ?_
           refine qx ?_
           refine qx ?_
           refine be ?_
           refine qn ?_
           refine Wseq ?_
           refine Wseq ?_
           refine Wreg ?_
           refine rs (v := .pointer (some ⟨b11, 0, none⟩)) (mv (v := .pointer (some ⟨b11, 0, none⟩)) rfl) rfl ?_
           replace hp := bind_some hp; obtain ⟨r19, hr19, hp⟩ := hp
           refine rc (cl Try.call13 rfl rfl) rfl ?_
           refine cache_Store_Len_any hc hr19 ?_
           clear hc; intro w20 hc
           refine rs (v := .int .i64 e4) (mv (v := .int .i64 e4) rfl) rfl ?_
           refine rs (v := .bool (decide (r19 ≠ e4))) (ned rfl rfl) rfl ?_
           refine rn ?_
           refine qn ?_
           cases hb21 : (decide (r19 ≠ e4))
           · replace hp := gneg hp (of_decide_eq_false hb21)
             refine Wcf rfl ?_
             refine Wskip ?_
             refine qn ?_
             refine Wseq ?_
             refine Wseqm [99, 100, 101, 102, 103] [103] (fun vs w' => ∃ j22 : Bool, vs = [.bool j22] ∧ law12_CacheFills.J2 N e4 e14 j15 j22 = some r ∧ Ctx w' (S_cache_Store.hp b11 j15 :: Fr)) ?_ ?_
             · refine Wreg ?_
               refine rs (v := .bool x2) (mv (v := .bool x2) rfl) rfl ?_
               refine rs (v := .bool x2) (mv (v := .bool x2) rfl) rfl ?_
               cases hb23 : x2
               · replace hp := gneg hp (by rw [hb23]; exact Bool.false_ne_true)
                 subst hb23
                 refine r0 rfl ?_
                 refine r0 rfl ?_
                 refine rs (v := .bool false) (pkf (v := .bool false) rfl rfl) rfl ?_
                 refine rn ?_
                 refine qn ?_
                 exact ⟨⟨false, rfl, hp, hc⟩, (kl rfl kb)⟩
               · replace hp := gpos hp hb23
                 subst hb23
                 refine rs (v := .int .i64 e4) (mv (v := .int .i64 e4) rfl) rfl ?_
                 refine rs (v := .bool (decide (e4 > 0))) (gt' rfl rfl) rfl ?_
                 refine rs (v := .bool (decide (e4 > 0))) (pkt (v := .bool (decide (e4 > 0))) rfl rfl) rfl ?_
                 refine rn ?_
                 refine qn ?_
                 exact ⟨⟨decide (e4 > 0), rfl, hp, hc⟩, (kl rfl kb)⟩
             · clear hp hc; intro vs u w24 hJ
               obtain ⟨j22, rfl, hp, hc⟩ := hJ
               unfold law12_CacheFills.J2 at hp
               cases hb25 : j22
               · replace hp := gneg hp (by rw [hb25]; exact Bool.false_ne_true)
                 subst hb25
                 refine Wcf rfl ?_
                 refine Wskip ?_
                 refine qn ?_
                 refine Wseq ?_
                 refine Wreg ?_
                 refine rs (v := .pointer (some ⟨b11, 0, none⟩)) (mv (v := .pointer (some ⟨b11, 0, none⟩)) rfl) rfl ?_
                 replace hp := bind_some hp; obtain ⟨r26, hr26, hp⟩ := hp
                 refine rc (cl Try.call14 rfl rfl) rfl ?_
                 refine cache_Store_Clear_any hc hr26 ?_
                 clear hc; intro w27 hc
                 refine rn ?_
                 refine qn ?_
                 refine Wseq ?_
                 refine Wreg ?_
                 refine rs (v := .pointer (some ⟨b11, 0, none⟩)) (mv (v := .pointer (some ⟨b11, 0, none⟩)) rfl) rfl ?_
                 replace hp := bind_some hp; obtain ⟨r28, hr28, hp⟩ := hp
                 refine rc (cl Try.call13 rfl rfl) rfl ?_
                 refine cache_Store_Len_any hc hr28 ?_
                 clear hc; intro w29 hc
                 refine rs (v := .bool (decide (r28 = 0))) (eqd rfl rfl) rfl ?_
                 refine rs (v := .bool (decide (r28 = 0))) (mv (v := .bool (decide (r28 = 0))) rfl) rfl ?_
                 cases hb30 : (decide (r28 = 0))
                 · replace hp := gneg hp (of_decide_eq_false hb30)
                   refine r0 rfl ?_
                   refine r0 rfl ?_
                   refine r0 rfl ?_
                   refine r0 rfl ?_
                   refine r0 rfl ?_
                   refine r0 rfl ?_
                   refine r0 rfl ?_
                   refine rs (v := .bool false) (pkf (v := .bool false) rfl rfl) rfl ?_
                   refine rs (v := .bool false) (av (v := .bool false) rfl) rfl ?_
                   refine rn ?_
                   refine qn ?_
                   refine Wret ?_
                   replace hc := hc.rem 0 rfl rfl
                   injection hp with hp; subst hp
                   refine f1 (v := .bool false) Try.results4 Try.ntmps4 rfl ?_
                   exact ⟨_, rfl, k _ hc⟩
                 · replace hp := gpos hp (of_decide_eq_true hb30)
                   refine rs (v := .int .i64 e4) (mv (v := .int .i64 e4) rfl) rfl ?_
                   refine rs (v := .bool (decide (e4 = 0))) (eqd rfl rfl) rfl ?_
                   refine rs (v := .pointer (some ⟨b11, 0, none⟩)) (mv (v := .pointer (some ⟨b11, 0, none⟩)) rfl) rfl ?_
                   replace hp := bind_some hp; obtain ⟨r31, hr31, hp⟩ := hp
                   refine rc (cl Try.call9 rfl rfl) rfl ?_
                   refine law12_spot_any hc hr31 ?_
                   clear hc; intro w32 hc
                   replace hc := hc.nilRo (pInt .i8)
                   replace hc := hc.dup (k := 0) rfl rfl
                   replace hc := hc.nilRo (pInt .i8)
                   replace hc := hc.dup (k := 0) rfl rfl
                   replace hp := bind_some hp; obtain ⟨r33, hr33, hp⟩ := hp
                   replace hc := hc.pull 2 rfl rfl
                   replace hc := hc.pull 4 rfl rfl
                   refine rc (cl Try.call11 rfl rfl) rfl ?_
                   refine cache_Store_Put_any reads_ro reads_ro hc hr33 ?_
                   clear hc; intro w34 hc
                   refine rs (v := .bool (decide (r33.1 = 80))) (eqd rfl rfl) rfl ?_
                   refine rs (v := .bool ((decide (e4 = 0)) == (decide (r33.1 = 80)))) (eqb Try.underlying4 rfl rfl) rfl ?_
                   refine rs (v := .bool ((decide (e4 = 0)) == (decide (r33.1 = 80)))) (pkt (v := .bool ((decide (e4 = 0)) == (decide (r33.1 = 80)))) rfl rfl) rfl ?_
                   refine rs (v := .bool ((decide (e4 = 0)) == (decide (r33.1 = 80)))) (av (v := .bool ((decide (e4 = 0)) == (decide (r33.1 = 80)))) rfl) rfl ?_
                   refine rn ?_
                   refine qn ?_
                   refine Wret ?_
                   replace hc := hc.rem 4 rfl rfl
                   replace hc := hc.rem 3 rfl rfl
                   replace hc := hc.rem 2 rfl rfl
                   replace hc := hc.rem 1 rfl rfl
                   replace hc := hc.rem 0 rfl rfl
                   injection hp with hp; subst hp
                   refine f1 (v := .bool ((decide (e4 = 0)) == (decide (r33.1 = 80)))) Try.results4 Try.ntmps4 rfl ?_
                   exact ⟨_, rfl, k _ hc⟩
               · replace hp := gpos hp hb25
                 subst hb25
                 refine Wct rfl ?_
                 refine Wseq ?_
                 refine Wreg ?_
                 refine rs (v := .pointer (some ⟨b11, 0, none⟩)) (mv (v := .pointer (some ⟨b11, 0, none⟩)) rfl) rfl ?_
                 replace hc : Ctx w24 (Hold (pInt .i64) [.int .i64 0] 0 :: S_cache_Store.hp b11 j15 :: Fr) := hc.add _ fun _ _ _ => ⟨rfl, rfl⟩
                 refine rsE (Ctx.builtOp (css := [[.int .i64 0]]) (xs := ([0] : List Int)) (E := (pInt .i64)) hc Try.underlying47 Try.sizeOf3 Try.zeroValue3 rfl rfl rfl rfl rfl rfl rfl rfl) rfl ?_
                 clear hc; rintro _ w36 ⟨a35, rfl, hc⟩
                 replace hp := bind_some hp; obtain ⟨r37, hr37, hp⟩ := hp
                 replace hc := hc.pull 1 rfl rfl
                 refine rc (cl Try.call10 rfl rfl) rfl ?_
                 refine cache_Store_Drop_any reads_own hc hr37 ?_
                 clear hc; intro w38 hc
                 refine rs (v := .int .i64 r37.1) (av (v := .int .i64 r37.1) rfl) rfl ?_
                 refine rn ?_
                 refine qn ?_
                 refine Wseq ?_
                 refine Wreg ?_
                 refine rs (v := .int .i64 r37.1) (mv (v := .int .i64 r37.1) rfl) rfl ?_
                 refine rs (v := .int .i64 e4) (mv (v := .int .i64 e4) rfl) rfl ?_
                 refine rs (v := .int .i64 e14) (mv (v := .int .i64 e14) rfl) rfl ?_
                 refine rs (v := .int .i64 (IntKind.i64.wrap (e4 + e14))) (adw rfl rfl) rfl ?_
                 refine rs (v := .int .i64 (IntKind.i64.wrap ((IntKind.i64.wrap (e4 + e14)) - 1))) (sbw rfl rfl) rfl ?_
                 refine rs (v := .int .i64 e14) (mv (v := .int .i64 e14) rfl) rfl ?_
                 replace hp := chk_some hp; obtain ⟨hg39, hp⟩ := hp
                 refine rs (v := .int .i64 (IntKind.i64.wrap (Int.tdiv (IntKind.i64.wrap ((IntKind.i64.wrap (e4 + e14)) - 1)) e14))) (quw rfl rfl hg39) rfl ?_
                 refine rs (v := .bool (decide (r37.1 = (IntKind.i64.wrap (Int.tdiv (IntKind.i64.wrap ((IntKind.i64.wrap (e4 + e14)) - 1)) e14))))) (eqd rfl rfl) rfl ?_
                 refine rs (v := .bool (decide (r37.1 = (IntKind.i64.wrap (Int.tdiv (IntKind.i64.wrap ((IntKind.i64.wrap (e4 + e14)) - 1)) e14))))) (mv (v := .bool (decide (r37.1 = (IntKind.i64.wrap (Int.tdiv (IntKind.i64.wrap ((IntKind.i64.wrap (e4 + e14)) - 1)) e14))))) rfl) rfl ?_
                 cases hb40 : (decide (r37.1 = (IntKind.i64.wrap (Int.tdiv (IntKind.i64.wrap ((IntKind.i64.wrap (e4 + e14)) - 1)) e14))))
                 · replace hp := gneg hp (of_decide_eq_false hb40)
                   refine r0 rfl ?_
                   refine r0 rfl ?_
                   refine r0 rfl ?_
                   refine r0 rfl ?_
                   refine r0 rfl ?_
                   refine r0 rfl ?_
                   refine rs (v := .bool false) (pkf (v := .bool false) rfl rfl) rfl ?_
                   refine rs (v := .bool false) (mv (v := .bool false) rfl) rfl ?_
                   refine r0 rfl ?_
                   refine r0 rfl ?_
                   refine r0 rfl ?_
                   refine r0 rfl ?_
                   refine rs (v := .bool false) (pkf (v := .bool false) rfl rfl) rfl ?_
                   refine rs (v := .bool false) (av (v := .bool false) rfl) rfl ?_
                   refine rn ?_
                   refine qn ?_
                   refine Wret ?_
                   refine qr ?_
                   replace hc := hc.rem 1 rfl rfl
                   replace hc := hc.rem 0 rfl rfl
                   injection hp with hp; subst hp
                   refine f1 (v := .bool false) Try.results4 Try.ntmps4 rfl ?_
                   exact ⟨_, rfl, k _ hc⟩
                 · replace hp := gpos hp (of_decide_eq_true hb40)
                   refine rs (v := .pointer (some ⟨b11, 0, none⟩)) (mv (v := .pointer (some ⟨b11, 0, none⟩)) rfl) rfl ?_
                   replace hp := bind_some hp; obtain ⟨r41, hr41, hp⟩ := hp
                   refine rc (cl Try.call13 rfl rfl) rfl ?_
                   refine cache_Store_Len_any hc hr41 ?_
                   clear hc; intro w42 hc
                   refine rs (v := .int .i64 e4) (mv (v := .int .i64 e4) rfl) rfl ?_
                   refine rs (v := .int .i64 r37.1) (mv (v := .int .i64 r37.1) rfl) rfl ?_
                   refine rs (v := .int .i64 (IntKind.i64.wrap (e4 - r37.1))) (sbw rfl rfl) rfl ?_
                   refine rs (v := .bool (decide (r41 = (IntKind.i64.wrap (e4 - r37.1))))) (eqd rfl rfl) rfl ?_
                   refine rs (v := .bool (decide (r41 = (IntKind.i64.wrap (e4 - r37.1))))) (pkt (v := .bool (decide (r41 = (IntKind.i64.wrap (e4 - r37.1))))) rfl rfl) rfl ?_
                   refine rs (v := .bool (decide (r41 = (IntKind.i64.wrap (e4 - r37.1))))) (mv (v := .bool (decide (r41 = (IntKind.i64.wrap (e4 - r37.1))))) rfl) rfl ?_
                   cases hb43 : (decide (r41 = (IntKind.i64.wrap (e4 - r37.1))))
                   · replace hp := gneg hp (of_decide_eq_false hb43)
                     refine r0 rfl ?_
                     refine r0 rfl ?_
                     refine r0 rfl ?_
                     refine r0 rfl ?_
                     refine rs (v := .bool false) (pkf (v := .bool false) rfl rfl) rfl ?_
                     refine rs (v := .bool false) (av (v := .bool false) rfl) rfl ?_
                     refine rn ?_
                     refine qn ?_
                     refine Wret ?_
                     refine qr ?_
                     replace hc := hc.rem 1 rfl rfl
                     replace hc := hc.rem 0 rfl rfl
                     injection hp with hp; subst hp
                     refine f1 (v := .bool false) Try.results4 Try.ntmps4 rfl ?_
                     exact ⟨_, rfl, k _ hc⟩
                   · replace hp := gpos hp (of_decide_eq_true hb43)
                     refine rs (v := .pointer (some ⟨b11, 0, none⟩)) (mv (v := .pointer (some ⟨b11, 0, none⟩)) rfl) rfl ?_
                     replace hp := bind_some hp; obtain ⟨r44, hr44, hp⟩ := hp
                     refine rc (cl Try.call9 rfl rfl) rfl ?_
                     refine law12_spot_any hc hr44 ?_
                     clear hc; intro w45 hc
                     replace hc := hc.nilRo (pInt .i8)
                     replace hc := hc.dup (k := 0) rfl rfl
                     replace hc := hc.nilRo (pInt .i8)
                     replace hc := hc.dup (k := 0) rfl rfl
                     replace hp := bind_some hp; obtain ⟨r46, hr46, hp⟩ := hp
                     replace hc := hc.pull 2 rfl rfl
                     replace hc := hc.pull 4 rfl rfl
                     refine rc (cl Try.call11 rfl rfl) rfl ?_
                     refine cache_Store_Put_any reads_ro reads_ro hc hr46 ?_
                     clear hc; intro w47 hc
                     refine rs (v := .bool (decide (r46.1 = 0))) (eqd rfl rfl) rfl ?_
                     refine rs (v := .bool (decide (r46.1 = 0))) (pkt (v := .bool (decide (r46.1 = 0))) rfl rfl) rfl ?_
                     refine rs (v := .bool (decide (r46.1 = 0))) (av (v := .bool (decide (r46.1 = 0))) rfl) rfl ?_
                     refine rn ?_
                     refine qn ?_
                     refine Wret ?_
                     refine qr ?_
                     replace hc := hc.rem 5 rfl rfl
                     replace hc := hc.rem 4 rfl rfl
                     replace hc := hc.rem 3 rfl rfl
                     replace hc := hc.rem 2 rfl rfl
                     replace hc := hc.rem 1 rfl rfl
                     replace hc := hc.rem 0 rfl rfl
                     injection hp with hp; subst hp
                     refine f1 (v := .bool (decide (r46.1 = 0))) Try.results4 Try.ntmps4 rfl ?_
                     exact ⟨_, rfl, k _ hc⟩
           · replace hp := gpos hp (of_decide_eq_true hb21)
             refine Wct rfl ?_
             refine Wseq ?_
             refine Wreg ?_
             refine rs (v := .bool false) (av (v := .bool false) rfl) rfl ?_
             refine rn ?_
             refine qn ?_
             refine Wret ?_
             refine qr ?_
             replace hc := hc.rem 0 rfl rfl
             injection hp with hp; subst hp
             refine f1 (v := .bool false) Try.results4 Try.ntmps4 rfl ?_
             exact ⟨_, rfl, k _ hc⟩
         · replace hp := gpos hp (of_decide_eq_true hb18)
           refine Wct rfl ?_
           refine Wskip ?_
           refine qn ?_
           refine Wseq ?_
           refine Wblk ?_
           refine Wseqm [12, 42, 43, 44, 45, 46, 47, 48, 49, 50, 51, 52, 53, 54] [12] (fun vs w' => ∃ j48 : S_cache_Store, ∃ j49 : Int, vs = [.int .i64 j49] ∧ law12_CacheFills.J3 N e4 e14 j16 (law12_CacheFills.L1 N x2 e4 e14 m1) j48 j49 = some r ∧ Ctx w' (S_cache_Store.hp b11 j48 :: Fr)) ?_ ?_
           · replace hp := chk_some hp; obtain ⟨hg100084, hp⟩ := hp
             replace hp := bind_some hp; obtain ⟨r100085, hr100085, hp⟩ := hp
             replace hp := bind_some hp; obtain ⟨r100086, hr100086, hp⟩ := hp
             refine Wrg rfl ?_
             refine RGsplit 7 10 rfl ?_ ?_
             · refine RGsplit 7 11 rfl ?_ ?_
               · refine RGsplit 10 11 rfl ?_ ?_
                 · replace hc := hc.drew
                   refine RGleaf [0, 1, 2, 3, 4, 5, 6, 7, 8, 9, 10, 11, 12, 13] (fun j w' => True) [0, 0, 0, 6, 0, 0, 48, 126, 0, 256, 1022, 2046, 4095, 8191] 0 0 (by kernel_rfl) (by kernel_rfl) (fun _ _ => trivial) ?_
                   generalize hw : World.drew w17 = w50 at *
                   clear hw
                   refine ds (v := .pointer (some ⟨b11, 0, none⟩)) rfl (fun w' hF => mv (v := .pointer (some ⟨b11, 0, none⟩)) rfl) rfl ?_
                   refine ds (v := .int .i64 j16) rfl (fun w' hF => mv (v := .int .i64 j16) rfl) rfl ?_
                   refine ds (v := .int .i64 e14) rfl (fun w' hF => mv (v := .int .i64 e14) rfl) rfl ?_
                   refine ds (v := .int .i64 (Int.tmod j16 e14)) rfl (fun w' hF => rm rfl rfl hg100084) rfl ?_
                   refine ds (v := .int .i64 j16) rfl (fun w' hF => mv (v := .int .i64 j16) rfl) rfl ?_
                   refine ds (v := .int .i64 e14) rfl (fun w' hF => mv (v := .int .i64 e14) rfl) rfl ?_
                   refine ds (v := .int .i64 (IntKind.i64.wrap (Int.tdiv j16 e14))) rfl (fun w' hF => quw rfl rfl hg100084) rfl ?_
                   refine dc (cl Try.call9 rfl rfl) rfl rfl ?_
                   refine law12_spot_any hc hr100085 ?_
                   clear hc; intro w51 hc
                   refine ⟨fun j hj hb => trivial, ?_⟩
                   refine ds (v := .int .i64 j16) rfl (fun w' hF => mv (v := .int .i64 j16) rfl) rfl ?_
                   refine ds (v := .int .i8 (IntKind.i8.wrap j16)) rfl (fun w' hF => cvi rfl Try.underlying3 Try.underlying42) rfl ?_
                   replace hc : Ctx w51 (Hold (pInt .i8) [.int .i8 (IntKind.i8.wrap j16)] (IntKind.i8.wrap j16) :: S_cache_Store.hp b11 j15 :: Fr) := hc.add _ fun _ _ _ => ⟨rfl, rfl⟩
                   refine deE (Ctx.builtOp (css := [[.int .i8 (IntKind.i8.wrap j16)]]) (xs := ([(IntKind.i8.wrap j16)] : List Int)) (E := (pInt .i8)) hc Try.underlying31 Try.sizeOf42 Try.zeroValue42 rfl rfl rfl rfl rfl rfl rfl rfl) rfl rfl ?_
                   clear hc; rintro _ w53 ⟨a52, rfl, hc⟩
                   refine ⟨fun j hj hb => trivial, ?_⟩
                   replace hc : Ctx w53 (Hold (pInt .i8) [.int .i8 1] 1 :: Own (pInt .i8) 42 (.slice a52 1 1) ([(IntKind.i8.wrap j16)]) :: S_cache_Store.hp b11 j15 :: Fr) := hc.add _ fun _ _ _ => ⟨rfl, rfl⟩
                   refine deE (Ctx.builtOp (css := [[.int .i8 1]]) (xs := ([1] : List Int)) (E := (pInt .i8)) hc Try.underlying31 Try.sizeOf42 Try.zeroValue42 rfl rfl rfl rfl rfl rfl rfl rfl) rfl rfl ?_
                   clear hc; rintro _ w55 ⟨a54, rfl, hc⟩
                   refine ⟨fun j hj hb => trivial, ?_⟩
                   replace hc := hc.pull 1 rfl rfl
                   replace hc := hc.pull 2 rfl rfl
                   refine dc (cl Try.call11 rfl rfl) rfl rfl ?_
                   refine cache_Store_Put_any reads_own reads_own hc hr100086 ?_
                   clear hc; intro w56 hc
                   refine ⟨fun j hj hb => trivial, ?_⟩
                   refine ds (v := .int .i64 r100086.1) rfl (fun w' hF => av (v := .int .i64 r100086.1) rfl) rfl ?_
                   refine dn ?_
                   refine qn ?_
                   replace hc := hc.rem 2 rfl rfl
                   replace hc := hc.rem 1 rfl rfl
                   exact ⟨⟨r100086.2, r100086.1, rfl, hp, hc⟩, (kl rfl kb)⟩
                 · replace hc := hc.drew
                   refine RGleaf [0, 1, 2, 3, 4, 5, 6, 7, 8, 9, 11, 10, 12, 13] (fun j w' => True) [0, 0, 0, 6, 0, 0, 48, 126, 0, 256, 254, 2046, 4095, 8191] 0 0 (by kernel_rfl) (by kernel_rfl) (fun _ _ => trivial) ?_
                   generalize hw : World.drew w17 = w57 at *
                   clear hw
                   refine ds (v := .pointer (some ⟨b11, 0, none⟩)) rfl (fun w' hF => mv (v := .pointer (some ⟨b11, 0, none⟩)) rfl) rfl ?_
                   refine ds (v := .int .i64 j16) rfl (fun w' hF => mv (v := .int .i64 j16) rfl) rfl ?_
                   refine ds (v := .int .i64 e14) rfl (fun w' hF => mv (v := .int .i64 e14) rfl) rfl ?_
                   refine ds (v := .int .i64 (Int.tmod j16 e14)) rfl (fun w' hF => rm rfl rfl hg100084) rfl ?_
                   refine ds (v := .int .i64 j16) rfl (fun w' hF => mv (v := .int .i64 j16) rfl) rfl ?_
                   refine ds (v := .int .i64 e14) rfl (fun w' hF => mv (v := .int .i64 e14) rfl) rfl ?_
                   refine ds (v := .int .i64 (IntKind.i64.wrap (Int.tdiv j16 e14))) rfl (fun w' hF => quw rfl rfl hg100084) rfl ?_
                   refine dc (cl Try.call9 rfl rfl) rfl rfl ?_
                   refine law12_spot_any hc hr100085 ?_
                   clear hc; intro w58 hc
                   refine ⟨fun j hj hb => trivial, ?_⟩
                   refine ds (v := .int .i64 j16) rfl (fun w' hF => mv (v := .int .i64 j16) rfl) rfl ?_
                   refine ds (v := .int .i8 (IntKind.i8.wrap j16)) rfl (fun w' hF => cvi rfl Try.underlying3 Try.underlying42) rfl ?_
                   replace hc : Ctx w58 (Hold (pInt .i8) [.int .i8 1] 1 :: S_cache_Store.hp b11 j15 :: Fr) := hc.add _ fun _ _ _ => ⟨rfl, rfl⟩
                   refine deE (Ctx.builtOp (css := [[.int .i8 1]]) (xs := ([1] : List Int)) (E := (pInt .i8)) hc Try.underlying31 Try.sizeOf42 Try.zeroValue42 rfl rfl rfl rfl rfl rfl rfl rfl) rfl rfl ?_
                   clear hc; rintro _ w60 ⟨a59, rfl, hc⟩
                   refine ⟨fun j hj hb => trivial, ?_⟩
                   replace hc : Ctx w60 (Hold (pInt .i8) [.int .i8 (IntKind.i8.wrap j16)] (IntKind.i8.wrap j16) :: Own (pInt .i8) 42 (.slice a59 1 1) ([1]) :: S_cache_Store.hp b11 j15 :: Fr) := hc.add _ fun _ _ _ => ⟨rfl, rfl⟩
                   refine deE (Ctx.builtOp (css := [[.int .i8 (IntKind.i8.wrap j16)]]) (xs := ([(IntKind.i8.wrap j16)] : List Int)) (E := (pInt .i8)) hc Try.underlying31 Try.sizeOf42 Try.zeroValue42 rfl rfl rfl rfl rfl rfl rfl rfl) rfl rfl ?_
                   clear hc; rintro _ w62 ⟨a61, rfl, hc⟩
                   refine ⟨fun j hj hb => trivial, ?_⟩
                   replace hc := hc.pull 1 rfl rfl
                   replace hc := hc.pull 1 rfl rfl
                   replace hc := hc.pull 2 rfl rfl
                   refine dc (cl Try.call11 rfl rfl) rfl rfl ?_
                   refine cache_Store_Put_any reads_own reads_own hc hr100086 ?_
                   clear hc; intro w63 hc
                   refine ⟨fun j hj hb => trivial, ?_⟩
                   refine ds (v := .int .i64 r100086.1) rfl (fun w' hF => av (v := .int .i64 r100086.1) rfl) rfl ?_
                   refine dn ?_
                   refine qn ?_
                   replace hc := hc.rem 2 rfl rfl
                   replace hc := hc.rem 1 rfl rfl
                   exact ⟨⟨r100086.2, r100086.1, rfl, hp, hc⟩, (kl rfl kb)⟩
               · replace hc := hc.drew
                 refine RGleaf [0, 1, 2, 3, 4, 5, 6, 8, 9, 11, 7, 10, 12, 13] (fun j w' => True) [0, 0, 0, 6, 0, 0, 48, 0, 128, 0, 638, 2046, 4095, 8191] 0 0 (by kernel_rfl) (by kernel_rfl) (fun _ _ => trivial) ?_
                 generalize hw : World.drew w17 = w64 at *
                 clear hw
                 refine ds (v := .pointer (some ⟨b11, 0, none⟩)) rfl (fun w' hF => mv (v := .pointer (some ⟨b11, 0, none⟩)) rfl) rfl ?_
                 refine ds (v := .int .i64 j16) rfl (fun w' hF => mv (v := .int .i64 j16) rfl) rfl ?_
                 refine ds (v := .int .i64 e14) rfl (fun w' hF => mv (v := .int .i64 e14) rfl) rfl ?_
                 refine ds (v := .int .i64 (Int.tmod j16 e14)) rfl (fun w' hF => rm rfl rfl hg100084) rfl ?_
                 refine ds (v := .int .i64 j16) rfl (fun w' hF => mv (v := .int .i64 j16) rfl) rfl ?_
                 refine ds (v := .int .i64 e14) rfl (fun w' hF => mv (v := .int .i64 e14) rfl) rfl ?_
                 refine ds (v := .int .i64 (IntKind.i64.wrap (Int.tdiv j16 e14))) rfl (fun w' hF => quw rfl rfl hg100084) rfl ?_
                 refine ds (v := .int .i64 j16) rfl (fun w' hF => mv (v := .int .i64 j16) rfl) rfl ?_
                 refine ds (v := .int .i8 (IntKind.i8.wrap j16)) rfl (fun w' hF => cvi rfl Try.underlying3 Try.underlying42) rfl ?_
                 replace hc : Ctx w64 (Hold (pInt .i8) [.int .i8 1] 1 :: S_cache_Store.hp b11 j15 :: Fr) := hc.add _ fun _ _ _ => ⟨rfl, rfl⟩
                 refine deE (Ctx.builtOp (css := [[.int .i8 1]]) (xs := ([1] : List Int)) (E := (pInt .i8)) hc Try.underlying31 Try.sizeOf42 Try.zeroValue42 rfl rfl rfl rfl rfl rfl rfl rfl) rfl rfl ?_
                 clear hc; rintro _ w66 ⟨a65, rfl, hc⟩
                 refine ⟨fun j hj hb => trivial, ?_⟩
                 refine dc (cl Try.call9 rfl rfl) rfl rfl ?_
                 refine law12_spot_any hc hr100085 ?_
                 clear hc; intro w67 hc
                 refine ⟨fun j hj hb => trivial, ?_⟩
                 replace hc : Ctx w67 (Hold (pInt .i8) [.int .i8 (IntKind.i8.wrap j16)] (IntKind.i8.wrap j16) :: Own (pInt .i8) 42 (.slice a65 1 1) ([1]) :: S_cache_Store.hp b11 j15 :: Fr) := hc.add _ fun _ _ _ => ⟨rfl, rfl⟩
                 refine deE (Ctx.builtOp (css := [[.int .i8 (IntKind.i8.wrap j16)]]) (xs := ([(IntKind.i8.wrap j16)] : List Int)) (E := (pInt .i8)) hc Try.underlying31 Try.sizeOf42 Try.zeroValue42 rfl rfl rfl rfl rfl rfl rfl rfl) rfl rfl ?_
                 clear hc; rintro _ w69 ⟨a68, rfl, hc⟩
                 refine ⟨fun j hj hb => trivial, ?_⟩
                 replace hc := hc.pull 1 rfl rfl
                 replace hc := hc.pull 1 rfl rfl
                 replace hc := hc.pull 2 rfl rfl
                 refine dc (cl Try.call11 rfl rfl) rfl rfl ?_
                 refine cache_Store_Put_any reads_own reads_own hc hr100086 ?_
                 clear hc; intro w70 hc
                 refine ⟨fun j hj hb => trivial, ?_⟩
                 refine ds (v := .int .i64 r100086.1) rfl (fun w' hF => av (v := .int .i64 r100086.1) rfl) rfl ?_
                 refine dn ?_
                 refine qn ?_
                 replace hc := hc.rem 2 rfl rfl
                 replace hc := hc.rem 1 rfl rfl
                 exact ⟨⟨r100086.2, r100086.1, rfl, hp, hc⟩, (kl rfl kb)⟩
             · refine RGsplit 7 11 rfl ?_ ?_
               · replace hc := hc.drew
                 refine RGleaf [0, 1, 2, 3, 4, 5, 6, 8, 9, 10, 7, 11, 12, 13] (fun j w' => True) [0, 0, 0, 6, 0, 0, 48, 0, 128, 384, 1022, 2046, 4095, 8191] 0 0 (by kernel_rfl) (by kernel_rfl) (fun _ _ => trivial) ?_
                 generalize hw : World.drew w17 = w71 at *
                 clear hw
                 refine ds (v := .pointer (some ⟨b11, 0, none⟩)) rfl (fun w' hF => mv (v := .pointer (some ⟨b11, 0, none⟩)) rfl) rfl ?_
                 refine ds (v := .int .i64 j16) rfl (fun w' hF => mv (v := .int .i64 j16) rfl) rfl ?_
                 refine ds (v := .int .i64 e14) rfl (fun w' hF => mv (v := .int .i64 e14) rfl) rfl ?_
                 refine ds (v := .int .i64 (Int.tmod j16 e14)) rfl (fun w' hF => rm rfl rfl hg100084) rfl ?_
                 refine ds (v := .int .i64 j16) rfl (fun w' hF => mv (v := .int .i64 j16) rfl) rfl ?_
                 refine ds (v := .int .i64 e14) rfl (fun w' hF => mv (v := .int .i64 e14) rfl) rfl ?_
                 refine ds (v := .int .i64 (IntKind.i64.wrap (Int.tdiv j16 e14))) rfl (fun w' hF => quw rfl rfl hg100084) rfl ?_
                 refine ds (v := .int .i64 j16) rfl (fun w' hF => mv (v := .int .i64 j16) rfl) rfl ?_
                 refine ds (v := .int .i8 (IntKind.i8.wrap j16)) rfl (fun w' hF => cvi rfl Try.underlying3 Try.underlying42) rfl ?_
                 replace hc : Ctx w71 (Hold (pInt .i8) [.int .i8 (IntKind.i8.wrap j16)] (IntKind.i8.wrap j16) :: S_cache_Store.hp b11 j15 :: Fr) := hc.add _ fun _ _ _ => ⟨rfl, rfl⟩
                 refine deE (Ctx.builtOp (css := [[.int .i8 (IntKind.i8.wrap j16)]]) (xs := ([(IntKind.i8.wrap j16)] : List Int)) (E := (pInt .i8)) hc Try.underlying31 Try.sizeOf42 Try.zeroValue42 rfl rfl rfl rfl rfl rfl rfl rfl) rfl rfl ?_
                 clear hc; rintro _ w73 ⟨a72, rfl, hc⟩
                 refine ⟨fun j hj hb => trivial, ?_⟩
                 refine dc (cl Try.call9 rfl rfl) rfl rfl ?_
                 refine law12_spot_any hc hr100085 ?_
                 clear hc; intro w74 hc
                 refine ⟨fun j hj hb => trivial, ?_⟩
                 replace hc : Ctx w74 (Hold (pInt .i8) [.int .i8 1] 1 :: Own (pInt .i8) 42 (.slice a72 1 1) ([(IntKind.i8.wrap j16)]) :: S_cache_Store.hp b11 j15 :: Fr) := hc.add _ fun _ _ _ => ⟨rfl, rfl⟩
                 refine deE (Ctx.builtOp (css := [[.int .i8 1]]) (xs := ([1] : List Int)) (E := (pInt .i8)) hc Try.underlying31 Try.sizeOf42 Try.zeroValue42 rfl rfl rfl rfl rfl rfl rfl rfl) rfl rfl ?_
                 clear hc; rintro _ w76 ⟨a75, rfl, hc⟩
                 refine ⟨fun j hj hb => trivial, ?_⟩
                 replace hc := hc.pull 1 rfl rfl
                 replace hc := hc.pull 2 rfl rfl
                 refine dc (cl Try.call11 rfl rfl) rfl rfl ?_
                 refine cache_Store_Put_any reads_own reads_own hc hr100086 ?_
                 clear hc; intro w77 hc
                 refine ⟨fun j hj hb => trivial, ?_⟩
                 refine ds (v := .int .i64 r100086.1) rfl (fun w' hF => av (v := .int .i64 r100086.1) rfl) rfl ?_
                 refine dn ?_
                 refine qn ?_
                 replace hc := hc.rem 2 rfl rfl
                 replace hc := hc.rem 1 rfl rfl
                 exact ⟨⟨r100086.2, r100086.1, rfl, hp, hc⟩, (kl rfl kb)⟩
               · refine RGsplit 10 11 rfl ?_ ?_
                 · replace hc := hc.drew
                   refine RGleaf [0, 1, 2, 3, 4, 5, 6, 8, 9, 10, 11, 7, 12, 13] (fun j w' => True) [0, 0, 0, 6, 0, 0, 48, 0, 128, 384, 896, 2046, 4095, 8191] 0 0 (by kernel_rfl) (by kernel_rfl) (fun _ _ => trivial) ?_
                   generalize hw : World.drew w17 = w78 at *
                   clear hw
                   refine ds (v := .pointer (some ⟨b11, 0, none⟩)) rfl (fun w' hF => mv (v := .pointer (some ⟨b11, 0, none⟩)) rfl) rfl ?_
                   refine ds (v := .int .i64 j16) rfl (fun w' hF => mv (v := .int .i64 j16) rfl) rfl ?_
                   refine ds (v := .int .i64 e14) rfl (fun w' hF => mv (v := .int .i64 e14) rfl) rfl ?_
                   refine ds (v := .int .i64 (Int.tmod j16 e14)) rfl (fun w' hF => rm rfl rfl hg100084) rfl ?_
                   refine ds (v := .int .i64 j16) rfl (fun w' hF => mv (v := .int .i64 j16) rfl) rfl ?_
                   refine ds (v := .int .i64 e14) rfl (fun w' hF => mv (v := .int .i64 e14) rfl) rfl ?_
                   refine ds (v := .int .i64 (IntKind.i64.wrap (Int.tdiv j16 e14))) rfl (fun w' hF => quw rfl rfl hg100084) rfl ?_
                   refine ds (v := .int .i64 j16) rfl (fun w' hF => mv (v := .int .i64 j16) rfl) rfl ?_
                   refine ds (v := .int .i8 (IntKind.i8.wrap j16)) rfl (fun w' hF => cvi rfl Try.underlying3 Try.underlying42) rfl ?_
                   replace hc : Ctx w78 (Hold (pInt .i8) [.int .i8 (IntKind.i8.wrap j16)] (IntKind.i8.wrap j16) :: S_cache_Store.hp b11 j15 :: Fr) := hc.add _ fun _ _ _ => ⟨rfl, rfl⟩
                   refine deE (Ctx.builtOp (css := [[.int .i8 (IntKind.i8.wrap j16)]]) (xs := ([(IntKind.i8.wrap j16)] : List Int)) (E := (pInt .i8)) hc Try.underlying31 Try.sizeOf42 Try.zeroValue42 rfl rfl rfl rfl rfl rfl rfl rfl) rfl rfl ?_
                   clear hc; rintro _ w80 ⟨a79, rfl, hc⟩
                   refine ⟨fun j hj hb => trivial, ?_⟩
                   replace hc : Ctx w80 (Hold (pInt .i8) [.int .i8 1] 1 :: Own (pInt .i8) 42 (.slice a79 1 1) ([(IntKind.i8.wrap j16)]) :: S_cache_Store.hp b11 j15 :: Fr) := hc.add _ fun _ _ _ => ⟨rfl, rfl⟩
                   refine deE (Ctx.builtOp (css := [[.int .i8 1]]) (xs := ([1] : List Int)) (E := (pInt .i8)) hc Try.underlying31 Try.sizeOf42 Try.zeroValue42 rfl rfl rfl rfl rfl rfl rfl rfl) rfl rfl ?_
                   clear hc; rintro _ w82 ⟨a81, rfl, hc⟩
                   refine ⟨fun j hj hb => trivial, ?_⟩
                   refine dc (cl Try.call9 rfl rfl) rfl rfl ?_
                   refine law12_spot_any hc hr100085 ?_
                   clear hc; intro w83 hc
                   refine ⟨fun j hj hb => trivial, ?_⟩
                   replace hc := hc.pull 1 rfl rfl
                   replace hc := hc.pull 2 rfl rfl
                   refine dc (cl Try.call11 rfl rfl) rfl rfl ?_
                   refine cache_Store_Put_any reads_own reads_own hc hr100086 ?_
                   clear hc; intro w84 hc
                   refine ⟨fun j hj hb => trivial, ?_⟩
                   refine ds (v := .int .i64 r100086.1) rfl (fun w' hF => av (v := .int .i64 r100086.1) rfl) rfl ?_
                   refine dn ?_
                   refine qn ?_
                   replace hc := hc.rem 2 rfl rfl
                   replace hc := hc.rem 1 rfl rfl
                   exact ⟨⟨r100086.2, r100086.1, rfl, hp, hc⟩, (kl rfl kb)⟩
                 · replace hc := hc.drew
                   refine RGleaf [0, 1, 2, 3, 4, 5, 6, 8, 9, 11, 10, 7, 12, 13] (fun j w' => True) [0, 0, 0, 6, 0, 0, 48, 0, 128, 0, 896, 2046, 4095, 8191] 0 0 (by kernel_rfl) (by kernel_rfl) (fun _ _ => trivial) ?_
                   generalize hw : World.drew w17 = w85 at *
                   clear hw
                   refine ds (v := .pointer (some ⟨b11, 0, none⟩)) rfl (fun w' hF => mv (v := .pointer (some ⟨b11, 0, none⟩)) rfl) rfl ?_
                   refine ds (v := .int .i64 j16) rfl (fun w' hF => mv (v := .int .i64 j16) rfl) rfl ?_
                   refine ds (v := .int .i64 e14) rfl (fun w' hF => mv (v := .int .i64 e14) rfl) rfl ?_
                   refine ds (v := .int .i64 (Int.tmod j16 e14)) rfl (fun w' hF => rm rfl rfl hg100084) rfl ?_
                   refine ds (v := .int .i64 j16) rfl (fun w' hF => mv (v := .int .i64 j16) rfl) rfl ?_
                   refine ds (v := .int .i64 e14) rfl (fun w' hF => mv (v := .int .i64 e14) rfl) rfl ?_
                   refine ds (v := .int .i64 (IntKind.i64.wrap (Int.tdiv j16 e14))) rfl (fun w' hF => quw rfl rfl hg100084) rfl ?_
                   refine ds (v := .int .i64 j16) rfl (fun w' hF => mv (v := .int .i64 j16) rfl) rfl ?_
                   refine ds (v := .int .i8 (IntKind.i8.wrap j16)) rfl (fun w' hF => cvi rfl Try.underlying3 Try.underlying42) rfl ?_
                   replace hc : Ctx w85 (Hold (pInt .i8) [.int .i8 1] 1 :: S_cache_Store.hp b11 j15 :: Fr) := hc.add _ fun _ _ _ => ⟨rfl, rfl⟩
                   refine deE (Ctx.builtOp (css := [[.int .i8 1]]) (xs := ([1] : List Int)) (E := (pInt .i8)) hc Try.underlying31 Try.sizeOf42 Try.zeroValue42 rfl rfl rfl rfl rfl rfl rfl rfl) rfl rfl ?_
                   clear hc; rintro _ w87 ⟨a86, rfl, hc⟩
                   refine ⟨fun j hj hb => trivial, ?_⟩
                   replace hc : Ctx w87 (Hold (pInt .i8) [.int .i8 (IntKind.i8.wrap j16)] (IntKind.i8.wrap j16) :: Own (pInt .i8) 42 (.slice a86 1 1) ([1]) :: S_cache_Store.hp b11 j15 :: Fr) := hc.add _ fun _ _ _ => ⟨rfl, rfl⟩
                   refine deE (Ctx.builtOp (css := [[.int .i8 (IntKind.i8.wrap j16)]]) (xs := ([(IntKind.i8.wrap j16)] : List Int)) (E := (pInt .i8)) hc Try.underlying31 Try.sizeOf42 Try.zeroValue42 rfl rfl rfl rfl rfl rfl rfl rfl) rfl rfl ?_
                   clear hc; rintro _ w89 ⟨a88, rfl, hc⟩
                   refine ⟨fun j hj hb => trivial, ?_⟩
                   refine dc (cl Try.call9 rfl rfl) rfl rfl ?_
                   refine law12_spot_any hc hr100085 ?_
                   clear hc; intro w90 hc
                   refine ⟨fun j hj hb => trivial, ?_⟩
                   replace hc := hc.pull 1 rfl rfl
                   replace hc := hc.pull 1 rfl rfl
                   replace hc := hc.pull 2 rfl rfl
                   refine dc (cl Try.call11 rfl rfl) rfl rfl ?_
                   refine cache_Store_Put_any reads_own reads_own hc hr100086 ?_
                   clear hc; intro w91 hc
                   refine ⟨fun j hj hb => trivial, ?_⟩
                   refine ds (v := .int .i64 r100086.1) rfl (fun w' hF => av (v := .int .i64 r100086.1) rfl) rfl ?_
                   refine dn ?_
                   refine qn ?_
                   replace hc := hc.rem 2 rfl rfl
                   replace hc := hc.rem 1 rfl rfl
                   exact ⟨⟨r100086.2, r100086.1, rfl, hp, hc⟩, (kl rfl kb)⟩
           · clear hp hc; intro vs u w92 hJ
             obtain ⟨j48, j49, rfl, hp, hc⟩ := hJ
             unfold law12_CacheFills.J3 at hp
             refine Wseq ?_
             refine Wseqm [55, 56, 57, 58, 59, 60, 61, 62, 63, 64, 65, 66, 67, 68, 69, 70, 71, 72, 73, 74] [74] (fun vs w' => ∃ j93 : Bool, vs = [.bool j93] ∧ law12_CacheFills.J4 N e4 e14 j16 j48 (law12_CacheFills.L1 N x2 e4 e14 m1) j93 = some r ∧ Ctx w' (S_cache_Store.hp b11 j48 :: Fr)) ?_ ?_
             · refine Wreg ?_
               refine rs (v := .int .i64 j16) (mv (v := .int .i64 j16) rfl) rfl ?_
               refine rs (v := .int .i64 e4) (mv (v := .int .i64 e4) rfl) rfl ?_
               refine rs (v := .bool (decide (j16 < e4))) (lt' rfl rfl) rfl ?_
               refine rs (v := .bool (decide (j16 < e4))) (mv (v := .bool (decide (j16 < e4))) rfl) rfl ?_
               cases hb94 : (decide (j16 < e4))
               · replace hp := gneg hp (of_decide_eq_false hb94)
                 refine r0 rfl ?_
                 refine r0 rfl ?_
                 refine rs (v := .bool false) (pkf (v := .bool false) rfl rfl) rfl ?_
                 refine rs (v := .bool false) (mv (v := .bool false) rfl) rfl ?_
                 refine rs (v := .int .i64 j16) (mv (v := .int .i64 j16) rfl) rfl ?_
                 refine rs (v := .int .i64 e4) (mv (v := .int .i64 e4) rfl) rfl ?_
                 refine rs (v := .bool (decide (j16 ≥ e4))) (ge' rfl rfl) rfl ?_
                 refine rs (v := .bool (decide (j16 ≥ e4))) (mv (v := .bool (decide (j16 ≥ e4))) rfl) rfl ?_
                 cases hb95 : (decide (j16 ≥ e4))
                 · replace hp := gneg hp (of_decide_eq_false hb95)
                   refine r0 rfl ?_
                   refine r0 rfl ?_
                   refine rs (v := .bool false) (pkf (v := .bool false) rfl rfl) rfl ?_
                   refine rs (v := .bool false) (mv (v := .bool false) rfl) rfl ?_
                   refine r0 rfl ?_
                   refine r0 rfl ?_
                   refine rs (v := .bool false) (pkf (v := .bool false) rfl rfl) rfl ?_
                   refine rs (v := .bool false) (pkf (v := .bool false) rfl rfl) rfl ?_
                   refine rn ?_
                   refine qn ?_
                   exact ⟨⟨false, rfl, hp, hc⟩, (kl rfl kb)⟩
                 · replace hp := gpos hp (of_decide_eq_true hb95)
                   refine rs (v := .int .i64 j49) (mv (v := .int .i64 j49) rfl) rfl ?_
                   refine rs (v := .bool (decide (j49 ≠ 80))) (ned rfl rfl) rfl ?_
                   refine rs (v := .bool (decide (j49 ≠ 80))) (pkt (v := .bool (decide (j49 ≠ 80))) rfl rfl) rfl ?_
                   refine rs (v := .bool (decide (j49 ≠ 80))) (mv (v := .bool (decide (j49 ≠ 80))) rfl) rfl ?_
                   cases hb96 : (decide (j49 ≠ 80))
                   · replace hp := gneg hp (of_decide_eq_false hb96)
                     refine r0 rfl ?_
                     refine r0 rfl ?_
                     refine rs (v := .bool false) (pkf (v := .bool false) rfl rfl) rfl ?_
                     refine rs (v := .bool false) (pkf (v := .bool false) rfl rfl) rfl ?_
                     refine rn ?_
                     refine qn ?_
                     exact ⟨⟨false, rfl, hp, hc⟩, (kl rfl kb)⟩
                   · replace hp := gpos hp (of_decide_eq_true hb96)
                     refine rs (v := .int .i64 j49) (mv (v := .int .i64 j49) rfl) rfl ?_
                     refine rs (v := .bool (decide (j49 ≠ 120))) (ned rfl rfl) rfl ?_
                     refine rs (v := .bool (decide (j49 ≠ 120))) (pkt (v := .bool (decide (j49 ≠ 120))) rfl rfl) rfl ?_
                     refine rs (v := .bool (decide (j49 ≠ 120))) (pkf (v := .bool (decide (j49 ≠ 120))) rfl rfl) rfl ?_
                     refine rn ?_
                     refine qn ?_
                     exact ⟨⟨decide (j49 ≠ 120), rfl, hp, hc⟩, (kl rfl kb)⟩
               · replace hp := gpos hp (of_decide_eq_true hb94)
                 refine rs (v := .int .i64 j49) (mv (v := .int .i64 j49) rfl) rfl ?_
                 refine rs (v := .bool (decide (j49 ≠ 0))) (ned rfl rfl) rfl ?_
                 refine rs (v := .bool (decide (j49 ≠ 0))) (pkt (v := .bool (decide (j49 ≠ 0))) rfl rfl) rfl ?_
                 refine rs (v := .bool (decide (j49 ≠ 0))) (mv (v := .bool (decide (j49 ≠ 0))) rfl) rfl ?_
                 cases hb97 : (decide (j49 ≠ 0))
                 · replace hp := gneg hp (of_decide_eq_false hb97)
                   refine rs (v := .int .i64 j16) (mv (v := .int .i64 j16) rfl) rfl ?_
                   refine rs (v := .int .i64 e4) (mv (v := .int .i64 e4) rfl) rfl ?_
                   refine rs (v := .bool (decide (j16 ≥ e4))) (ge' rfl rfl) rfl ?_
                   refine rs (v := .bool (decide (j16 ≥ e4))) (mv (v := .bool (decide (j16 ≥ e4))) rfl) rfl ?_
                   cases hb98 : (decide (j16 ≥ e4))
                   · replace hp := gneg hp (of_decide_eq_false hb98)
                     refine r0 rfl ?_
                     refine r0 rfl ?_
                     refine rs (v := .bool false) (pkf (v := .bool false) rfl rfl) rfl ?_
                     refine rs (v := .bool false) (mv (v := .bool false) rfl) rfl ?_
                     refine r0 rfl ?_
                     refine r0 rfl ?_
                     refine rs (v := .bool false) (pkf (v := .bool false) rfl rfl) rfl ?_
                     refine rs (v := .bool false) (pkf (v := .bool false) rfl rfl) rfl ?_
                     refine rn ?_
                     refine qn ?_
                     exact ⟨⟨false, rfl, hp, hc⟩, (kl rfl kb)⟩
                   · replace hp := gpos hp (of_decide_eq_true hb98)
                     refine rs (v := .int .i64 j49) (mv (v := .int .i64 j49) rfl) rfl ?_
                     refine rs (v := .bool (decide (j49 ≠ 80))) (ned rfl rfl) rfl ?_
                     refine rs (v := .bool (decide (j49 ≠ 80))) (pkt (v := .bool (decide (j49 ≠ 80))) rfl rfl) rfl ?_
                     refine rs (v := .bool (decide (j49 ≠ 80))) (mv (v := .bool (decide (j49 ≠ 80))) rfl) rfl ?_
                     cases hb99 : (decide (j49 ≠ 80))
                     · replace hp := gneg hp (of_decide_eq_false hb99)
                       refine r0 rfl ?_
                       refine r0 rfl ?_
                       refine rs (v := .bool false) (pkf (v := .bool false) rfl rfl) rfl ?_
                       refine rs (v := .bool false) (pkf (v := .bool false) rfl rfl) rfl ?_
                       refine rn ?_
                       refine qn ?_
                       exact ⟨⟨false, rfl, hp, hc⟩, (kl rfl kb)⟩
                     · replace hp := gpos hp (of_decide_eq_true hb99)
                       refine rs (v := .int .i64 j49) (mv (v := .int .i64 j49) rfl) rfl ?_
                       refine rs (v := .bool (decide (j49 ≠ 120))) (ned rfl rfl) rfl ?_
                       refine rs (v := .bool (decide (j49 ≠ 120))) (pkt (v := .bool (decide (j49 ≠ 120))) rfl rfl) rfl ?_
                       refine rs (v := .bool (decide (j49 ≠ 120))) (pkf (v := .bool (decide (j49 ≠ 120))) rfl rfl) rfl ?_
                       refine rn ?_
                       refine qn ?_
                       exact ⟨⟨decide (j49 ≠ 120), rfl, hp, hc⟩, (kl rfl kb)⟩
                 · replace hp := gpos hp (of_decide_eq_true hb97)
                   refine r0 rfl ?_
                   refine r0 rfl ?_
                   refine r0 rfl ?_
                   refine r0 rfl ?_
                   refine r0 rfl ?_
                   refine r0 rfl ?_
                   refine r0 rfl ?_
                   refine r0 rfl ?_
                   refine r0 rfl ?_
                   refine r0 rfl ?_
                   refine r0 rfl ?_
                   refine rs (v := .bool true) (pkt (v := .bool true) rfl rfl) rfl ?_
                   refine rn ?_
                   refine qn ?_
                   exact ⟨⟨true, rfl, hp, hc⟩, (kl rfl kb)⟩
             · clear hp hc; intro vs u w100 hJ
               obtain ⟨j93, rfl, hp, hc⟩ := hJ
               unfold law12_CacheFills.J4 at hp
               cases hb101 : j93
               · replace hp := gneg hp (by rw [hb101]; exact Bool.false_ne_true)
                 subst hb101
                 refine Wcf rfl ?_
                 refine Wskip ?_
                 refine qn ?_
                 refine Wseq ?_
                 refine Wreg ?_
                 refine rs (v := .pointer (some ⟨b11, 0, none⟩)) (mv (v := .pointer (some ⟨b11, 0, none⟩)) rfl) rfl ?_
                 refine rs (v := .int .i64 j16) (mv (v := .int .i64 j16) rfl) rfl ?_
                 refine rs (v := .int .i64 e14) (mv (v := .int .i64 e14) rfl) rfl ?_
                 replace hp := chk_some hp; obtain ⟨hg102, hp⟩ := hp
                 refine rs (v := .int .i64 (Int.tmod j16 e14)) (rm rfl rfl hg102) rfl ?_
                 replace hp := bind_some hp; obtain ⟨r103, hr103, hp⟩ := hp
                 refine rc (cl Try.call12 rfl rfl) rfl ?_
                 refine cache_Store_Line_any hc hr103 ?_
                 clear hc; intro a104 n105 q106 a107 n108 q109 w110 hc
                 obtain ⟨u111, _⟩ := Ctx.rdLen hc (k := 0) rfl rfl reads_own; subst u111
                 obtain ⟨u112, _⟩ := Ctx.rdLen hc (k := 1) rfl rfl reads_own; subst u112
                 refine rs (v := .tuple #[.slice a104 r103.1.length q106, .slice a107 r103.2.length q109]) (mv (v := .tuple #[.slice a104 r103.1.length q106, .slice a107 r103.2.length q109]) rfl) rfl ?_
                 refine rs (v := .slice a104 r103.1.length q106) (ext (v := .slice a104 r103.1.length q106) rfl rfl) rfl ?_
                 refine rs (v := .slice a107 r103.2.length q109) (ext (v := .slice a107 r103.2.length q109) rfl rfl) rfl ?_
                 refine rs (v := .slice a104 r103.1.length q106) (av (v := .slice a104 r103.1.length q106) rfl) rfl ?_
                 refine rs (v := .slice a107 r103.2.length q109) (av (v := .slice a107 r103.2.length q109) rfl) rfl ?_
                 refine rn ?_
                 refine qn ?_
                 refine Wseqm [83, 84, 85, 86, 87, 88, 89, 90, 91, 92, 93, 94] [94] (fun vs w' => ∃ j113 : Bool, vs = [.bool j113] ∧ law12_CacheFills.J5 j16 j48 (law12_CacheFills.L1 N x2 e4 e14 m1) j113 = some r ∧ Ctx w' (S_cache_Store.hp b11 j48 :: Fr)) ?_ ?_
                 · refine Wreg ?_
                   refine rs (v := .int .i64 j16) (mv (v := .int .i64 j16) rfl) rfl ?_
                   refine rs (v := .int .i64 e4) (mv (v := .int .i64 e4) rfl) rfl ?_
                   refine rs (v := .bool (decide (j16 < e4))) (lt' rfl rfl) rfl ?_
                   refine rs (v := .bool (decide (j16 < e4))) (mv (v := .bool (decide (j16 < e4))) rfl) rfl ?_
                   cases hb114 : (decide (j16 < e4))
                   · replace hp := gneg hp (of_decide_eq_false hb114)
                     refine r0 rfl ?_
                     refine r0 rfl ?_
                     refine r0 rfl ?_
                     refine r0 rfl ?_
                     refine r0 rfl ?_
                     refine r0 rfl ?_
                     refine r0 rfl ?_
                     refine rs (v := .bool false) (pkf (v := .bool false) rfl rfl) rfl ?_
                     refine rn ?_
                     refine qn ?_
                     replace hc := hc.rem 1 rfl rfl
                     replace hc := hc.rem 0 rfl rfl
                     exact ⟨⟨false, rfl, hp, hc⟩, (kl rfl kb)⟩
                   · replace hp := gpos hp (of_decide_eq_true hb114)
                     refine rs (v := .slice a104 r103.1.length q106) (mv (v := .slice a104 r103.1.length q106) rfl) rfl ?_
                     refine rs (v := .int .i64 ((r103.1.length : Nat) : Int)) (ln rfl Try.underlying37) rfl ?_
                     refine rs (v := .int .i64 j16) (mv (v := .int .i64 j16) rfl) rfl ?_
                     refine rs (v := .int .i64 e14) (mv (v := .int .i64 e14) rfl) rfl ?_
                     replace hp := chk_some hp; obtain ⟨hg115, hp⟩ := hp
                     refine rs (v := .int .i64 (IntKind.i64.wrap (Int.tdiv j16 e14))) (quw rfl rfl hg115) rfl ?_
                     refine rs (v := .int .i64 (IntKind.i64.wrap ((IntKind.i64.wrap (Int.tdiv j16 e14)) + 1))) (adw rfl rfl) rfl ?_
                     refine rs (v := .bool (decide (((r103.1.length : Nat) : Int) ≠ (IntKind.i64.wrap ((IntKind.i64.wrap (Int.tdiv j16 e14)) + 1))))) (ned rfl rfl) rfl ?_
                     refine rs (v := .bool (decide (((r103.1.length : Nat) : Int) ≠ (IntKind.i64.wrap ((IntKind.i64.wrap (Int.tdiv j16 e14)) + 1))))) (pkt (v := .bool (decide (((r103.1.length : Nat) : Int) ≠ (IntKind.i64.wrap ((IntKind.i64.wrap (Int.tdiv j16 e14)) + 1))))) rfl rfl) rfl ?_
                     refine rn ?_
                     refine qn ?_
                     replace hc := hc.rem 1 rfl rfl
                     replace hc := hc.rem 0 rfl rfl
                     exact ⟨⟨decide (((r103.1.length : Nat) : Int) ≠ (IntKind.i64.wrap ((IntKind.i64.wrap (Int.tdiv j16 e14)) + 1))), rfl, hp, hc⟩, (kl rfl kb)⟩
                 · clear hp hc; intro vs u w116 hJ
                   obtain ⟨j113, rfl, hp, hc⟩ := hJ
                   unfold law12_CacheFills.J5 at hp
                   cases hb117 : j113
                   · replace hp := gneg hp (by rw [hb117]; exact Bool.false_ne_true)
                     subst hb117
                     refine Wcf rfl ?_
                     refine Wskip ?_
                     refine bn ?_
                     refine qn ?_
                     refine Wreg ?_
                     refine rs (v := .int .i64 j16) (mv (v := .int .i64 j16) rfl) rfl ?_
                     refine rs (v := .int .i64 (IntKind.i64.wrap (j16 + 1))) (adw rfl rfl) rfl ?_
                     refine rs (v := .int .i64 (IntKind.i64.wrap (j16 + 1))) (av (v := .int .i64 (IntKind.i64.wrap (j16 + 1))) rfl) rfl ?_
                     refine rn ?_
                     refine qn ?_
                     exact ⟨m1, Nat.lt_succ_self _, ⟨j48, (IntKind.i64.wrap (j16 + 1)), rfl, hp, hc⟩, (kl rfl (km rfl (kl rfl (km rfl (kl rfl (km rfl (kl rfl k0)))))))⟩
                   · replace hp := gpos hp hb117
                     subst hb117
                     refine Wct rfl ?_
                     refine Wseq ?_
                     refine Wreg ?_
                     refine rs (v := .bool false) (av (v := .bool false) rfl) rfl ?_
                     refine rn ?_
                     refine qn ?_
                     refine Wret ?_
                     refine br ?_
                     refine qr ?_
                     refine qr ?_
                     refine br ?_
                     refine qr ?_
                     replace hc := hc.rem 0 rfl rfl
                     injection hp with hp; subst hp
                     refine f1 (v := .bool false) Try.results4 Try.ntmps4 rfl ?_
                     exact ⟨_, rfl, k _ hc⟩
               · replace hp := gpos hp hb101
                 subst hb101
                 refine Wct rfl ?_
                 refine Wseq ?_
                 refine Wreg ?_
                 refine rs (v := .bool false) (av (v := .bool false) rfl) rfl ?_
                 refine rn ?_
                 refine qn ?_
                 refine Wret ?_
                 refine qr ?_
                 refine br ?_
                 refine qr ?_
                 refine qr ?_
                 refine br ?_
                 refine qr ?_
                 replace hc := hc.rem 0 rfl rfl
                 injection hp with hp; subst hp
                 refine f1 (v := .bool false) Try.results4 Try.ntmps4 rfl ?_
                 exact ⟨_, rfl, k _ hc⟩
     · replace hp := gpos hp (of_decide_eq_true hb13)
       refine Wct rfl ?_
       refine Wseq ?_
       refine Wreg ?_
       refine rs (v := .bool false) (av (v := .bool false) rfl) rfl ?_
       refine rn ?_
       refine qn ?_
       refine Wret ?_
       refine qr ?_
       replace hc := hc.rem 0 rfl rfl
       injection hp with hp; subst hp
       refine f1 (v := .bool false) Try.results4 Try.ntmps4 rfl ?_
       exact ⟨_, rfl, k _ hc⟩

end Go.Proofs.Ytdalpckomnkilaa
