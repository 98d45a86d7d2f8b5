/- What the law needs. -/
import Derived.Test.YtdalpckomnkilaaMCacheStaysa
import Derived.Test.YtdalpckomnkilaaMCacheStaysb
import Derived.Test.YtdalpckomnkilaaProg
section
namespace Go.Proofs.Ytdalpckomnkilaa
open Go Go.RowKit Go.Hp
set_option linter.unusedVariables false
set_option linter.unusedSimpArgs false
set_option maxRecDepth 100000
set_option maxHeartbeats 8000000

structure S_api_Spot where
  Request : Int
  Layer : Int
  Place : Int
  deriving DecidableEq

def S_api_Spot.pr : PR S_api_Spot 3 := pC (fun x => [.int .i64 x.Request, .int .i64 x.Layer, .int .i64 x.Place]) (fun _ => rfl) (fun _ => rfl)

structure S_cache_rows where
  k : (List Int)
  v : (List Int)
  deriving DecidableEq

def S_cache_rows.pr : PR S_cache_rows 2 := pMap (fun x : S_cache_rows => (x.k, x.v)) (pSeq (pRo (pInt .i8)) (pRo (pInt .i8)))

theorem S_cache_rows.op {w : World} {l : List HP} {cs : List Value} {x : S_cache_rows} (h : Ctx w (Hold S_cache_rows.pr cs x :: l)) : ∃ a0 q0 a1 q1, cs = [.slice a0 x.k.length q0, .slice a1 x.v.length q1] ∧ Ctx w (Hold (pRo (pInt .i8)) [.slice a0 x.k.length q0] x.k :: Hold (pRo (pInt .i8)) [.slice a1 x.v.length q1] x.v :: l) := by
  obtain ⟨R, Ss, hc⟩ := h
  match Ss, hc with
  | S :: Ss, hc =>
    obtain ⟨⟨rfl, ⟨_, _, rfl, ⟨_, rfl, a0, q0, rfl, hc0, hr0⟩, ⟨_, rfl, a1, q1, rfl, hc1, hr1⟩⟩⟩, h3⟩ := hc.all
    exact ⟨a0, q0, a1, q1, rfl, R, [] :: [] :: Ss, ⟨⟨rfl, _, rfl, a0, q0, rfl, hc0, hr0⟩, ⟨rfl, _, rfl, a1, q1, rfl, hc1, hr1⟩, h3⟩, by simpa using hc.nodup, by simpa using hc.own, hc.fz⟩
theorem S_cache_rows.cl {w : World} {l : List HP} {z0 : (List Int)} {z1 : (List Int)} {v0 v1 : Value} (h : Ctx w (Hold (pRo (pInt .i8)) [v0] z0 :: Hold (pRo (pInt .i8)) [v1] z1 :: l)) : Ctx w (Hold S_cache_rows.pr [v0, v1] (⟨z0, z1⟩ : S_cache_rows) :: l) := by
  obtain ⟨R, Ss, hc⟩ := h
  match Ss, hc with
  | S0 :: S1 :: Ss, hc =>
    obtain ⟨⟨rfl, _, e0, hr0⟩, ⟨rfl, _, e1, hr1⟩, h3⟩ := hc.all
    injection e0 with e0; subst e0
    injection e1 with e1; subst e1
    exact ⟨R, [] :: Ss, ⟨⟨rfl, ⟨_, _, rfl, ⟨_, rfl, hr0⟩, ⟨_, rfl, hr1⟩⟩⟩, h3⟩, by simpa using hc.nodup, by simpa using hc.own, hc.fz⟩
  | [], hc => exact hc.all.elim
  | [_], hc => exact hc.all.2.elim

def S_api_Spot.cs (x : S_api_Spot) : List Value := [.int .i64 x.Request, .int .i64 x.Layer, .int .i64 x.Place]
def S_api_Spot.ek (x : S_api_Spot) : Value := .agg (S_api_Spot.cs x).toArray
theorem S_api_Spot.eql (w : World) (x y : S_api_Spot) : (Op.equal 30 (.agg (S_api_Spot.cs x).toArray) (.agg (S_api_Spot.cs y).toArray)).run Try.prog w = .ok (decide (x = y)) w := by
  have hst : Try.prog.stoodInHeld 30 = false := by kernel_rfl
  have pt3 : ∀ {off : Nat} {xs : Array Value} {v : Value} {w : World}, xs[off]? = some v → (part 3 xs off).run Try.prog w = .ok v w := fun h => by simp [part, Try.isAgg3, h]
  have eq3 : ∀ (d : Nat) (k : IntKind) (a b : Int) (w : World), (Op.equalIn (d + 1) 3 (.int k a) (.int k b)).run Try.prog w = .ok (a == b) w := fun d k a b w => by simp [Op.equalIn, run_underlying Try.underlying3]
  have key : ∀ d, (Op.equalIn (d + 2) 30 (.agg (S_api_Spot.cs x).toArray) (.agg (S_api_Spot.cs y).toArray)).run Try.prog w = .ok (decide (x = y)) w := by
    intro d
    obtain ⟨a0, a1, a2⟩ := x
    obtain ⟨b0, b1, b2⟩ := y
    rw [Op.equalIn]
    simp [run_underlying Try.underlying30, S_api_Spot.cs, hst, pt3, eq3]
    repeat' split
    all_goals simp_all
  exact key 9998
theorem S_api_Spot.keyL : KeyL Try.prog 30 S_api_Spot S_api_Spot.ek := keyL_agg (f := S_api_Spot.cs) Try.underlying30 S_api_Spot.eql
  (fun b k w => by
    have h : ∀ n, (Instr.checkKey b (n + 2) 30 (.agg (S_api_Spot.cs k).toArray)).run Try.prog w = .ok () w := by
      intro n
      simp [Instr.checkKey, run_underlying Try.underlying30, S_api_Spot.cs, part, Try.isAgg3, run_underlying Try.underlying3]
    exact h 9998)
  (fun k => by
    have h : ∀ n, Instr.sameBits (n + 2) (.agg (S_api_Spot.cs k).toArray) (.agg (S_api_Spot.cs k).toArray) = true := by
      intro n
      simp [Instr.sameBits, S_api_Spot.cs]
    exact h 9998)

structure S_cache_Store where
  room : Int
  m : (List (S_api_Spot × S_cache_rows))
  deriving DecidableEq

def S_cache_Store.hp (b : Nat) (x : S_cache_Store) : HP := Ex fun v1 : Nat => Sep (B b [.int .i64 x.room, .map (some v1)] 63) (Mp S_api_Spot.ek (HV vfA S_cache_rows.pr) v1 x.m)

theorem S_cache_Store.uf {w : World} {l : List HP} {b : Nat} {x : S_cache_Store} (h : Ctx w (S_cache_Store.hp b x :: l)) : ∃ (v1 : Nat), Ctx w (B b [.int .i64 x.room, .map (some v1)] 63 :: Mp S_api_Spot.ek (HV vfA S_cache_rows.pr) v1 x.m :: l) := by
  obtain ⟨v1, h⟩ := Ctx.exF h
  replace h := Ctx.sepF h
  exact ⟨v1, h⟩
theorem S_cache_Store.fd {w : World} {l : List HP} {b : Nat} {x : S_cache_Store} {v1 : Nat} (h : Ctx w (B b [.int .i64 x.room, .map (some v1)] 63 :: Mp S_api_Spot.ek (HV vfA S_cache_rows.pr) v1 x.m :: l)) : Ctx w (S_cache_Store.hp b x :: l) := Ctx.exB _ _ (Ctx.sepB h)

structure S_law12_Act where
  Kind : Int
  At : S_api_Spot
  K : (List Int)
  V : (List Int)
  deriving DecidableEq

def S_law12_Act.pr : PR S_law12_Act 6 := pMap (fun x : S_law12_Act => (x.Kind, x.At, x.K, x.V)) (pSeq (pInt .i64) (pSeq S_api_Spot.pr (pSeq (pRo (pInt .i8)) (pRo (pInt .i8)))))

theorem S_law12_Act.op {w : World} {l : List HP} {cs : List Value} {x : S_law12_Act} (h : Ctx w (Hold S_law12_Act.pr cs x :: l)) : ∃ a4 q4 a5 q5, cs = [.int .i64 x.Kind, .int .i64 x.At.Request, .int .i64 x.At.Layer, .int .i64 x.At.Place, .slice a4 x.K.length q4, .slice a5 x.V.length q5] ∧ Ctx w (Hold (pRo (pInt .i8)) [.slice a4 x.K.length q4] x.K :: Hold (pRo (pInt .i8)) [.slice a5 x.V.length q5] x.V :: l) := by
  obtain ⟨R, Ss, hc⟩ := h
  match Ss, hc with
  | S :: Ss, hc =>
    obtain ⟨⟨rfl, ⟨_, _, rfl, rfl, ⟨_, _, rfl, rfl, ⟨_, _, rfl, ⟨_, rfl, a4, q4, rfl, hc4, hr4⟩, ⟨_, rfl, a5, q5, rfl, hc5, hr5⟩⟩⟩⟩⟩, h3⟩ := hc.all
    exact ⟨a4, q4, a5, q5, rfl, R, [] :: [] :: Ss, ⟨⟨rfl, _, rfl, a4, q4, rfl, hc4, hr4⟩, ⟨rfl, _, rfl, a5, q5, rfl, hc5, hr5⟩, h3⟩, by simpa using hc.nodup, by simpa using hc.own, hc.fz⟩
abbrev S_api_Spot.cz (x : S_api_Spot) : List Value := [.int .i64 x.Request, .int .i64 x.Layer, .int .i64 x.Place]
abbrev S_law12_Act.cz (x : S_law12_Act) (a4 : Option Addr) (q4 : Nat) (a5 : Option Addr) (q5 : Nat) : List Value := [.int .i64 x.Kind, .int .i64 x.At.Request, .int .i64 x.At.Layer, .int .i64 x.At.Place, .slice a4 x.K.length q4, .slice a5 x.V.length q5]
abbrev C10 := @Try.call10
abbrev C11 := @Try.call11
abbrev C12 := @Try.call12
abbrev C15 := @Try.call15
abbrev C16 := @Try.call16
abbrev C17 := @Try.call17
abbrev C24 := @Try.call24
abbrev C25 := @Try.call25
abbrev C26 := @Try.call26
abbrev C27 := @Try.call27
abbrev C28 := @Try.call28
abbrev C29 := @Try.call29
abbrev C30 := @Try.call30
abbrev C31 := @Try.call31
abbrev C32 := @Try.call32
abbrev C7 := @Try.call7
abbrev C8 := @Try.call8
abbrev C9 := @Try.call9
abbrev F10 := @Try.func10
abbrev F11 := @Try.func11
abbrev F12 := @Try.func12
abbrev F15 := @Try.func15
abbrev F16 := @Try.func16
abbrev F17 := @Try.func17
abbrev F24 := @Try.func24
abbrev F25 := @Try.func25
abbrev F26 := @Try.func26
abbrev F27 := @Try.func27
abbrev F28 := @Try.func28
abbrev F29 := @Try.func29
abbrev F32 := @Try.func32
abbrev F5 := @Try.func5
abbrev F7 := @Try.func7
abbrev F8 := @Try.func8
abbrev F9 := @Try.func9
abbrev G3 := @Try.isAgg3
abbrev G30 := @Try.isAgg30
abbrev G31 := @Try.isAgg31
abbrev G33 := @Try.isAgg33
abbrev G42 := @Try.isAgg42
abbrev G47 := @Try.isAgg47
abbrev G61 := @Try.isAgg61
abbrev G66 := @Try.isAgg66
abbrev M10 := @Try.ntmps10
abbrev M11 := @Try.ntmps11
abbrev M12 := @Try.ntmps12
abbrev M15 := @Try.ntmps15
abbrev M16 := @Try.ntmps16
abbrev M17 := @Try.ntmps17
abbrev M24 := @Try.ntmps24
abbrev M25 := @Try.ntmps25
abbrev M26 := @Try.ntmps26
abbrev M27 := @Try.ntmps27
abbrev M28 := @Try.ntmps28
abbrev M29 := @Try.ntmps29
abbrev M32 := @Try.ntmps32
abbrev M5 := @Try.ntmps5
abbrev M7 := @Try.ntmps7
abbrev M8 := @Try.ntmps8
abbrev M9 := @Try.ntmps9
abbrev R10 := @Try.results10
abbrev R11 := @Try.results11
abbrev R12 := @Try.results12
abbrev R15 := @Try.results15
abbrev R16 := @Try.results16
abbrev R17 := @Try.results17
abbrev R24 := @Try.results24
abbrev R25 := @Try.results25
abbrev R26 := @Try.results26
abbrev R27 := @Try.results27
abbrev R28 := @Try.results28
abbrev R29 := @Try.results29
abbrev R32 := @Try.results32
abbrev R5 := @Try.results5
abbrev R7 := @Try.results7
abbrev R8 := @Try.results8
abbrev R9 := @Try.results9
abbrev U22 := @Try.underlying22
abbrev U24 := @Try.underlying24
abbrev U3 := @Try.underlying3
abbrev U30 := @Try.underlying30
abbrev U31 := @Try.underlying31
abbrev U33 := @Try.underlying33
abbrev U37 := @Try.underlying37
abbrev U47 := @Try.underlying47
abbrev U61 := @Try.underlying61
abbrev U63 := @Try.underlying63
abbrev U66 := @Try.underlying66
abbrev U72 := @Try.underlying72
abbrev V3 := @Try.zeroValue3
abbrev V30 := @Try.zeroValue30
abbrev V31 := @Try.zeroValue31
abbrev V33 := @Try.zeroValue33
abbrev V42 := @Try.zeroValue42
abbrev V66 := @Try.zeroValue66
abbrev Z3 := @Try.sizeOf3
abbrev Z30 := @Try.sizeOf30
abbrev Z31 := @Try.sizeOf31
abbrev Z33 := @Try.sizeOf33
abbrev Z42 := @Try.sizeOf42
abbrev Z61 := @Try.sizeOf61
abbrev Z66 := @Try.sizeOf66
def slices_Index_s_int_int.L1 (x0 : (List Int)) (x1 : Int) : Nat → Int → Option (Int)
  | 0, _ => none
  | m1 + 1, j1 =>
    if j1 < ((x0.length : Nat) : Int) then
      (idx x0 j1).bind fun y4 =>
      if x1 = y4 then
        some j1
      else
        (slices_Index_s_int_int.L1 x0 x1 m1) (IntKind.i64.wrap (j1 + 1))
    else
      some (-1)

def slices_Index_s_int_int (N : Nat) (x0 : (List Int)) (x1 : Int) : Option (Int) :=
  slices_Index_s_int_int.L1 x0 x1 N 0

theorem slices_Index_s_int_int_any {N nx0 qx0 : Nat} {x0 : (List Int)} {ax0 : Option Addr} {P0 : HP} {x1 r : Int} {Fr : List HP} {w : World} {K : Value → World → Prop} (hrd0 : Reads P0 (pInt .i64) (.slice ax0 nx0 qx0) x0) (hc : Ctx w (P0 :: Fr)) (hp : slices_Index_s_int_int N x0 x1 = some r)
    (k : ∀ w', Ctx w' (P0 :: Fr) → K (.int .i64 r) w') : Calls Try.prog 32 #[.slice ax0 nx0 qx0, .int .i64 x1] w (Ret K) := by
 unfold slices_Index_s_int_int at hp; refine Center2 F32 M32 rfl rfl ?_; obtain ⟨hn0, _⟩ := Ctx.rdLen hc (k := 0) rfl rfl hrd0; subst hn0; refine Wseq (Wreg ?_); refine au 1 rfl <| rn (qn (Wseq (Wseq (Wreg ?_)))); refine au 1 rfl <| sz (ln rfl U47) <| au 1 rfl <| rn (qn (Wblk ?_)); refine Wloop (rg [4, 2, 8, 11]) [8] (fun m vs w' => ∃ j1 : Int, vs = [.int .i64 j1] ∧ slices_Index_s_int_int.L1 x0 x1 m j1 = some r ∧ Ctx w' (P0 :: Fr)) N ?_ ?_
 · exact ⟨0, rfl, hp, hc⟩
 · clear hp hc; intro m vs u w2 hJ; obtain ⟨j1, rfl, hp, hc⟩ := hJ; rcases m with _ | m1
   · cases (show none = some r from hp)
   rw [slices_Index_s_int_int.L1] at hp; refine Wseq (Wreg ?_); refine au 1 rfl <| rn (qn (Wseq ?_)); refine Wif hp (fun _ hp => ?_) fun _ hp => ?_
   · refine Wexit (qx (qx (be (qn (Wseq (Wreg ?_)))))); refine au 1 rfl <| rn (qn (Wret ?_)); obtain rfl := sj hp; exact fz R32 M32 (k _ hc)
   · refine Wskip (qn (Wseq (Wblk (Wseq (Wreg ?_))))); refine au 2 rfl <| rn (qn (Wseq (Wreg ?_))); refine au 3 rfl ?_; obtain ⟨y4, hy4, hp⟩ := bind_some hp; obtain ⟨b7, o8, rfl, hi5, hi6⟩ := hc.ra 0 hrd0 hy4; refine sz (ixx rfl rfl U47 Z3 hi5 hi6 rfl) ?_; have hcell11 := hc.rv 0 hrd0 hy4; refine sz (ld rfl G3 (hcell11 0 _ rfl)) <| au 1 rfl <| rn (qn ?_); refine Wif hp (fun _ hp => ?_) fun _ hp => ?_
     · refine Wskip (bn (qn (Wreg ?_))); refine au 2 rfl <| rn (qn ?_); exact ⟨m1, Nat.lt_succ_self _, ⟨(IntKind.i64.wrap (j1 + 1)), rfl, hp, hc⟩, (kl rfl k0)⟩
     · refine Wseq (Wreg ?_); refine au 2 rfl <| rn (qn (Wret (br (qr (qr (br (qr ?_))))))); obtain rfl := sj hp; exact fz R32 M32 (k _ hc)

def slices_Contains_s_int_int (N : Nat) (x0 : (List Int)) (x1 : Int) : Option (Bool) :=
  (slices_Index_s_int_int N x0 x1).bind fun r1 =>
  some (decide (r1 ≥ 0))

theorem slices_Contains_s_int_int_any {N nx0 qx0 : Nat} {x0 : (List Int)} {ax0 : Option Addr} {P0 : HP} {x1 : Int} {Fr : List HP} {w : World} {r : Bool} {K : Value → World → Prop} (hrd0 : Reads P0 (pInt .i64) (.slice ax0 nx0 qx0) x0) (hc : Ctx w (P0 :: Fr)) (hp : slices_Contains_s_int_int N x0 x1 = some r)
    (k : ∀ w', Ctx w' (P0 :: Fr) → K (.bool r) w') : Calls Try.prog 26 #[.slice ax0 nx0 qx0, .int .i64 x1] w (Ret K) := by
 unfold slices_Contains_s_int_int at hp; refine Center2 F26 M26 rfl rfl ?_; obtain ⟨hn0, _⟩ := Ctx.rdLen hc (k := 0) rfl rfl hrd0; subst hn0; refine Wseq (Wreg ?_); refine au 1 rfl <| rn (qn (Wseq (Wreg ?_))); refine au 2 rfl ?_; obtain ⟨r1, hr1, hp⟩ := bind_some hp; refine kz C32 ?_; refine slices_Index_s_int_int_any hrd0 hc hr1 ?_; clear hc; intro w2 hc; refine au 2 rfl <| rn (qn (Wret ?_)); obtain rfl := sj hp; exact fz R26 M26 (k _ hc)

def slices_Clone_s_int8_int8 (x0 : (List Int)) : Option ((List Int)) :=
  (app ([]) x0).bind fun z3 =>
  some z3

theorem slices_Clone_s_int8_int8_any {x0 r : (List Int)} {ax0 : Option Addr} {nx0 qx0 : Nat} {P0 : HP} {Fr : List HP} {w : World} {K : Value → World → Prop} (hrd0 : Reads P0 (pInt .i8) (.slice ax0 nx0 qx0) x0) (hc : Ctx w (P0 :: Fr)) (hp : slices_Clone_s_int8_int8 x0 = some r)
    (k : ∀ a9 n10 q11 w', Ctx w' (Own (pInt .i8) 42 (.slice a9 n10 q11) r :: P0 :: Fr) → K (.slice a9 n10 q11) w') : Calls Try.prog 29 #[.slice ax0 nx0 qx0] w (Ret K) := by
 unfold slices_Clone_s_int8_int8 at hp; refine Center1 F29 M29 rfl rfl ?_; obtain ⟨hn0, _⟩ := Ctx.rdLen hc (k := 0) rfl rfl hrd0; subst hn0; rcases ax0 with _ | ax0
 · have hx := Ctx.nilRows hc (k := 0) rfl rfl hrd0; subst hx; obtain ⟨z, hz, hp⟩ := bind_some hp; obtain rfl := sj hp; obtain ⟨_, hz⟩ := app_some hz; subst hz; refine Wseq (Wreg ?_); refine au 1 rfl <| rn (qn (Wseq (Wseq (Wreg ?_)))); refine au 1 rfl <| sz (v := .bool true) (esnT U31 rfl rfl) <| rn (qn (Wct rfl (Wseq (Wreg ?_)))); refine au 1 rfl <| rn (qn (Wret (qr ?_))); replace hc := hc.nilOwn (pInt .i8) 42; exact fz R29 M29 (k _ _ _ _ hc)
 · refine Wseq (Wreg ?_); refine au 1 rfl <| rn (qn (Wseq (Wseq (Wreg ?_)))); refine au 1 rfl <| sz (v := .bool false) (esnF U31 rfl rfl) <| rn (qn (Wcf rfl (Wskip (qn (Wseq (Wreg ?_)))))); refine rsE (Ctx.builtOp (css := []) (xs := ([] : List Int)) (E := (pInt .i8)) hc U31 Z42 V42 rfl rfl rfl rfl rfl rfl rfl rfl) rfl ?_; clear hc; rintro _ w2 ⟨a1, rfl, hc⟩; refine au 1 rfl ?_; obtain ⟨z3, hz3, hp⟩ := bind_some hp; obtain ⟨hg4, e5⟩ := app_some hz3; refine rsE (hc.ap 0 1 hrd0 U31 Try.t42 hg4) rfl ?_; clear hc; rintro _ w8 ⟨a6, q7, rfl, hc⟩; rw [← e5] at hc ⊢; replace hc := Ctx.n0 hc; refine au 1 rfl <| rn (qn (Wret ?_)); obtain rfl := sj hp; exact fz R29 M29 (k _ _ _ _ hc)

def slices_Equal_s_int8_int8.L1 (x0 : (List Int)) (x1 : (List Int)) : Nat → Int → Option (Bool)
  | 0, _ => none
  | m1 + 1, j2 =>
    if j2 < ((x0.length : Nat) : Int) then
      (idx x0 j2).bind fun y6 =>
      (idx x1 j2).bind fun y15 =>
      if y6 ≠ y15 then
        some false
      else
        (slices_Equal_s_int8_int8.L1 x0 x1 m1) (IntKind.i64.wrap (j2 + 1))
    else
      some true

def slices_Equal_s_int8_int8 (N : Nat) (x0 : (List Int)) (x1 : (List Int)) : Option (Bool) :=
  if ((x0.length : Nat) : Int) ≠ ((x1.length : Nat) : Int) then
    some false
  else
    slices_Equal_s_int8_int8.L1 x0 x1 N 0

theorem slices_Equal_s_int8_int8_any {N nx0 qx0 nx1 qx1 : Nat} {x0 x1 : (List Int)} {ax0 ax1 : Option Addr} {P0 P1 : HP} {Fr : List HP} {w : World} {r : Bool} {K : Value → World → Prop} (hrd0 : Reads P0 (pInt .i8) (.slice ax0 nx0 qx0) x0) (hrd1 : Reads P1 (pInt .i8) (.slice ax1 nx1 qx1) x1) (hc : Ctx w (P0 :: P1 :: Fr)) (hp : slices_Equal_s_int8_int8 N x0 x1 = some r)
    (k : ∀ w', Ctx w' (P0 :: P1 :: Fr) → K (.bool r) w') : Calls Try.prog 28 #[.slice ax0 nx0 qx0, .slice ax1 nx1 qx1] w (Ret K) := by
 unfold slices_Equal_s_int8_int8 at hp; refine Center2 F28 M28 rfl rfl ?_; obtain ⟨hn0, _⟩ := Ctx.rdLen hc (k := 0) rfl rfl hrd0; subst hn0; obtain ⟨hn1, _⟩ := Ctx.rdLen hc (k := 1) rfl rfl hrd1; subst hn1; refine Wseq (Wreg ?_); refine au 1 rfl <| rn (qn (Wseq (Wseq (Wreg ?_)))); refine au 1 rfl <| sz (ln rfl U31) <| au 1 rfl <| sz (ln rfl U31) <| au 1 rfl <| rn (qn ?_); refine Wif hp (fun _ hp => ?_) fun _ hp => ?_
 · refine Wskip (qn (Wseq (Wseq (Wreg ?_)))); refine au 1 rfl <| sz (ln rfl U31) <| au 1 rfl <| rn (qn (Wblk ?_)); refine Wloop (rg [4, 2, 13, 13]) [13] (fun m vs w' => ∃ j2 : Int, vs = [.int .i64 j2] ∧ slices_Equal_s_int8_int8.L1 x0 x1 m j2 = some r ∧ Ctx w' (P0 :: P1 :: Fr)) N ?_ ?_
   · exact ⟨0, rfl, hp, hc⟩
   · clear hp hc; intro m vs u w3 hJ; obtain ⟨j2, rfl, hp, hc⟩ := hJ; rcases m with _ | m1
     · cases (show none = some r from hp)
     rw [slices_Equal_s_int8_int8.L1] at hp; refine Wseq (Wreg ?_); refine au 1 rfl <| rn (qn (Wseq ?_)); refine Wif hp (fun _ hp => ?_) fun _ hp => ?_
     · refine Wexit (qx (qx (be (qn (Wseq (Wreg ?_)))))); refine au 1 rfl <| rn (qn (Wret ?_)); obtain rfl := sj hp; exact fz R28 M28 (k _ hc)
     · refine Wskip (qn (Wseq (Wblk (Wseq (Wreg ?_))))); refine au 2 rfl <| rn (qn (Wseq ?_)); replace hc := hc.drew; refine Wdrw (fun _ w' => w' = World.drew w3) [0, 0, 3, 7, 0, 0, 48, 112, 255] 0 0 rfl (by kernel_rfl) (fun _ _ => rfl) ?_; generalize hw : World.drew w3 = w5 at *; clear hw; refine ad_ 2 rfl ?_; obtain ⟨y6, hy6, hp⟩ := bind_some hp; obtain ⟨b9, o10, rfl, hi7, hi8⟩ := hc.ra 0 hrd0 hy6; refine dE (ixx rfl rfl U31 Z42 hi7 hi8 rfl) rfl rfl ?_; have hcell13 := hc.rv 0 hrd0 hy6; refine dE (ld rfl G42 (hcell13 0 _ rfl)) rfl rfl <| ad_ 2 rfl ?_; obtain ⟨y15, hy15, hp⟩ := bind_some hp; obtain ⟨b18, o19, rfl, hi16, hi17⟩ := hc.ra 1 hrd1 hy15; refine dE (ixx rfl rfl U31 Z42 hi16 hi17 rfl) rfl rfl ?_; have hcell22 := hc.rv 1 hrd1 hy15; refine dE (ld rfl G42 (hcell22 0 _ rfl)) rfl rfl <| ad_ 1 rfl <| dn (qn ?_); refine Wif hp (fun _ hp => ?_) fun _ hp => ?_
       · refine Wskip (bn (qn (Wreg ?_))); refine au 2 rfl <| rn (qn ?_); exact ⟨m1, Nat.lt_succ_self _, ⟨(IntKind.i64.wrap (j2 + 1)), rfl, hp, hc⟩, (kl rfl k0)⟩
       · refine Wseq (Wreg ?_); refine au 1 rfl <| rn (qn (Wret (br (qr (qr (br (qr ?_))))))); obtain rfl := sj hp; exact fz R28 M28 (k _ hc)
 · refine Wseq (Wreg ?_); refine au 1 rfl <| rn (qn (Wret (qr ?_))); obtain rfl := sj hp; exact fz R28 M28 (k _ hc)

def maps_DeleteFunc_map_api_Spot_cache_rows_api_Spot_cache_rows.L1 (x1 : (S_api_Spot → S_cache_rows → Option Bool)) : Nat → (List (S_api_Spot × S_cache_rows)) → (List S_api_Spot) → Option ((List (S_api_Spot × S_cache_rows)))
  | 0, _, _ => none
  | m1 + 1, j4, j5 =>
    anyK (remK j4 j5) (
      some j4) fun kk8 =>
      (mget j4 kk8).bind fun y13 =>
      (x1 (⟨kk8.Request, kk8.Layer, kk8.Place⟩ : S_api_Spot) (⟨y13.k, y13.v⟩ : S_cache_rows)).bind fun r28 =>
      if r28 = true then
        (maps_DeleteFunc_map_api_Spot_cache_rows_api_Spot_cache_rows.L1 x1 m1) (mdel j4 (⟨kk8.Request, kk8.Layer, kk8.Place⟩ : S_api_Spot)) (kk8 :: j5)
      else
        (maps_DeleteFunc_map_api_Spot_cache_rows_api_Spot_cache_rows.L1 x1 m1) j4 (kk8 :: j5)

def maps_DeleteFunc_map_api_Spot_cache_rows_api_Spot_cache_rows (N : Nat) (x0 : (List (S_api_Spot × S_cache_rows))) (x1 : (S_api_Spot → S_cache_rows → Option Bool)) : Option ((List (S_api_Spot × S_cache_rows))) :=
  chk ((x0.map Prod.fst).Nodup) <|
  maps_DeleteFunc_map_api_Spot_cache_rows_api_Spot_cache_rows.L1 x1 N x0 ([])

theorem maps_DeleteFunc_map_api_Spot_cache_rows_api_Spot_cache_rows_any {N b0 : Nat} {x0 r : (List (S_api_Spot × S_cache_rows))} {x1 : (S_api_Spot → S_cache_rows → Option Bool)} {fid1 : FuncId} {cap1 : List Value} {Fr : List HP} {w : World} {K : Value → World → Prop} (hcl1 : ∀ a w, (callFunc fid1 a).run Try.prog w = .ok (.enter fid1 a) w) (hf1 : ∀ (y0 : S_api_Spot) (y1 : S_cache_rows) (a1 : Option Addr) (n2 : Nat) (q3 : Nat) (a4 : Option Addr) (n5 : Nat) (q6 : Nat) (Qs : List HP) (w : World) (r : Bool) (K : Value → World → Prop), Ctx w (Hold (pRo (pInt .i8)) [.slice a1 n2 q3] y1.k :: Hold (pRo (pInt .i8)) [.slice a4 n5 q6] y1.v :: (Qs ++ Fr)) → x1 y0 y1 = some r → (∀ w', Ctx w' (Qs ++ Fr) → K (.bool r) w') → Calls Try.prog fid1 (([.agg (S_api_Spot.cz y0).toArray, .agg #[.slice a1 n2 q3, .slice a4 n5 q6]] : List Value) ++ cap1).toArray w (Ret K)) (hc : Ctx w (Mp S_api_Spot.ek (HV vfA S_cache_rows.pr) b0 x0 :: Fr)) (hp : maps_DeleteFunc_map_api_Spot_cache_rows_api_Spot_cache_rows N x0 x1 = some r)
    (k : ∀ w', Ctx w' (Mp S_api_Spot.ek (HV vfA S_cache_rows.pr) b0 r :: Fr) → K (.tuple #[]) w') : Calls Try.prog 24 #[.map (some b0), .func (.func fid1) #[] cap1.toArray] w (Ret K) := by
 unfold maps_DeleteFunc_map_api_Spot_cache_rows_api_Spot_cache_rows at hp; refine Center2 F24 M24 rfl rfl ?_; refine Wseq (Wreg ?_); refine au 1 rfl ?_; replace hp := chk_some hp; obtain ⟨hg1, hp⟩ := hp; refine rsE (Ctx.itMake hc (i := 0) rfl rfl U61 rfl hg1) rfl ?_; clear hc; rintro _ w3 ⟨b2, rfl, hc⟩; replace hc := Ctx.n0 hc; refine rn (qn (Wblk ?_)); refine Wloop (rg [4, 2, 8, 11]) [] (fun m vs w' => ∃ j4 : (List (S_api_Spot × S_cache_rows)), ∃ j5 : (List S_api_Spot), ∃ c6 : Option (S_api_Spot × Value), vs = [] ∧ maps_DeleteFunc_map_api_Spot_cache_rows_api_Spot_cache_rows.L1 x1 m j4 j5 = some r ∧ Ctx w' (MpI S_api_Spot.ek (HV vfA S_cache_rows.pr) b0 b2 j4 j5 c6 :: Fr)) N ?_ ?_
 · exact ⟨x0, [], none, rfl, hp, hc⟩
 · clear hp hc; intro m vs u w7 hJ; obtain ⟨j4, j5, c6, rfl, hp, hc⟩ := hJ; rcases m with _ | m1
   · cases (show none = some r from hp)
   rw [maps_DeleteFunc_map_api_Spot_cache_rows_api_Spot_cache_rows.L1] at hp; refine Wseq (Wreg ?_); refine rsE (Ctx.itNext hc (i := 0) rfl rfl rfl) rfl ?_; clear hc; rintro _ w12 (⟨hr9, rfl, hc⟩ | ⟨kk8, y13, c14, hk10, hg11, rfl, hc⟩)
   · replace hp := anyK_nil hp hr9; replace hc := Ctx.itEnd hc (i := 0) rfl rfl rfl; replace hc : Ctx w12 (Mp S_api_Spot.ek (HV vfA S_cache_rows.pr) b0 j4 :: Fr) := hc; refine au 1 rfl <| rn (qn (Wseq (Wcf rfl (Wexit (qx (qx (be ?_))))))); refine f0n R24 ?_; obtain rfl := sj hp; exact ⟨_, rfl, k _ hc⟩
   · replace hp := anyK_mem hp hk10; replace hp := bind_of hp hg11; replace hc := S_cache_rows.op hc; obtain ⟨a16, q17, a18, q19, u15, hc⟩ := hc; subst u15; replace hc : Ctx w12 (hR .i8 a16 q17 y13.k :: hR .i8 a18 q19 y13.v :: MpI S_api_Spot.ek (HV vfA S_cache_rows.pr) b0 b2 j4 (kk8 :: j5) (some (kk8, vfA [.slice a16 y13.k.length q17, .slice a18 y13.v.length q19])) :: Fr) := hc; refine au 1 rfl <| rn (qn (Wseq (Wct rfl (Wskip (qn (Wblk (Wseq (Wreg ?_)))))))); refine sz (v := .tuple #[.agg (S_api_Spot.cz kk8).toArray, .agg #[.slice a16 y13.k.length q17, .slice a18 y13.v.length q19]]) (Ctx.itEntry (k := kk8) hc (i := 2) rfl rfl rfl) <| au 2 rfl ?_; refine rsE (Ctx.allocOp (cs := [.int .i64 0, .int .i64 0, .int .i64 0]) hc V30 rfl) rfl ?_; clear hc; rintro _ w22 ⟨b20, rfl, hc⟩; refine rsE (Ctx.allocOp (cs := [.slice none 0 0, .slice none 0 0]) hc V66 rfl) rfl ?_; clear hc; rintro _ w25 ⟨b23, rfl, hc⟩; refine pa hc 1 Z30 ?_; clear hc; rintro w26 hc; refine pa hc 0 Z66 ?_; clear hc; rintro w27 hc; refine rn (qn (Wseq (Wreg ?_))); refine au 1 rfl <| lg G30 Z30 hc 1 ?_; refine lg G66 Z66 hc 0 ?_; replace hc := hc.dz 2; replace hc := hc.dz 4; replace hp := bind_some hp; obtain ⟨r28, hr28, hp⟩ := hp; replace hc := hc.m [2]; refine rc (cv (fi := []) (ca := cap1) (vs := ([.agg (S_api_Spot.cz kk8).toArray, .agg #[.slice a16 y13.k.length q17, .slice a18 y13.v.length q19]] : List Value) ++ cap1) hcl1 rfl rfl) rfl ?_; refine hf1 _ _ _ _ _ _ _ _ [B b23 [.slice a16 y13.k.length q17, .slice a18 y13.v.length q19] 66, B b20 (S_api_Spot.cz kk8) 30, hR .i8 a16 q17 y13.k, hR .i8 a18 q19 y13.v, MpI S_api_Spot.ek (HV vfA S_cache_rows.pr) b0 b2 j4 (kk8 :: j5) (some (kk8, vfA [.slice a16 y13.k.length q17, .slice a18 y13.v.length q19]))] _ _ _ hc hr28 ?_; clear hc; intro w29 hc; replace hc : Ctx w29 (B b23 [.slice a16 y13.k.length q17, .slice a18 y13.v.length q19] 66 :: B b20 (S_api_Spot.cz kk8) 30 :: hR .i8 a16 q17 y13.k :: hR .i8 a18 q19 y13.v :: MpI S_api_Spot.ek (HV vfA S_cache_rows.pr) b0 b2 j4 (kk8 :: j5) (some (kk8, vfA [.slice a16 y13.k.length q17, .slice a18 y13.v.length q19])) :: Fr) := hc; refine rn (qn ?_); cases hb30 : r28
     · replace hp := gneg hp (by rw [hb30]; exact Bool.false_ne_true); subst hb30; refine Wcf rfl (Wskip (bn (qn ?_))); replace hc := hc.m [7, 5, 3, 1]; exact ⟨m1, Nat.lt_succ_self _, ⟨j4, (kk8 :: j5), (some (kk8, vfA [.slice a16 y13.k.length q17, .slice a18 y13.v.length q19])), rfl, hp, hc⟩, (kl rfl k0)⟩
     · replace hp := gpos hp hb30; subst hb30; refine Wct rfl (Wreg ?_); refine au 1 rfl <| lg G30 Z30 hc 1 ?_; refine rvE (Ctx.itDel (k := kk8) S_api_Spot.keyL hc (i := 4) rfl rfl U61 rfl rfl) rfl ?_; clear hc; intro w31 hc; replace hc := Ctx.n4 hc; refine rn (bn (qn ?_)); replace hc := hc.m [7, 5, 3, 1]; exact ⟨m1, Nat.lt_succ_self _, ⟨(mdel j4 kk8), (kk8 :: j5), none, rfl, hp, hc⟩, (kl rfl k0)⟩

theorem bd_63_0_1 {ρ : Operand → Value} {w : World} {dst : Option Nat} {ty : TypeId} {pos : String} {after : Array Edge} {g : Option (Nat × Bool)} {x0 x1 : Operand} {k0 : IntKind} {a0 : Int} {a1 : Option Nat} (h0 : ρ x0 = (.int k0 a0)) (h1 : ρ x1 = (.map a1)) :
    (execOp ρ ⟨dst, .build 63 #[(0, x0), (1, x1)], ty, pos, after, g⟩).run Try.prog w = .ok (.value (.agg #[(.int k0 a0), (.map a1)])) w := by
  simp [execOp, Instr.build, Instr.fill, Try.zeroValue63, Try.runUnderlying63, Try.sizeOf3, Try.sizeOf61, h0, h1, Value.cells]

def cache_New (x0 : Int) : Option ((Option S_cache_Store) × Int) :=
  if x0 < 0 then
    some (none, 2)
  else
    if x0 > 1048576 then
      some (none, 2)
    else
      some ((some (⟨x0, []⟩ : S_cache_Store)), 0)

theorem cache_New_any {x0 : Int} {Fr : List HP} {w : World} {r : (Option S_cache_Store) × Int} {K : Value → World → Prop}  (hc : Ctx w (Fr)) (hp : cache_New x0 = some r)
    (k : ∀ (v8 : Value) w', Ctx w' (PtO S_cache_Store.hp v8 r.1 :: Fr) → K (.tuple #[v8, .int .i64 r.2]) w') : Calls Try.prog 8 #[.int .i64 x0] w (Ret K) := by
 unfold cache_New at hp; refine Center1 F8 M8 rfl rfl ?_; refine Wseq (Wreg ?_); refine au 2 rfl <| rn (qn (Wseq (Wseq (Wreg ?_)))); refine au 3 rfl ?_; cases hb1 : (decide (x0 < 0))
 · replace hp := gneg hp (of_decide_eq_false hb1); refine au 3 rfl <| rn (qn ?_); refine Wif hp (fun _ hp => ?_) fun _ hp => ?_
   · refine Wskip (qn (Wseq (Wreg ?_))); refine au 1 rfl ?_; refine rsE (Ctx.mpMake S_api_Spot.ek (HV vfA S_cache_rows.pr) hc) rfl ?_; clear hc; rintro _ w4 ⟨b3, rfl, hc⟩; refine sz (v := .agg #[.int .i64 x0, .map (some b3)]) (bd_63_0_1 rfl rfl) ?_; refine rsE (Ctx.boxOp (cs := [.int .i64 x0, .map (some b3)]) (v := .agg #[.int .i64 x0, .map (some b3)]) hc rfl rfl) rfl ?_; clear hc; rintro _ w7 ⟨b5, rfl, hc⟩; refine au 2 rfl <| rn (qn (Wret ?_)); replace hc := hc.m [2, 2]; replace hc := S_cache_Store.fd (x := (⟨x0, []⟩ : S_cache_Store)) hc; replace hc := Ctx.ptoSB S_cache_Store.hp hc; obtain rfl := sj hp; exact fz2 R8 M8 (k _ _ hc)
   · refine Wseq (Wreg ?_); refine au 2 rfl <| rn (qn (Wret (qr ?_))); replace hc := Ctx.ptoNB S_cache_Store.hp hc; obtain rfl := sj hp; exact fz2 R8 M8 (k _ _ hc)
 · replace hp := gpos hp (of_decide_eq_true hb1); (iterate 2 refine r0 rfl ?_); refine au 1 rfl <| rn (qn (Wct rfl (Wseq (Wreg ?_)))); refine au 2 rfl <| rn (qn (Wret (qr ?_))); replace hc := Ctx.ptoNB S_cache_Store.hp hc; obtain rfl := sj hp; exact fz2 R8 M8 (k _ _ hc)

def cache_Store_ahead (x0 : S_cache_Store) (x1 : S_api_Spot) : Option (Bool) :=
  if x1.Place = 0 then
    some true
  else
    (some ((mget x0.m (⟨x1.Request, x1.Layer, (IntKind.i64.wrap (x1.Place - 1))⟩ : S_api_Spot)).getD (⟨[], []⟩ : S_cache_rows))).bind fun y11 =>
    some ((mget x0.m (⟨x1.Request, x1.Layer, (IntKind.i64.wrap (x1.Place - 1))⟩ : S_api_Spot)).isSome)

theorem cache_Store_ahead_any {b0 : Nat} {x0 : S_cache_Store} {x1 : S_api_Spot} {Fr : List HP} {w : World} {r : Bool} {K : Value → World → Prop}  (hc : Ctx w (S_cache_Store.hp b0 x0 :: Fr)) (hp : cache_Store_ahead x0 x1 = some r)
    (k : ∀ w', Ctx w' (S_cache_Store.hp b0 x0 :: Fr) → K (.bool r) w') : Calls Try.prog 27 #[pt b0 0, .agg (S_api_Spot.cz x1).toArray] w (Ret K) := by
 unfold cache_Store_ahead at hp; refine Center2 F27 M27 rfl rfl ?_; refine Wseq (Wreg ?_); refine rsE (Ctx.boxOp (cs := (S_api_Spot.cz x1)) (v := .agg (S_api_Spot.cz x1).toArray) hc rfl rfl) rfl ?_; clear hc; rintro _ w3 ⟨b1, rfl, hc⟩; refine au 1 rfl <| rn (qn (Wseq (Wseq (Wreg ?_)))); refine fq 2 U30 Z3 G3 hc 0 ?_; refine au 1 rfl <| rn (qn ?_); refine Wif hp (fun _ hp => ?_) fun _ hp => ?_
 · refine Wskip (qn (Wseq (Wreg ?_))); refine fq 2 U30 Z3 G3 hc 0 ?_; refine au 1 rfl <| sz (v := pt b1 2) (fax 2 rfl U30 rfl Z3 rfl rfl rfl) <| po hc 0 Z3 ?_; clear hc; rintro w5 hc; refine rn (qn (Wseq ?_)); replace hc := hc.m [2]; replace hc := S_cache_Store.uf hc; obtain ⟨v6, hc⟩ := hc; replace hc := Ctx.mpoF hc (i := 1) rfl rfl; obtain ⟨o7, hc⟩ := hc; replace hc : Ctx w5 (B b0 [.int .i64 x0.room, .map (some v6)] 63 :: MpO S_api_Spot.ek (HV vfA S_cache_rows.pr) v6 o7 x0.m :: B b1 [.int .i64 x1.Request, .int .i64 x1.Layer, .int .i64 (IntKind.i64.wrap (x1.Place - 1))] 30 :: Fr) := hc; replace hc := hc.drew; refine Wdrw (fun j w' => (j = 3 → w'.cell? ⟨b0, 1, none⟩ = some (.map (some v6))) ∧ (j = 4 → ∀ j v, ([.int .i64 x1.Request, .int .i64 x1.Layer, .int .i64 (IntKind.i64.wrap (x1.Place - 1))] : List Value)[j]? = some v → w'.cell? ((⟨b1, 0, none⟩ : Addr).add j) = some v) ∧ (j = 5 → w'.heap[v6]? = some o7) ∧ True) [0, 1, 3, 7, 0, 31, 63, 127, 127, 0, 767, 2047] 0 0 rfl (by kernel_rfl) (fun j hj => ⟨fun _ => hc.cell (k := 0) rfl rfl rfl, fun _ => Ctx.cells hc (k := 2) rfl rfl 0 (vs := [.int .i64 x1.Request, .int .i64 x1.Layer, .int .i64 (IntKind.i64.wrap (x1.Place - 1))]) rfl, fun _ => Ctx.mpoPin hc (i := 1) rfl rfl, trivial⟩) ?_; generalize hw : World.drew w5 = w8 at *; clear hw; refine ad_ 2 rfl <| ds (v := pt b0 1) rfl (fun w' hF => fax 1 rfl U63 rfl Z61 rfl rfl rfl) rfl <| ds rfl (fun w' hF => ld rfl G61 ((hF.1 rfl))) rfl <| ds (v := .agg #[.int .i64 x1.Request, .int .i64 x1.Layer, .int .i64 (IntKind.i64.wrap (x1.Place - 1))]) rfl (fun w' hF => ldg rfl G30 Z30 rfl (hF.2.1 rfl)) rfl ?_; replace hc := Ctx.mpoFact true S_api_Spot.keyL hc (i := 1) rfl rfl (⟨x1.Request, x1.Layer, (IntKind.i64.wrap (x1.Place - 1))⟩ : S_api_Spot) U61 V66 (zcs := [.slice none 0 0, .slice none 0 0]) (x0 := (⟨[], []⟩ : S_cache_rows)) rfl (fun _ _ => ⟨([.slice none 0 0] : List Value), ([.slice none 0 0] : List Value), rfl, ⟨_, rfl, none, 0, rfl, Nat.le_refl _, fun i x hx => by simp at hx⟩, ⟨_, rfl, none, 0, rfl, Nat.le_refl _, fun i x hx => by simp at hx⟩⟩); obtain ⟨cs9, hc, hr10⟩ := hc; obtain ⟨y11, hy11, hp⟩ := bind_some hp; injection hy11 with hy11; rw [hy11] at hc; replace hc := S_cache_rows.op hc; obtain ⟨a13, q14, a15, q16, u12, hc⟩ := hc; subst u12; refine ds (v := .tuple #[.agg #[.slice a13 y11.k.length q14, .slice a15 y11.v.length q16], .bool ((mget x0.m (⟨x1.Request, x1.Layer, (IntKind.i64.wrap (x1.Place - 1))⟩ : S_api_Spot)).isSome)]) rfl (fun w' hF => hr10 ((hF.2.2.1 rfl)) rfl rfl) rfl <| ad_ 3 rfl ?_; refine deE (Ctx.allocOp (cs := [.slice none 0 0, .slice none 0 0]) hc V66 rfl) rfl rfl ?_; clear hc; rintro _ w19 ⟨b17, rfl, hc⟩; refine ⟨fun j hj hb => ⟨fun _ => hc.cell (k := 3) rfl rfl rfl, fun _ => Ctx.cells hc (k := 5) rfl rfl 0 (vs := [.int .i64 x1.Request, .int .i64 x1.Layer, .int .i64 (IntKind.i64.wrap (x1.Place - 1))]) rfl, fun _ => Ctx.mpoPin hc (i := 4) rfl rfl, trivial⟩, ?_⟩; refine pad hc 0 Z66 ?_; clear hc; rintro w20 hc; refine ⟨fun j hj hb => ⟨fun e => nja hj e, fun e => nja hj e, fun e => nja hj e, trivial⟩, ?_⟩; refine ad_ 1 rfl ?_; replace hc := Ctx.mpoB hc (i := 4) rfl rfl rfl; replace hc : Ctx w20 (B b17 [.slice a13 y11.k.length q14, .slice a15 y11.v.length q16] 66 :: hR .i8 a13 q14 y11.k :: hR .i8 a15 q16 y11.v :: B b0 [.int .i64 x0.room, .map (some v6)] 63 :: Mp S_api_Spot.ek (HV vfA S_cache_rows.pr) v6 x0.m :: B b1 [.int .i64 x1.Request, .int .i64 x1.Layer, .int .i64 (IntKind.i64.wrap (x1.Place - 1))] 30 :: Fr) := hc; refine dn (qn (Wseq (Wreg ?_))); refine au 2 rfl <| rn (qn (Wret ?_)); replace hc := hc.m [8, 8]; replace hc := S_cache_Store.fd (x := x0) hc; replace hc := hc.m [9, 7, 5, 3]; obtain rfl := sj hp; exact fz R27 M27 (k _ hc)
 · refine Wseq (Wreg ?_); refine au 1 rfl <| rn (qn (Wret (qr ?_))); replace hc := hc.m [1]; obtain rfl := sj hp; exact fz R27 M27 (k _ hc)

theorem bd_66_0_1 {ρ : Operand → Value} {w : World} {dst : Option Nat} {ty : TypeId} {pos : String} {after : Array Edge} {g : Option (Nat × Bool)} {x0 x1 : Operand} {a0 : Option Addr} {l0 c0 : Nat} {a1 : Option Addr} {l1 c1 : Nat} (h0 : ρ x0 = (.slice a0 l0 c0)) (h1 : ρ x1 = (.slice a1 l1 c1)) :
    (execOp ρ ⟨dst, .build 66 #[(0, x0), (1, x1)], ty, pos, after, g⟩).run Try.prog w = .ok (.value (.agg #[(.slice a0 l0 c0), (.slice a1 l1 c1)])) w := by
  simp [execOp, Instr.build, Instr.fill, Try.zeroValue66, Try.runUnderlying66, Try.sizeOf31, h0, h1, Value.cells]

def cache_Store_Put.J1 (x0 : S_cache_Store) (x1 : S_api_Spot) (x2 : (List Int)) (x3 : (List Int)) (j26 : Bool) : Option (Int × S_cache_Store) :=
  if j26 = true then
    some (0, x0)
  else
    if (mget x0.m x1).isSome = true then
      some (2, x0)
    else
      if ((x0.m.length : Nat) : Int) ≥ x0.room then
        some (80, x0)
      else
        (slices_Clone_s_int8_int8 x2).bind fun r40 =>
        (slices_Clone_s_int8_int8 x3).bind fun r46 =>
        some (0, (⟨x0.room, (mset x0.m x1 (⟨r40, r46⟩ : S_cache_rows))⟩ : S_cache_Store))

def cache_Store_Put (N : Nat) (x0 : S_cache_Store) (x1 : S_api_Spot) (x2 : (List Int)) (x3 : (List Int)) : Option (Int × S_cache_Store) :=
  (some ((mget x0.m x1).getD (⟨[], []⟩ : S_cache_rows))).bind fun y9 =>
  if x1.Request < 0 then
    some (2, x0)
  else
    if x1.Layer < 0 then
      some (2, x0)
    else
      if x1.Place < 0 then
        some (2, x0)
      else
        if ((x2.length : Nat) : Int) ≠ ((x3.length : Nat) : Int) then
          some (30, x0)
        else
          (cache_Store_ahead x0 x1).bind fun r23 =>
          if r23 = true then
            if (mget x0.m x1).isSome = true then
              (slices_Equal_s_int8_int8 N y9.k x2).bind fun r28 =>
              if r28 = true then
                (slices_Equal_s_int8_int8 N y9.v x3).bind fun r31 =>
                cache_Store_Put.J1 x0 x1 x2 x3 r31
              else
                cache_Store_Put.J1 x0 x1 x2 x3 false
            else
              cache_Store_Put.J1 x0 x1 x2 x3 false
          else
            some (120, x0)

theorem cache_Store_Put_any {N b0 nx2 qx2 nx3 qx3 : Nat} {x0 : S_cache_Store} {x1 : S_api_Spot} {x2 x3 : (List Int)} {ax2 ax3 : Option Addr} {P2 P3 : HP} {Fr : List HP} {w : World} {r : Int × S_cache_Store} {K : Value → World → Prop} (hrd2 : Reads P2 (pInt .i8) (.slice ax2 nx2 qx2) x2) (hrd3 : Reads P3 (pInt .i8) (.slice ax3 nx3 qx3) x3) (hc : Ctx w (S_cache_Store.hp b0 x0 :: P2 :: P3 :: Fr)) (hp : cache_Store_Put N x0 x1 x2 x3 = some r)
    (k : ∀ w', Ctx w' (S_cache_Store.hp b0 r.2 :: P2 :: P3 :: Fr) → K (.int .i64 r.1) w') : Calls Try.prog 11 #[pt b0 0, .agg (S_api_Spot.cz x1).toArray, .slice ax2 nx2 qx2, .slice ax3 nx3 qx3] w (Ret K) := by
 unfold cache_Store_Put at hp; refine Center4 F11 M11 rfl rfl ?_; obtain ⟨hn2, _⟩ := Ctx.rdLen hc (k := 1) rfl rfl hrd2; subst hn2; obtain ⟨hn3, _⟩ := Ctx.rdLen hc (k := 2) rfl rfl hrd3; subst hn3; refine Wseq (Wreg ?_); refine rsE (Ctx.boxOp (cs := (S_api_Spot.cz x1)) (v := .agg (S_api_Spot.cz x1).toArray) hc rfl rfl) rfl ?_; clear hc; rintro _ w3 ⟨b1, rfl, hc⟩; refine au 1 rfl <| rn (qn (Wseq ?_)); replace hc := hc.m [2]; replace hc := S_cache_Store.uf hc; obtain ⟨v4, hc⟩ := hc; replace hc := Ctx.mpoF hc (i := 1) rfl rfl; obtain ⟨o5, hc⟩ := hc; replace hc : Ctx w3 (B b0 [.int .i64 x0.room, .map (some v4)] 63 :: MpO S_api_Spot.ek (HV vfA S_cache_rows.pr) v4 o5 x0.m :: B b1 (S_api_Spot.cz x1) 30 :: P2 :: P3 :: Fr) := hc; replace hc := hc.drew; refine Wdrw (fun j w' => (j = 3 → w'.cell? ⟨b0, 1, none⟩ = some (.map (some v4))) ∧ (j = 4 → ∀ j v, ((S_api_Spot.cz x1) : List Value)[j]? = some v → w'.cell? ((⟨b1, 0, none⟩ : Addr).add j) = some v) ∧ (j = 5 → w'.heap[v4]? = some o5) ∧ True) [0, 1, 3, 7, 0, 31, 63, 127, 127, 0, 767, 2047] 0 0 rfl (by kernel_rfl) (fun j hj => ⟨fun _ => hc.cell (k := 0) rfl rfl rfl, fun _ => Ctx.cells hc (k := 2) rfl rfl 0 (vs := (S_api_Spot.cz x1)) rfl, fun _ => Ctx.mpoPin hc (i := 1) rfl rfl, trivial⟩) ?_; generalize hw : World.drew w3 = w6 at *; clear hw; refine ad_ 2 rfl <| ds (v := pt b0 1) rfl (fun w' hF => fax 1 rfl U63 rfl Z61 rfl rfl rfl) rfl <| ds rfl (fun w' hF => ld rfl G61 ((hF.1 rfl))) rfl <| ds (v := .agg (S_api_Spot.cz x1).toArray) rfl (fun w' hF => ldg rfl G30 Z30 rfl (hF.2.1 rfl)) rfl ?_; replace hc := Ctx.mpoFact true S_api_Spot.keyL hc (i := 1) rfl rfl x1 U61 V66 (zcs := [.slice none 0 0, .slice none 0 0]) (x0 := (⟨[], []⟩ : S_cache_rows)) rfl (fun _ _ => ⟨([.slice none 0 0] : List Value), ([.slice none 0 0] : List Value), rfl, ⟨_, rfl, none, 0, rfl, Nat.le_refl _, fun i x hx => by simp at hx⟩, ⟨_, rfl, none, 0, rfl, Nat.le_refl _, fun i x hx => by simp at hx⟩⟩); obtain ⟨cs7, hc, hr8⟩ := hc; replace hp := bind_some hp; obtain ⟨y9, hy9, hp⟩ := hp; injection hy9 with hy9; rw [hy9] at hc; replace hc := S_cache_rows.op hc; obtain ⟨a11, q12, a13, q14, u10, hc⟩ := hc; subst u10; refine ds (v := .tuple #[.agg #[.slice a11 y9.k.length q12, .slice a13 y9.v.length q14], .bool ((mget x0.m x1).isSome)]) rfl (fun w' hF => hr8 ((hF.2.2.1 rfl)) rfl rfl) rfl <| ad_ 3 rfl ?_; refine deE (Ctx.allocOp (cs := [.slice none 0 0, .slice none 0 0]) hc V66 rfl) rfl rfl ?_; clear hc; rintro _ w17 ⟨b15, rfl, hc⟩; refine ⟨fun j hj hb => ⟨fun _ => hc.cell (k := 3) rfl rfl rfl, fun _ => Ctx.cells hc (k := 5) rfl rfl 0 (vs := (S_api_Spot.cz x1)) rfl, fun _ => Ctx.mpoPin hc (i := 4) rfl rfl, trivial⟩, ?_⟩; refine pad hc 0 Z66 ?_; clear hc; rintro w18 hc; refine ⟨fun j hj hb => ⟨fun e => nja hj e, fun e => nja hj e, fun e => nja hj e, trivial⟩, ?_⟩; refine ad_ 1 rfl ?_; replace hc := Ctx.mpoB hc (i := 4) rfl rfl rfl; replace hc : Ctx w18 (B b15 [.slice a11 y9.k.length q12, .slice a13 y9.v.length q14] 66 :: hR .i8 a11 q12 y9.k :: hR .i8 a13 q14 y9.v :: B b0 [.int .i64 x0.room, .map (some v4)] 63 :: Mp S_api_Spot.ek (HV vfA S_cache_rows.pr) v4 x0.m :: B b1 (S_api_Spot.cz x1) 30 :: P2 :: P3 :: Fr) := hc; refine dn (qn (Wseq (Wblk (Wseq (Wreg ?_))))); refine fq 0 U30 Z3 G3 hc 5 ?_; refine au 2 rfl ?_; cases hb19 : (decide (x1.Request < 0))
 · replace hp := gneg hp (of_decide_eq_false hb19); refine fq 1 U30 Z3 G3 hc 5 ?_; refine au 3 rfl ?_; cases hb20 : (decide (x1.Layer < 0))
   · replace hp := gneg hp (of_decide_eq_false hb20); refine fq 2 U30 Z3 G3 hc 5 ?_; refine au 3 rfl <| rn (qn ?_); refine Wif hp (fun _ h => ?_) fun _ h => ?_
     · replace hp := h; clear h; refine Wseq (Wreg ?_); refine au 1 rfl <| sz (ln rfl U31) <| au 1 rfl <| sz (ln rfl U31) <| au 2 rfl <| rn (qn ?_); refine Wif hp (fun _ h => ?_) fun _ h => ?_
       · replace hp := h; clear h; refine Wseq (Wreg ?_); refine au 1 rfl <| lg G30 Z30 hc 5 ?_; replace hc := hc.m [8, 8]; replace hc := S_cache_Store.fd (x := x0) hc; replace hp := bind_some hp; obtain ⟨r23, hr23, hp⟩ := hp; refine kz C27 ?_; refine cache_Store_ahead_any (x1 := x1) hc hr23 ?_; clear hc; intro w24 hc; cases hb25 : r23
         · replace hp := gneg hp (by rw [hb25]; exact Bool.false_ne_true); subst hb25; refine au 2 rfl <| rn (qn (Wct rfl (Wseq (Wreg ?_)))); refine au 1 rfl <| rn (qn (Wret (br (qr ?_)))); replace hc := hc.m [9, 7, 5, 3]; obtain rfl := sj hp; exact fz R11 M11 (k _ hc)
         · replace hp := gpos hp hb25; subst hb25; refine au 2 rfl <| rn (qn (Wcf rfl ?_)); refine Wseqm (rg [45, 14]) [45] (fun vs w' => ∃ j26 : Bool, vs = [.bool j26] ∧ cache_Store_Put.J1 x0 x1 x2 x3 j26 = some r ∧ Ctx w' (S_cache_Store.hp b0 x0 :: B b1 (S_api_Spot.cz x1) 30 :: P2 :: P3 :: Fr)) ?_ ?_
           · refine Wreg <| au 2 rfl ?_; cases hb27 : ((mget x0.m x1).isSome)
             · replace hp := gneg hp (by rw [hb27]; exact Bool.false_ne_true); (iterate 4 refine r0 rfl ?_); refine au 2 rfl ?_; (iterate 4 refine r0 rfl ?_); refine au 2 rfl <| rn (qn ?_); replace hc := hc.m [7, 5, 3]; exact ⟨⟨false, rfl, hp, hc⟩, (kl rfl kb)⟩
             · replace hp := gpos hp hb27; refine fq 0 U66 Z31 G31 hc 1 ?_; refine au 1 rfl ?_; replace hc := hc.dz 2; replace hp := bind_some hp; obtain ⟨r28, hr28, hp⟩ := hp; replace hc := hc.m [12, 2]; refine kz C28 ?_; refine slices_Equal_s_int8_int8_any reads_ro hrd2 hc hr28 ?_; clear hc; intro w29 hc; refine au 2 rfl ?_; cases hb30 : r28
               · replace hp := gneg hp (by rw [hb30]; exact Bool.false_ne_true); subst hb30; (iterate 4 refine r0 rfl ?_); refine au 2 rfl <| rn (qn ?_); replace hc := hc.m [11, 9, 7, 1, 6, 2, 6, 6]; exact ⟨⟨false, rfl, hp, hc⟩, (kl rfl kb)⟩
               · replace hp := gpos hp hb30; subst hb30; refine fq 1 U66 Z31 G31 hc 3 ?_; refine au 1 rfl ?_; replace hc := hc.dz 5; replace hp := bind_some hp; obtain ⟨r31, hr31, hp⟩ := hp; replace hc := hc.m [16, 2]; refine kz C28 ?_; refine slices_Equal_s_int8_int8_any reads_ro hrd3 hc hr31 ?_; clear hc; intro w32 hc; refine au 2 rfl <| rn (qn ?_); replace hc := hc.m [15, 13, 11, 5, 1, 2, 6, 6]; exact ⟨⟨r31, rfl, hp, hc⟩, (kl rfl kb)⟩
           · clear hp hc; intro vs u w33 hJ; obtain ⟨j26, rfl, hp, hc⟩ := hJ; unfold cache_Store_Put.J1 at hp; cases hb34 : j26
             · replace hp := gneg hp (by rw [hb34]; exact Bool.false_ne_true); subst hb34; refine Wcf rfl (Wseq (Wreg ?_)); refine au 2 rfl <| rn (qn ?_); cases hb35 : ((mget x0.m x1).isSome)
               · replace hp := gneg hp (by rw [hb35]; exact Bool.false_ne_true); refine Wcf rfl (Wseq ?_); replace hc := S_cache_Store.uf hc; obtain ⟨v36, hc⟩ := hc; replace hc := hc.drew; refine Wdrw (fun _ w' => w' = World.drew w33) [0, 1, 3, 7, 15, 0, 32, 96, 224, 511, 1023] 0 0 rfl (by kernel_rfl) (fun _ _ => rfl) ?_; generalize hw : World.drew w33 = w37 at *; clear hw; refine ad_ 2 rfl <| dE (v := pt b0 1) (fax 1 rfl U63 rfl Z61 rfl rfl rfl) rfl rfl <| dE (ld rfl G61 (Ctx.cell hc (k := 0) rfl rfl rfl)) rfl rfl <| dE (v := .int .i64 ((x0.m.length : Nat) : Int)) (Ctx.mpLen hc (i := 1) rfl rfl U61 rfl) rfl rfl <| ad_ 2 rfl <| dE (v := pt b0 0) (fax 0 rfl U63 rfl Z3 rfl rfl rfl) rfl rfl <| dE (ld rfl G3 (Ctx.cell hc (k := 0) rfl rfl rfl)) rfl rfl <| ad_ 2 rfl <| dn (qn ?_); refine Wif hp (fun _ h => ?_) fun _ h => ?_
                 · replace hp := h; clear h; refine Wskip (bn (qn (Wseq ?_))); replace hc := hc.drew; refine Wdrw (fun j w' => (j = 3 → w'.cell? ⟨b0, 1, none⟩ = some (.map (some v36))) ∧ (j = 4 → ∀ j v, ((S_api_Spot.cz x1) : List Value)[j]? = some v → w'.cell? ((⟨b1, 0, none⟩ : Addr).add j) = some v) ∧ True) [0, 1, 3, 7, 0, 0, 32, 0, 224, 480, 1023] 0 0 rfl (by kernel_rfl) (fun j hj => ⟨fun _ => hc.cell (k := 0) rfl rfl rfl, fun _ => Ctx.cells hc (k := 2) rfl rfl 0 (vs := (S_api_Spot.cz x1)) rfl, trivial⟩) ?_; generalize hw : World.drew w37 = w39 at *; clear hw; refine ad_ 2 rfl <| ds (v := pt b0 1) rfl (fun w' hF => fax 1 rfl U63 rfl Z61 rfl rfl rfl) rfl <| ds rfl (fun w' hF => ld rfl G61 ((hF.1 rfl))) rfl <| ds (v := .agg (S_api_Spot.cz x1).toArray) rfl (fun w' hF => ldg rfl G30 Z30 rfl (hF.2.1 rfl)) rfl <| ad_ 1 rfl ?_; replace hp := bind_some hp; obtain ⟨r40, hr40, hp⟩ := hp; replace hc := hc.m [6]; refine dc (cl C29 rfl rfl) rfl rfl ?_; refine slices_Clone_s_int8_int8_any hrd2 hc hr40 ?_; clear hc; intro a41 n42 q43 w44 hc; obtain rfl := hc.rz 0 reads_own; refine ⟨fun j hj hb => ⟨fun _ => hc.cell (k := 2) rfl rfl rfl, fun _ => Ctx.cells hc (k := 4) rfl rfl 0 (vs := (S_api_Spot.cz x1)) rfl, trivial⟩, ?_⟩; refine ad_ 1 rfl ?_; replace hp := bind_some hp; obtain ⟨r46, hr46, hp⟩ := hp; replace hc := hc.m [10]; refine dc (cl C29 rfl rfl) rfl rfl ?_; refine slices_Clone_s_int8_int8_any hrd3 hc hr46 ?_; clear hc; intro a47 n48 q49 w50 hc; obtain rfl := hc.rz 0 reads_own; refine ⟨fun j hj hb => ⟨fun _ => hc.cell (k := 4) rfl rfl rfl, fun _ => Ctx.cells hc (k := 6) rfl rfl 0 (vs := (S_api_Spot.cz x1)) rfl, trivial⟩, ?_⟩; refine ds (v := .agg #[.slice a41 r40.length q43, .slice a47 r46.length q49]) rfl (fun w' hF => bd_66_0_1 rfl rfl) rfl ?_; replace hc := hc.freeze (k := 0) rfl rfl rfl; replace hc := Ctx.n0 hc; replace hc := hc.dz 0; replace hc := hc.freeze (k := 3) rfl rfl rfl; replace hc := Ctx.n3 hc; replace hc := hc.dz 3; replace hc : Ctx w50 (Hold S_cache_rows.pr [.slice a41 r40.length q43, .slice a47 r46.length q49] (⟨r40, r46⟩ : S_cache_rows) :: hR .i8 a47 q49 r46 :: P3 :: hR .i8 a41 q43 r40 :: P2 :: B b0 [.int .i64 x0.room, .map (some v36)] 63 :: Mp S_api_Spot.ek (HV vfA S_cache_rows.pr) v36 x0.m :: B b1 (S_api_Spot.cz x1) 30 :: Fr) := S_cache_rows.cl hc; refine duE (Ctx.mpSet (k := x1) S_api_Spot.keyL hc (i := 5) rfl rfl U61 rfl rfl rfl) rfl rfl ?_; clear hc; rintro w52 hc; replace hc := Ctx.n5 hc; refine ⟨fun j hj hb => ⟨fun e => nja hj e, fun e => nja hj e, trivial⟩, ?_⟩; refine dn (qn (Wseq (Wreg ?_))); refine au 1 rfl <| rn (qn (Wret ?_)); replace hc := hc.m [10, 10]; replace hc := S_cache_Store.fd (x := (⟨x0.room, (mset x0.m x1 (⟨r40, r46⟩ : S_cache_rows))⟩ : S_cache_Store)) hc; replace hc := hc.m [11, 7, 3, 2, 4, 4]; obtain rfl := sj hp; exact fz R11 M11 (k _ hc)
                 · replace hp := h; clear h; refine Wseq (Wreg ?_); refine au 1 rfl <| rn (qn (Wret (br (qr ?_)))); replace hc := hc.m [2, 2]; replace hc := S_cache_Store.fd (x := x0) hc; replace hc := hc.m [3]; obtain rfl := sj hp; exact fz R11 M11 (k _ hc)
               · replace hp := gpos hp hb35; refine Wct rfl (Wseq (Wreg ?_)); refine au 1 rfl <| rn (qn (Wret (br (qr ?_)))); replace hc := hc.m [3]; obtain rfl := sj hp; exact fz R11 M11 (k _ hc)
             · replace hp := gpos hp hb34; subst hb34; refine Wct rfl (Wseq (Wreg ?_)); refine au 1 rfl <| rn (qn (Wret (br (qr ?_)))); replace hc := hc.m [3]; obtain rfl := sj hp; exact fz R11 M11 (k _ hc)
       · replace hp := h; clear h; refine Wseq (Wreg ?_); refine au 1 rfl <| rn (qn (Wret (br (qr ?_)))); replace hc := hc.m [8, 8]; replace hc := S_cache_Store.fd (x := x0) hc; replace hc := hc.m [9, 7, 5, 3]; obtain rfl := sj hp; exact fz R11 M11 (k _ hc)
     · replace hp := h; clear h; refine Wseq (Wreg ?_); refine au 1 rfl <| rn (qn (Wret (br (qr ?_)))); replace hc := hc.m [8, 8]; replace hc := S_cache_Store.fd (x := x0) hc; replace hc := hc.m [9, 7, 5, 3]; obtain rfl := sj hp; exact fz R11 M11 (k _ hc)
   · replace hp := gpos hp (of_decide_eq_true hb20); (iterate 3 refine r0 rfl ?_); refine au 2 rfl <| rn (qn (Wct rfl (Wseq (Wreg ?_)))); refine au 1 rfl <| rn (qn (Wret (br (qr ?_)))); replace hc := hc.m [8, 8]; replace hc := S_cache_Store.fd (x := x0) hc; replace hc := hc.m [9, 7, 5, 3]; obtain rfl := sj hp; exact fz R11 M11 (k _ hc)
 · replace hp := gpos hp (of_decide_eq_true hb19); (iterate 3 refine r0 rfl ?_); refine au 2 rfl ?_; (iterate 3 refine r0 rfl ?_); refine au 2 rfl <| rn (qn (Wct rfl (Wseq (Wreg ?_)))); refine au 1 rfl <| rn (qn (Wret (br (qr ?_)))); replace hc := hc.m [8, 8]; replace hc := S_cache_Store.fd (x := x0) hc; replace hc := hc.m [9, 7, 5, 3]; obtain rfl := sj hp; exact fz R11 M11 (k _ hc)

def cache_Store_Get (x0 : S_cache_Store) (x1 : S_api_Spot) : Option ((List Int) × (List Int) × Bool) :=
  (some ((mget x0.m x1).getD (⟨[], []⟩ : S_cache_rows))).bind fun y9 =>
  (slices_Clone_s_int8_int8 y9.k).bind fun r20 =>
  (slices_Clone_s_int8_int8 y9.v).bind fun r26 =>
  some (r20, r26, (mget x0.m x1).isSome)

theorem cache_Store_Get_any {b0 : Nat} {x0 : S_cache_Store} {x1 : S_api_Spot} {Fr : List HP} {w : World} {r : (List Int) × (List Int) × Bool} {K : Value → World → Prop}  (hc : Ctx w (S_cache_Store.hp b0 x0 :: Fr)) (hp : cache_Store_Get x0 x1 = some r)
    (k : ∀ a32 n33 q34 a35 n36 q37 w', Ctx w' (Own (pInt .i8) 42 (.slice a32 n33 q34) r.1 :: Own (pInt .i8) 42 (.slice a35 n36 q37) r.2.1 :: S_cache_Store.hp b0 x0 :: Fr) → K (.tuple #[.slice a32 n33 q34, .slice a35 n36 q37, .bool r.2.2]) w') : Calls Try.prog 15 #[pt b0 0, .agg (S_api_Spot.cz x1).toArray] w (Ret K) := by
 unfold cache_Store_Get at hp; refine Center2 F15 M15 rfl rfl ?_; refine Wseq (Wreg ?_); refine rsE (Ctx.boxOp (cs := (S_api_Spot.cz x1)) (v := .agg (S_api_Spot.cz x1).toArray) hc rfl rfl) rfl ?_; clear hc; rintro _ w3 ⟨b1, rfl, hc⟩; refine au 3 rfl <| rn (qn (Wseq ?_)); replace hc := hc.m [2]; replace hc := S_cache_Store.uf hc; obtain ⟨v4, hc⟩ := hc; replace hc := Ctx.mpoF hc (i := 1) rfl rfl; obtain ⟨o5, hc⟩ := hc; replace hc : Ctx w3 (B b0 [.int .i64 x0.room, .map (some v4)] 63 :: MpO S_api_Spot.ek (HV vfA S_cache_rows.pr) v4 o5 x0.m :: B b1 (S_api_Spot.cz x1) 30 :: Fr) := hc; replace hc := hc.drew; refine Wdrw (fun j w' => (j = 3 → w'.cell? ⟨b0, 1, none⟩ = some (.map (some v4))) ∧ (j = 4 → ∀ j v, ((S_api_Spot.cz x1) : List Value)[j]? = some v → w'.cell? ((⟨b1, 0, none⟩ : Addr).add j) = some v) ∧ (j = 5 → w'.heap[v4]? = some o5) ∧ True) [0, 1, 3, 7, 0, 31, 63, 127, 127, 0, 767, 2047] 0 0 rfl (by kernel_rfl) (fun j hj => ⟨fun _ => hc.cell (k := 0) rfl rfl rfl, fun _ => Ctx.cells hc (k := 2) rfl rfl 0 (vs := (S_api_Spot.cz x1)) rfl, fun _ => Ctx.mpoPin hc (i := 1) rfl rfl, trivial⟩) ?_; generalize hw : World.drew w3 = w6 at *; clear hw; refine ad_ 2 rfl <| ds (v := pt b0 1) rfl (fun w' hF => fax 1 rfl U63 rfl Z61 rfl rfl rfl) rfl <| ds rfl (fun w' hF => ld rfl G61 ((hF.1 rfl))) rfl <| ds (v := .agg (S_api_Spot.cz x1).toArray) rfl (fun w' hF => ldg rfl G30 Z30 rfl (hF.2.1 rfl)) rfl ?_; replace hc := Ctx.mpoFact true S_api_Spot.keyL hc (i := 1) rfl rfl x1 U61 V66 (zcs := [.slice none 0 0, .slice none 0 0]) (x0 := (⟨[], []⟩ : S_cache_rows)) rfl (fun _ _ => ⟨([.slice none 0 0] : List Value), ([.slice none 0 0] : List Value), rfl, ⟨_, rfl, none, 0, rfl, Nat.le_refl _, fun i x hx => by simp at hx⟩, ⟨_, rfl, none, 0, rfl, Nat.le_refl _, fun i x hx => by simp at hx⟩⟩); obtain ⟨cs7, hc, hr8⟩ := hc; obtain ⟨y9, hy9, hp⟩ := bind_some hp; injection hy9 with hy9; rw [hy9] at hc; replace hc := S_cache_rows.op hc; obtain ⟨a11, q12, a13, q14, u10, hc⟩ := hc; subst u10; refine ds (v := .tuple #[.agg #[.slice a11 y9.k.length q12, .slice a13 y9.v.length q14], .bool ((mget x0.m x1).isSome)]) rfl (fun w' hF => hr8 ((hF.2.2.1 rfl)) rfl rfl) rfl <| ad_ 3 rfl ?_; refine deE (Ctx.allocOp (cs := [.slice none 0 0, .slice none 0 0]) hc V66 rfl) rfl rfl ?_; clear hc; rintro _ w17 ⟨b15, rfl, hc⟩; refine ⟨fun j hj hb => ⟨fun _ => hc.cell (k := 3) rfl rfl rfl, fun _ => Ctx.cells hc (k := 5) rfl rfl 0 (vs := (S_api_Spot.cz x1)) rfl, fun _ => Ctx.mpoPin hc (i := 4) rfl rfl, trivial⟩, ?_⟩; refine pad hc 0 Z66 ?_; clear hc; rintro w18 hc; refine ⟨fun j hj hb => ⟨fun e => nja hj e, fun e => nja hj e, fun e => nja hj e, trivial⟩, ?_⟩; refine ad_ 1 rfl ?_; replace hc := Ctx.mpoB hc (i := 4) rfl rfl rfl; replace hc : Ctx w18 (B b15 [.slice a11 y9.k.length q12, .slice a13 y9.v.length q14] 66 :: hR .i8 a11 q12 y9.k :: hR .i8 a13 q14 y9.v :: B b0 [.int .i64 x0.room, .map (some v4)] 63 :: Mp S_api_Spot.ek (HV vfA S_cache_rows.pr) v4 x0.m :: B b1 (S_api_Spot.cz x1) 30 :: Fr) := hc; refine dn (qn (Wseq ?_)); replace hc := hc.drew; refine Wdrw (fun j w' => (j = 4 → w'.cell? ⟨b15, 1, none⟩ = some (.slice a13 y9.v.length q14)) ∧ True) [0, 1, 3, 0, 8, 31, 0, 63, 191, 511] 0 2 rfl (by kernel_rfl) (fun j hj => ⟨fun _ => hc.cell (k := 0) rfl rfl rfl, trivial⟩) ?_; generalize hw : World.drew w18 = w19 at *; clear hw; refine ds (v := pt b15 0) rfl (fun w' hF => fax 0 rfl U66 rfl Z31 rfl rfl rfl) rfl <| dx rfl (ld rfl G31 (Ctx.cell hc (k := 0) rfl rfl rfl)) rfl rfl ?_; replace hc := hc.dz 1; obtain ⟨r20, hr20, hp⟩ := bind_some hp; refine dc (cl C29 rfl rfl) rfl rfl ?_; refine slices_Clone_s_int8_int8_any reads_ro hc hr20 ?_; clear hc; intro a21 n22 q23 w24 hc; obtain rfl := hc.rz 0 reads_own; refine ⟨fun j hj hb => ⟨fun _ => hc.cell (k := 2) rfl rfl rfl, trivial⟩, ?_⟩; refine ds (v := pt b15 1) rfl (fun w' hF => fax 1 rfl U66 rfl Z31 rfl rfl rfl) rfl <| ds rfl (fun w' hF => ld rfl G31 ((hF.1 rfl))) rfl ?_; replace hc := hc.dz 4; obtain ⟨r26, hr26, hp⟩ := bind_some hp; refine dc (cl C29 rfl rfl) rfl rfl ?_; refine slices_Clone_s_int8_int8_any reads_ro hc hr26 ?_; clear hc; intro a27 n28 q29 w30 hc; obtain rfl := hc.rz 0 reads_own; refine ⟨fun j hj hb => ⟨fun e => nja hj e, trivial⟩, ?_⟩; refine ad_ 4 rfl <| dn (qn (Wret ?_)); replace hc := hc.m [16, 16]; replace hc := S_cache_Store.fd (x := x0) hc; replace hc := hc.m [17, 15, 13, 11, 9, 5, 2, 4]; obtain rfl := sj hp; refine f3 (v := .slice a21 r20.length q23) (u := .slice a27 r26.length q29) (z := .bool ((mget x0.m x1).isSome)) R15 M15 rfl rfl rfl ?_; exact ⟨_, rfl, k _ _ _ _ _ _ _ hc⟩

theorem bd_30_0_1 {ρ : Operand → Value} {w : World} {dst : Option Nat} {ty : TypeId} {pos : String} {after : Array Edge} {g : Option (Nat × Bool)} {x0 x1 : Operand} {k0 : IntKind} {a0 : Int} {k1 : IntKind} {a1 : Int} (h0 : ρ x0 = (.int k0 a0)) (h1 : ρ x1 = (.int k1 a1)) :
    (execOp ρ ⟨dst, .build 30 #[(0, x0), (1, x1)], ty, pos, after, g⟩).run Try.prog w = .ok (.value (.agg #[(.int k0 a0), (.int k1 a1), (.int .i64 0)])) w := by
  simp [execOp, Instr.build, Instr.fill, Try.zeroValue30, Try.runUnderlying30, Try.sizeOf3, h0, h1, Value.cells]

def cache_Store_Line.L1 (x0 : S_cache_Store) (x1 : Int) (x2 : Int) : Nat → (List (List Int)) → (List (List Int)) → Int → Option ((List (List Int)) × (List (List Int)))
  | 0, _, _, _ => none
  | m1 + 1, j5, j9, j14 =>
    (cache_Store_Get x0 (⟨x1, x2, j14⟩ : S_api_Spot)).bind fun r18 =>
    if r18.2.2 = true then
      (app j5 ([r18.1])).bind fun z31 =>
      (app j9 ([r18.2.1])).bind fun z39 =>
      (cache_Store_Line.L1 x0 x1 x2 m1) z31 z39 (IntKind.i64.wrap (j14 + 1))
    else
      some (j5, j9)

def cache_Store_Line (N : Nat) (x0 : S_cache_Store) (x1 : Int) (x2 : Int) : Option ((List (List Int)) × (List (List Int))) :=
  cache_Store_Line.L1 x0 x1 x2 N ([]) ([]) 0

theorem cache_Store_Line_any {N b0 : Nat} {x0 : S_cache_Store} {x1 x2 : Int} {Fr : List HP} {w : World} {r : (List (List Int)) × (List (List Int))} {K : Value → World → Prop}  (hc : Ctx w (S_cache_Store.hp b0 x0 :: Fr)) (hp : cache_Store_Line N x0 x1 x2 = some r)
    (k : ∀ a50 n51 q52 a53 n54 q55 w', Ctx w' (OwnV (vOwn (pInt .i8) 42) 31 (.slice a50 n51 q52) r.1 :: OwnV (vOwn (pInt .i8) 42) 31 (.slice a53 n54 q55) r.2 :: S_cache_Store.hp b0 x0 :: Fr) → K (.tuple #[.slice a50 n51 q52, .slice a53 n54 q55]) w') : Calls Try.prog 12 #[pt b0 0, .int .i64 x1, .int .i64 x2] w (Ret K) := by
 unfold cache_Store_Line at hp; refine Center3 F12 M12 rfl rfl ?_; refine Wseq (Wreg ?_); refine au 2 rfl <| rn (qn (Wseq (Wreg ?_))); refine au 2 rfl <| rn (qn (Wseq (Wreg ?_))); refine au 2 rfl <| sz (v := .agg #[.int .i64 x1, .int .i64 x2, .int .i64 0]) (bd_30_0_1 rfl rfl) ?_; refine rsE (Ctx.allocOp (cs := [.int .i64 0, .int .i64 0, .int .i64 0]) hc V30 rfl) rfl ?_; clear hc; rintro _ w3 ⟨b1, rfl, hc⟩; refine pa hc 0 Z30 ?_; clear hc; rintro w4 hc; refine rn (qn (Wblk ?_)); replace hc := hc.nilOwnV (vOwn (pInt .i8) 42) 31; replace hc := hc.nilOwnV (vOwn (pInt .i8) 42) 31; replace hc := hc.m [4, 2, 4, 6]; refine Wloop (rg [6, 8, 17, 24]) [8, 9, 10] (fun m vs w' => ∃ j5 : (List (List Int)), ∃ j9 : (List (List Int)), ∃ j14 : Int, ∃ a6 n7, ∃ q8 a10, ∃ n11 q12, ∃ b13 : Nat, vs = [.slice a6 n7 q8, .slice a10 n11 q12, pt b13 0] ∧ cache_Store_Line.L1 x0 x1 x2 m j5 j9 j14 = some r ∧ Ctx w' (S_cache_Store.hp b0 x0 :: OwnV (vOwn (pInt .i8) 42) 31 (.slice a6 n7 q8) j5 :: OwnV (vOwn (pInt .i8) 42) 31 (.slice a10 n11 q12) j9 :: B b13 [.int .i64 x1, .int .i64 x2, .int .i64 j14] 30 :: Fr)) N ?_ ?_
 · exact ⟨[], [], 0, none, 0, 0, none, 0, 0, b1, rfl, hp, hc⟩
 · clear hp hc; intro m vs u w15 hJ; obtain ⟨j5, j9, j14, a6, n7, q8, a10, n11, q12, b13, rfl, hp, hc⟩ := hJ; have u16 := Ctx.ownVLen' hc (k := 1) rfl rfl; subst u16; have u17 := Ctx.ownVLen' hc (k := 2) rfl rfl; subst u17; rcases m with _ | m1
   · cases (show none = some r from hp)
   rw [cache_Store_Line.L1] at hp; refine Wseq (Wblk (Wseq (Wreg ?_))); refine au 1 rfl <| lg G30 Z30 hc 3 ?_; obtain ⟨r18, hr18, hp⟩ := bind_some hp; refine kz C15 ?_; refine cache_Store_Get_any (x1 := (⟨x1, x2, j14⟩ : S_api_Spot)) hc hr18 ?_; clear hc; intro a19 n20 q21 a22 n23 q24 w25 hc; obtain rfl := hc.rz 0 reads_own; obtain rfl := hc.rz 1 reads_own; refine au 7 rfl <| rn (qn (Wseq (Wseq (Wreg ?_)))); refine au 1 rfl ?_; cases hb28 : r18.2.2
   · replace hp := gneg hp (by rw [hb28]; exact Bool.false_ne_true); refine au 1 rfl <| rn (qn (Wct rfl (Wseq (Wreg ?_)))); refine au 4 rfl <| rn (qn (Wret (qr (br (qr (qr (br ?_))))))); replace hc := hc.m [11, 3, 1, 4, 4]; obtain rfl := sj hp; exact fz2 R12 M12 (k _ _ _ _ _ _ _ hc)
   · replace hp := gpos hp hb28; refine au 1 rfl <| rn (qn (Wcf rfl (Wskip (qn (Wreg ?_))))); refine au 2 rfl ?_; replace hc : Ctx w25 ((vOwn (pInt .i8) 42).r [.slice a19 r18.1.length q21] r18.1 :: oR .i8 42 a22 q24 r18.2.1 :: S_cache_Store.hp b0 x0 :: OwnV (vOwn (pInt .i8) 42) 31 (.slice a6 j5.length q8) j5 :: OwnV (vOwn (pInt .i8) 42) 31 (.slice a10 j9.length q12) j9 :: B b13 [.int .i64 x1, .int .i64 x2, .int .i64 j14] 30 :: Fr) := Ctx.exB _ _ (Ctx.sepB (Ctx.puB rfl hc)); replace hc := Ctx.anyB (m := 1) [.slice a19 r18.1.length q21] rfl rfl hc; refine rsE (Ctx.builtOp (css := [[.slice a19 r18.1.length q21]]) (xs := ([[.slice a19 r18.1.length q21]] : List (List Value))) (E := pAny 1) hc U37 Z31 V31 rfl rfl rfl rfl rfl rfl rfl rfl) rfl ?_; clear hc; rintro _ w30 ⟨a29, rfl, hc⟩; replace hc : Ctx w30 (OwnV (vOwn (pInt .i8) 42) 31 (.slice a29 1 1) ([r18.1]) :: oR .i8 42 a22 q24 r18.2.1 :: S_cache_Store.hp b0 x0 :: OwnV (vOwn (pInt .i8) 42) 31 (.slice a6 j5.length q8) j5 :: OwnV (vOwn (pInt .i8) 42) 31 (.slice a10 j9.length q12) j9 :: B b13 [.int .i64 x1, .int .i64 x2, .int .i64 j14] 30 :: Fr) := Ctx.ownV1 hc; obtain ⟨z31, hz31, hp⟩ := bind_some hp; obtain ⟨hg32, e33⟩ := app_some hz31; replace hc := hc.m [6]; refine rsE (Ctx.appendV hc U37 (i := Try.t31) rfl rfl rfl rfl rfl rfl rfl rfl hg32) rfl ?_; clear hc; rintro _ w36 ⟨a34, q35, rfl, hc⟩; rw [← e33] at hc ⊢; refine au 2 rfl ?_; replace hc := hc.m [2]; replace hc : Ctx w36 ((vOwn (pInt .i8) 42).r [.slice a22 r18.2.1.length q24] r18.2.1 :: OwnV (vOwn (pInt .i8) 42) 31 (.slice a34 z31.length q35) z31 :: S_cache_Store.hp b0 x0 :: OwnV (vOwn (pInt .i8) 42) 31 (.slice a10 j9.length q12) j9 :: B b13 [.int .i64 x1, .int .i64 x2, .int .i64 j14] 30 :: Fr) := Ctx.exB _ _ (Ctx.sepB (Ctx.puB rfl hc)); replace hc := Ctx.anyB (m := 1) [.slice a22 r18.2.1.length q24] rfl rfl hc; refine rsE (Ctx.builtOp (css := [[.slice a22 r18.2.1.length q24]]) (xs := ([[.slice a22 r18.2.1.length q24]] : List (List Value))) (E := pAny 1) hc U37 Z31 V31 rfl rfl rfl rfl rfl rfl rfl rfl) rfl ?_; clear hc; rintro _ w38 ⟨a37, rfl, hc⟩; replace hc : Ctx w38 (OwnV (vOwn (pInt .i8) 42) 31 (.slice a37 1 1) ([r18.2.1]) :: OwnV (vOwn (pInt .i8) 42) 31 (.slice a34 z31.length q35) z31 :: S_cache_Store.hp b0 x0 :: OwnV (vOwn (pInt .i8) 42) 31 (.slice a10 j9.length q12) j9 :: B b13 [.int .i64 x1, .int .i64 x2, .int .i64 j14] 30 :: Fr) := Ctx.ownV1 hc; obtain ⟨z39, hz39, hp⟩ := bind_some hp; obtain ⟨hg40, e41⟩ := app_some hz39; replace hc := hc.m [6]; refine rsE (Ctx.appendV hc U37 (i := Try.t31) rfl rfl rfl rfl rfl rfl rfl rfl hg40) rfl ?_; clear hc; rintro _ w44 ⟨a42, q43, rfl, hc⟩; rw [← e41] at hc ⊢; refine au 2 rfl <| rn (bn (qn (Wseq (Wseq (Wreg ?_))))); refine lg G30 Z30 hc 3 ?_; refine rn (qn (Wreg ?_)); refine rsE (Ctx.allocOp (cs := [.int .i64 0, .int .i64 0, .int .i64 0]) hc V30 rfl) rfl ?_; clear hc; rintro _ w47 ⟨b45, rfl, hc⟩; refine pa hc 0 Z30 ?_; clear hc; rintro w48 hc; refine rn (qn (Wreg ?_)); refine fq 2 U30 Z3 G3 hc 0 ?_; refine au 1 rfl <| sz (v := pt b45 2) (fax 2 rfl U30 rfl Z3 rfl rfl rfl) <| po hc 0 Z3 ?_; clear hc; rintro w49 hc; refine rn (qn ?_); replace hc := hc.m [9, 2, 4, 6]; exact ⟨m1, Nat.lt_succ_self _, ⟨z31, z39, (IntKind.i64.wrap (j14 + 1)), a34, z31.length, q35, a42, z39.length, q43, b45, rfl, hp, hc⟩, (kl rfl k0)⟩

def cache_Store_Requests.L1 (x0 : S_cache_Store) : Nat → (List S_api_Spot) → (List (Int × Bool)) → Option ((List Int))
  | 0, _, _ => none
  | m1 + 1, j7, j9 =>
    anyK (remK x0.m j7) (
      (it_sorted j9).bind fun r20 =>
      some r20) fun kk11 =>
      (mget x0.m kk11).bind fun y16 =>
      (cache_Store_Requests.L1 x0 m1) (kk11 :: j7) (mset j9 kk11.Request true)

def cache_Store_Requests (N : Nat) (x0 : S_cache_Store) : Option ((List Int)) :=
  chk ((x0.m.map Prod.fst).Nodup) <|
  cache_Store_Requests.L1 x0 N ([]) ([])

theorem cache_Store_Requests_any {N b0 : Nat} {x0 : S_cache_Store} {Fr : List HP} {w : World} {r : (List Int)} {K : Value → World → Prop}  (hc : Ctx w (S_cache_Store.hp b0 x0 :: Fr)) (hp : cache_Store_Requests N x0 = some r)
    (k : ∀ a36 n37 q38 w', Ctx w' (Own (pInt .i64) 3 (.slice a36 n37 q38) r :: S_cache_Store.hp b0 x0 :: Fr) → K (.slice a36 n37 q38) w') : Calls Try.prog 17 #[pt b0 0] w (Ret K) := by
 unfold cache_Store_Requests at hp; refine Center1 F17 M17 rfl rfl ?_; refine Wseq (Wreg ?_); refine au 1 rfl <| rn (qn (Wseq (Wreg ?_))); refine rsE (Ctx.mpMake (ekI .i64) (HV vf1 pBool) hc) rfl ?_; clear hc; rintro _ w2 ⟨b1, rfl, hc⟩; refine au 1 rfl <| rn (qn (Wseq (Wseq (Wreg ?_)))); refine au 2 rfl <| sz (v := pt b0 1) (fax 1 rfl U63 rfl Z61 rfl rfl rfl) ?_; replace hc := hc.m [2]; replace hc := S_cache_Store.uf hc; obtain ⟨v3, hc⟩ := hc; refine sz (ld rfl G61 (Ctx.cell hc (k := 0) rfl rfl rfl)) ?_; obtain ⟨hg4, hp⟩ := chk_some hp; replace hc := hc.m [2]; refine rsE (Ctx.itMake hc (i := 0) rfl rfl U61 rfl hg4) rfl ?_; clear hc; rintro _ w6 ⟨b5, rfl, hc⟩; replace hc := Ctx.n0 hc; refine rn (qn (Wblk ?_)); refine Wloop (rg [4, 1, 11, 7]) [] (fun m vs w' => ∃ j7 : (List S_api_Spot), ∃ j9 : (List (Int × Bool)), ∃ c8 : Option (S_api_Spot × Value), vs = [] ∧ cache_Store_Requests.L1 x0 m j7 j9 = some r ∧ Ctx w' (MpI S_api_Spot.ek (HV vfA S_cache_rows.pr) v3 b5 x0.m j7 c8 :: B b0 [.int .i64 x0.room, .map (some v3)] 63 :: Mp (ekI .i64) (HV vf1 pBool) b1 j9 :: Fr)) N ?_ ?_
 · exact ⟨[], [], none, rfl, hp, hc⟩
 · clear hp hc; intro m vs u w10 hJ; obtain ⟨j7, j9, c8, rfl, hp, hc⟩ := hJ; rcases m with _ | m1
   · cases (show none = some r from hp)
   rw [cache_Store_Requests.L1] at hp; refine Wseq (Wreg ?_); refine rsE (Ctx.itNext hc (i := 0) rfl rfl rfl) rfl ?_; clear hc; rintro _ w15 (⟨hr12, rfl, hc⟩ | ⟨kk11, y16, c17, hk13, hg14, rfl, hc⟩)
   · replace hp := anyK_nil hp hr12; replace hc := Ctx.itEnd hc (i := 0) rfl rfl rfl; replace hc : Ctx w15 (Mp S_api_Spot.ek (HV vfA S_cache_rows.pr) v3 x0.m :: B b0 [.int .i64 x0.room, .map (some v3)] 63 :: Mp (ekI .i64) (HV vf1 pBool) b1 j9 :: Fr) := hc; refine au 1 rfl <| rn (qn (Wseq (Wcf rfl (Wexit (qx (qx (be (qn (Wseq (Wreg ?_)))))))))); refine au 1 rfl <| rc (cl C31 rfl rfl) rfl ?_; refine it_keys_any hc ?_; clear hc; intro b18 w19 hc; obtain ⟨r20, hr20, hp⟩ := bind_some hp; replace hc := hc.m [6, 2]; refine kz C30 ?_; refine it_sorted_any hc hr20 ?_; clear hc; intro a21 n22 q23 w24 hc; obtain rfl := hc.rz 0 reads_own; refine au 1 rfl <| rn (qn (Wret ?_)); replace hc := hc.m [6, 8]; replace hc := S_cache_Store.fd (x := x0) hc; replace hc := hc.m [7, 5, 2]; obtain rfl := sj hp; exact fz R17 M17 (k _ _ _ _ hc)
   · replace hp := anyK_mem hp hk13; replace hp := bind_of hp hg14; replace hc := S_cache_rows.op hc; obtain ⟨a27, q28, a29, q30, u26, hc⟩ := hc; subst u26; replace hc : Ctx w15 (hR .i8 a27 q28 y16.k :: hR .i8 a29 q30 y16.v :: MpI S_api_Spot.ek (HV vfA S_cache_rows.pr) v3 b5 x0.m (kk11 :: j7) (some (kk11, vfA [.slice a27 y16.k.length q28, .slice a29 y16.v.length q30])) :: B b0 [.int .i64 x0.room, .map (some v3)] 63 :: Mp (ekI .i64) (HV vf1 pBool) b1 j9 :: Fr) := hc; refine au 1 rfl <| rn (qn (Wseq (Wct rfl (Wskip (qn (Wblk (Wseq (Wreg ?_)))))))); refine sz (v := .tuple #[.agg (S_api_Spot.cz kk11).toArray, .agg #[.slice a27 y16.k.length q28, .slice a29 y16.v.length q30]]) (Ctx.itEntry (k := kk11) hc (i := 2) rfl rfl rfl) <| au 1 rfl ?_; refine rsE (Ctx.allocOp (cs := [.int .i64 0, .int .i64 0, .int .i64 0]) hc V30 rfl) rfl ?_; clear hc; rintro _ w33 ⟨b31, rfl, hc⟩; refine pa hc 0 Z30 ?_; clear hc; rintro w34 hc; refine rn (qn (Wreg ?_)); refine au 1 rfl ?_; refine fq 0 U30 Z3 G3 hc 0 ?_; replace hc : Ctx w34 (Hold pBool [.bool true] true :: B b31 (S_api_Spot.cz kk11) 30 :: hR .i8 a27 q28 y16.k :: hR .i8 a29 q30 y16.v :: MpI S_api_Spot.ek (HV vfA S_cache_rows.pr) v3 b5 x0.m (kk11 :: j7) (some (kk11, vfA [.slice a27 y16.k.length q28, .slice a29 y16.v.length q30])) :: B b0 [.int .i64 x0.room, .map (some v3)] 63 :: Mp (ekI .i64) (HV vf1 pBool) b1 j9 :: Fr) := hc.add _ fun _ _ _ => ⟨rfl, rfl⟩; refine ruE (Ctx.mpSet (keyL_int U3) hc (i := 5) rfl rfl U72 rfl rfl rfl) rfl ?_; clear hc; rintro w35 hc; replace hc := Ctx.n5 hc; refine rn (bn (qn ?_)); replace hc := hc.m [5, 3, 1]; exact ⟨m1, Nat.lt_succ_self _, ⟨(kk11 :: j7), (mset j9 kk11.Request true), (some (kk11, vfA [.slice a27 y16.k.length q28, .slice a29 y16.v.length q30])), rfl, hp, hc⟩, (kl rfl k0)⟩

theorem bd_30_0_1_2 {ρ : Operand → Value} {w : World} {dst : Option Nat} {ty : TypeId} {pos : String} {after : Array Edge} {g : Option (Nat × Bool)} {x0 x1 x2 : Operand} {k0 : IntKind} {a0 : Int} {k1 : IntKind} {a1 : Int} {k2 : IntKind} {a2 : Int} (h0 : ρ x0 = (.int k0 a0)) (h1 : ρ x1 = (.int k1 a1)) (h2 : ρ x2 = (.int k2 a2)) :
    (execOp ρ ⟨dst, .build 30 #[(0, x0), (1, x1), (2, x2)], ty, pos, after, g⟩).run Try.prog w = .ok (.value (.agg #[(.int k0 a0), (.int k1 a1), (.int k2 a2)])) w := by
  simp [execOp, Instr.build, Instr.fill, Try.zeroValue30, Try.runUnderlying30, Try.sizeOf3, h0, h1, h2, Value.cells]

def law12_spot (x0 : Int) (x1 : Int) (x2 : Int) : Option (S_api_Spot) :=
  some (⟨x0, x1, x2⟩ : S_api_Spot)

theorem law12_spot_any {x0 x1 x2 : Int} {Fr : List HP} {w : World} {r : S_api_Spot} {K : Value → World → Prop}  (hc : Ctx w (Fr)) (hp : law12_spot x0 x1 x2 = some r)
    (k : ∀ w', Ctx w' (Fr) → K (.agg (S_api_Spot.cz r).toArray) w') : Calls Try.prog 9 #[.int .i64 x0, .int .i64 x1, .int .i64 x2] w (Ret K) := by
 unfold law12_spot at hp; refine Center3 F9 M9 rfl rfl ?_; refine Wseq (Wreg ?_); refine rsE (Ctx.allocOp (cs := [.int .i64 0, .int .i64 0, .int .i64 0]) hc V30 rfl) rfl ?_; clear hc; rintro _ w3 ⟨b1, rfl, hc⟩; refine rn (qn (Wseq (Wreg ?_))); refine au 3 rfl <| sz (v := .agg #[.int .i64 x0, .int .i64 x1, .int .i64 x2]) (bd_30_0_1_2 rfl rfl rfl) <| pa hc 0 Z30 ?_; clear hc; rintro w4 hc; refine rn (qn (Wret ?_)); have hres := Ctx.cells hc (k := 0) rfl rfl 0 (vs := [.int .i64 x0, .int .i64 x1, .int .i64 x2]) rfl; replace hc := hc.m [1]; obtain rfl := sj hp; refine f1c (cs := [.int .i64 x0, .int .i64 x1, .int .i64 x2]) R9 M9 rfl G30 Z30 rfl hres ?_; exact ⟨_, rfl, k _ hc⟩

def cache_Store_Drop (N : Nat) (x0 : S_cache_Store) (x1 : (List Int)) : Option (Int × S_cache_Store) :=
  (maps_DeleteFunc_map_api_Spot_cache_rows_api_Spot_cache_rows N x0.m (fun (y6_ : S_api_Spot) (y7_ : S_cache_rows) =>
    (slices_Contains_s_int_int N x1 y6_.Request).bind fun r22_ =>
    some r22_)).bind fun r24 =>
  (some (IntKind.i64.wrap (((x0.m.length : Nat) : Int) - ((r24.length : Nat) : Int)))).bind fun e26 =>
  some (e26, (⟨x0.room, r24⟩ : S_cache_Store))

theorem cache_Store_Drop_any {N b0 nx1 qx1 : Nat} {x0 : S_cache_Store} {x1 : (List Int)} {ax1 : Option Addr} {P1 : HP} {Fr : List HP} {w : World} {r : Int × S_cache_Store} {K : Value → World → Prop} (hrd1 : Reads P1 (pInt .i64) (.slice ax1 nx1 qx1) x1) (hc : Ctx w (S_cache_Store.hp b0 x0 :: P1 :: Fr)) (hp : cache_Store_Drop N x0 x1 = some r)
    (k : ∀ w', Ctx w' (S_cache_Store.hp b0 r.2 :: P1 :: Fr) → K (.int .i64 r.1) w') : Calls Try.prog 10 #[pt b0 0, .slice ax1 nx1 qx1] w (Ret K) := by
 unfold cache_Store_Drop at hp; refine Center2 F10 M10 rfl rfl ?_; obtain ⟨hn1, _⟩ := Ctx.rdLen hc (k := 1) rfl rfl hrd1; subst hn1; refine Wseq (Wreg ?_); refine rsE (Ctx.boxOp (cs := [.slice ax1 x1.length qx1]) (v := .slice ax1 x1.length qx1) hc rfl rfl) rfl ?_; clear hc; rintro _ w3 ⟨b1, rfl, hc⟩; refine au 1 rfl <| rn (qn (Wseq (Wreg ?_))); refine au 2 rfl <| sz (v := pt b0 1) (fax 1 rfl U63 rfl Z61 rfl rfl rfl) ?_; replace hc := hc.m [2]; replace hc := S_cache_Store.uf hc; obtain ⟨v4, hc⟩ := hc; refine sz (ld rfl G61 (Ctx.cell hc (k := 0) rfl rfl rfl)) <| sz (v := .int .i64 ((x0.m.length : Nat) : Int)) (Ctx.mpLen hc (i := 1) rfl rfl U61 rfl) <| au 1 rfl <| rn (qn (Wseq (Wreg ?_))); refine au 2 rfl ?_; refine fq 1 U63 Z61 G61 hc 0 ?_; refine sz (v := .func (.func 25) #[] #[pt b1 0]) (mkf rfl rfl) ?_; replace hc := hc.m [2]; have hf5 : ∀ (y0 : S_api_Spot) (y1 : S_cache_rows) (a24 : Option Addr) (n25 : Nat) (q26 : Nat) (a27 : Option Addr) (n28 : Nat) (q29 : Nat) (Qs : List HP) (w : World) (r : Bool) (K : Value → World → Prop), Ctx w (Hold (pRo (pInt .i8)) [.slice a24 n25 q26] y1.k :: Hold (pRo (pInt .i8)) [.slice a27 n28 q29] y1.v :: (Qs ++ (B b0 [.int .i64 x0.room, .map (some v4)] 63 :: B b1 [.slice ax1 x1.length qx1] 47 :: P1 :: Fr))) → (fun (y6_ : S_api_Spot) (y7_ : S_cache_rows) =>
          (slices_Contains_s_int_int N x1 y6_.Request).bind fun r22_ =>
          some r22_) y0 y1 = some r → (∀ w', Ctx w' (Qs ++ (B b0 [.int .i64 x0.room, .map (some v4)] 63 :: B b1 [.slice ax1 x1.length qx1] 47 :: P1 :: Fr)) → K (.bool r) w') → Calls Try.prog 25 (([.agg (S_api_Spot.cz y0).toArray, .agg #[.slice a24 n25 q26, .slice a27 n28 q29]] : List Value) ++ ([pt b1 0] : List Value)).toArray w (Ret K) := by
  intro y6 y7 a8 n9 q10 a11 n12 q13 Qs w r K hc hp k; replace hc : Ctx w (B b0 [.int .i64 x0.room, .map (some v4)] 63 :: B b1 [.slice ax1 x1.length qx1] 47 :: P1 :: Hold (pRo (pInt .i8)) [.slice a8 n9 q10] y7.k :: Hold (pRo (pInt .i8)) [.slice a11 n12 q13] y7.v :: (Qs ++ Fr)) := Ctx.front (As := [B b0 [.int .i64 x0.room, .map (some v4)] 63, B b1 [.slice ax1 x1.length qx1] 47, P1]) (Qs := Hold (pRo (pInt .i8)) [.slice a8 n9 q10] y7.k :: Hold (pRo (pInt .i8)) [.slice a11 n12 q13] y7.v :: Qs) hc; refine Center (args := [.agg (S_api_Spot.cz y6).toArray, .agg #[.slice a8 n9 q10, .slice a11 n12 q13], pt b1 0]) (l := [(0, .agg (S_api_Spot.cz y6).toArray), (1, .agg #[.slice a8 n9 q10, .slice a11 n12 q13]), (2, pt b1 0)]) F25 M25 rfl rfl rfl ?_; obtain rfl := hc.rz 3 reads_ro; obtain rfl := hc.rz 4 reads_ro; refine Wseq (Wreg ?_); refine rsE (Ctx.boxOp (cs := (S_api_Spot.cz y6)) (v := .agg (S_api_Spot.cz y6).toArray) hc rfl rfl) rfl ?_; clear hc; rintro _ w18 ⟨b16, rfl, hc⟩; refine rsE (Ctx.boxOp (cs := [.slice a8 y7.k.length q10, .slice a11 y7.v.length q13]) (v := .agg #[.slice a8 y7.k.length q10, .slice a11 y7.v.length q13]) hc rfl rfl) rfl ?_; clear hc; rintro _ w21 ⟨b19, rfl, hc⟩; refine au 1 rfl <| rn (qn (Wseq (Wreg ?_))); refine sz (ld rfl G47 (Ctx.cell hc (k := 3) rfl rfl rfl)) ?_; refine fq 0 U30 Z3 G3 hc 1 ?_; obtain ⟨r22, hr22, hp⟩ := bind_some hp; replace hc := hc.m [8]; refine kz C26 ?_; refine slices_Contains_s_int_int_any hrd1 hc hr22 ?_; clear hc; intro w23 hc; refine au 1 rfl <| rn (qn (Wret ?_)); replace hc := hc.m [13, 11, 5, 3, 4, 4]; obtain rfl := sj hp; replace hc : Ctx w23 (Qs ++ (B b0 [.int .i64 x0.room, .map (some v4)] 63 :: B b1 [.slice ax1 x1.length qx1] 47 :: P1 :: Fr)) := Ctx.front (Qs := [B b0 [.int .i64 x0.room, .map (some v4)] 63, B b1 [.slice ax1 x1.length qx1] 47, P1]) (As := Qs) hc; exact fz R25 M25 (k _ hc)
 obtain ⟨r24, hr24, hp⟩ := bind_some hp; refine kz C24 ?_; refine maps_DeleteFunc_map_api_Spot_cache_rows_api_Spot_cache_rows_any C25 hf5 hc hr24 ?_; clear hc; intro w25 hc; refine rn (qn (Wseq (Wreg ?_))); refine au 3 rfl ?_; refine fq 1 U63 Z61 G61 hc 1 ?_; refine sz (v := .int .i64 ((r24.length : Nat) : Int)) (Ctx.mpLen hc (i := 0) rfl rfl U61 rfl) <| au 1 rfl ?_; obtain ⟨e26, he26, hp⟩ := bind_some hp; injection he26 with he26; refine sz (v := .int .i64 e26) (av (v := .int .i64 e26) (by rw [← he26]; rfl)) <| rn (qn (Wret ?_)); replace hc := hc.m [2]; replace hc := S_cache_Store.fd (x := (⟨x0.room, r24⟩ : S_cache_Store)) hc; replace hc := hc.m [3]; obtain rfl := sj hp; exact fz R10 M10 (k _ hc)

def law12_awake (N : Nat) : Option (Bool) :=
  (cache_New 2).bind fun r1 =>
  optc r1.1 (
    some false) fun y5 =>
  if r1.2 ≠ 0 then
    some false
  else
    (law12_spot 7 0 1).bind fun r12 =>
    (cache_Store_Put N y5 r12 ([1]) ([1])).bind fun r14 =>
    (law12_spot 7 0 0).bind fun r16 =>
    (cache_Store_Put N r14.2 r16 ([1]) ([1])).bind fun r18 =>
    (law12_spot 7 0 1).bind fun r20 =>
    (cache_Store_Put N r18.2 r20 ([1]) ([1])).bind fun r22 =>
    (law12_spot 7 1 0).bind fun r24 =>
    (cache_Store_Put N r22.2 r24 ([1]) ([1])).bind fun r26 =>
    (law12_spot 7 0 0).bind fun r28 =>
    (cache_Store_Put N r26.2 r28 ([1]) ([1])).bind fun r30 =>
    (law12_spot 7 0 0).bind fun r32 =>
    (cache_Store_Put N r30.2 r32 ([1]) ([2])).bind fun r36 =>
    if r14.1 = 120 then
      if r18.1 = 0 then
        if r22.1 = 0 then
          if r26.1 = 80 then
            if r30.1 = 0 then
              if r36.1 = 2 then
                (cache_Store_Drop N r36.2 ([7])).bind fun r46 =>
                some (decide (r46.1 = 2))
              else
                some false
            else
              some false
          else
            some false
        else
          some false
      else
        some false
    else
      some false

theorem law12_awake_any {N : Nat} {Fr : List HP} {w : World} {r : Bool} {K : Value → World → Prop}  (hc : Ctx w (Fr)) (hp : law12_awake N = some r)
    (k : ∀ w', Ctx w' (Fr) → K (.bool r) w') : Calls Try.prog 7 #[] w (Ret K) := by
 unfold law12_awake at hp; refine Center (args := []) (l := []) F7 M7 rfl rfl rfl ?_; refine Wseq (Wreg ?_); refine au 1 rfl <| rn (qn (Wseq (Wreg ?_))); obtain ⟨r1, hr1, hp⟩ := bind_some hp; refine kz C8 ?_; refine cache_New_any hc hr1 ?_; clear hc; intro v2 w3 hc; refine au 5 rfl <| rn (qn (Wseq (Wseq (Wreg ?_)))); refine au 1 rfl ?_; cases hb4 : r1.1
 · replace hp := optN hp hb4; rw [hb4] at hc; replace hc := Ctx.ptoN hc; obtain ⟨u6, hc⟩ := hc; subst u6; refine sz (v := .bool true) (ept U24 rfl rfl) <| au 1 rfl ?_; (iterate 2 refine r0 rfl ?_); refine au 1 rfl <| rn (qn (Wct rfl (Wseq (Wreg ?_)))); refine au 1 rfl <| rn (qn (Wret (qr ?_))); obtain rfl := sj hp; exact fz R7 M7 (k _ hc)
 · rename_i y5; replace hp := optS hp hb4; rw [hb4] at hc; replace hc := Ctx.ptoS hc; obtain ⟨b7, u8, hc⟩ := hc; subst u8; refine sz (v := .bool false) (epf U24 rfl rfl) <| au 4 rfl <| rn (qn ?_); refine Wif hp (fun _ hp => ?_) fun _ hp => ?_
   · refine Wskip (qn (Wseq (Wreg ?_))); refine rsE (oneI hc U31 Z42 V42) rfl ?_; clear hc; rintro _ w11 ⟨a10, rfl, hc⟩; refine au 1 rfl <| rn (qn (Wseq (Wreg ?_))); refine au 1 rfl ?_; obtain ⟨r12, hr12, hp⟩ := bind_some hp; refine kz C9 ?_; refine law12_spot_any hc hr12 ?_; clear hc; intro w13 hc; refine au 2 rfl ?_; replace hc := hc.freeze (k := 0) rfl rfl rfl; replace hc := Ctx.n0 hc; replace hc := hc.dz 0; replace hc := hc.dz 1; obtain ⟨r14, hr14, hp⟩ := bind_some hp; replace hc := hc.m [2, 6]; refine kz C11 ?_; refine cache_Store_Put_any reads_ro reads_ro hc hr14 ?_; clear hc; intro w15 hc; refine au 1 rfl ?_; obtain ⟨r16, hr16, hp⟩ := bind_some hp; refine kz C9 ?_; refine law12_spot_any hc hr16 ?_; clear hc; intro w17 hc; refine au 2 rfl ?_; replace hc := hc.dz 3; replace hc := hc.dz 4; obtain ⟨r18, hr18, hp⟩ := bind_some hp; replace hc := hc.m [2, 4]; refine kz C11 ?_; refine cache_Store_Put_any reads_ro reads_ro hc hr18 ?_; clear hc; intro w19 hc; refine au 1 rfl ?_; obtain ⟨r20, hr20, hp⟩ := bind_some hp; refine kz C9 ?_; refine law12_spot_any hc hr20 ?_; clear hc; intro w21 hc; refine au 2 rfl ?_; replace hc := hc.dz 5; replace hc := hc.dz 6; obtain ⟨r22, hr22, hp⟩ := bind_some hp; replace hc := hc.m [2, 4]; refine kz C11 ?_; refine cache_Store_Put_any reads_ro reads_ro hc hr22 ?_; clear hc; intro w23 hc; refine au 3 rfl <| rn (qn (Wseq (Wreg ?_))); refine au 1 rfl ?_; obtain ⟨r24, hr24, hp⟩ := bind_some hp; refine kz C9 ?_; refine law12_spot_any hc hr24 ?_; clear hc; intro w25 hc; refine au 2 rfl ?_; replace hc := hc.dz 7; replace hc := hc.dz 8; obtain ⟨r26, hr26, hp⟩ := bind_some hp; replace hc := hc.m [2, 4]; refine kz C11 ?_; refine cache_Store_Put_any reads_ro reads_ro hc hr26 ?_; clear hc; intro w27 hc; refine au 1 rfl ?_; obtain ⟨r28, hr28, hp⟩ := bind_some hp; refine kz C9 ?_; refine law12_spot_any hc hr28 ?_; clear hc; intro w29 hc; refine au 2 rfl ?_; replace hc := hc.dz 9; replace hc := hc.dz 10; obtain ⟨r30, hr30, hp⟩ := bind_some hp; replace hc := hc.m [2, 4]; refine kz C11 ?_; refine cache_Store_Put_any reads_ro reads_ro hc hr30 ?_; clear hc; intro w31 hc; refine au 1 rfl ?_; obtain ⟨r32, hr32, hp⟩ := bind_some hp; refine kz C9 ?_; refine law12_spot_any hc hr32 ?_; clear hc; intro w33 hc; refine au 1 rfl ?_; refine rsE (oneI hc U31 Z42 V42) rfl ?_; clear hc; rintro _ w35 ⟨a34, rfl, hc⟩; replace hc := hc.dz 12; obtain ⟨r36, hr36, hp⟩ := bind_some hp; replace hc := hc.m [2, 2, 4]; refine kz C11 ?_; refine cache_Store_Put_any reads_ro reads_own hc hr36 ?_; clear hc; intro w37 hc; refine au 3 rfl <| rn (qn (Wseq (Wreg ?_))); refine au 3 rfl ?_; cases hb38 : (decide (r14.1 = 120))
     · replace hp := gneg hp (of_decide_eq_false hb38); (iterate 2 refine r0 rfl ?_); refine au 2 rfl ?_; (iterate 2 refine r0 rfl ?_); refine au 2 rfl ?_; (iterate 2 refine r0 rfl ?_); refine au 2 rfl ?_; (iterate 2 refine r0 rfl ?_); refine au 2 rfl ?_; (iterate 2 refine r0 rfl ?_); refine au 2 rfl ?_; (iterate 4 refine r0 rfl ?_); refine au 2 rfl <| rn (qn (Wret ?_)); replace hc := hc.m [27, 25, 23, 21, 19, 17, 15, 13, 11, 9, 7, 5, 3, 1]; obtain rfl := sj hp; exact fz R7 M7 (k _ hc)
     · replace hp := gpos hp (of_decide_eq_true hb38); refine au 4 rfl ?_; cases hb39 : (decide (r18.1 = 0))
       · replace hp := gneg hp (of_decide_eq_false hb39); (iterate 2 refine r0 rfl ?_); refine au 2 rfl ?_; (iterate 2 refine r0 rfl ?_); refine au 2 rfl ?_; (iterate 2 refine r0 rfl ?_); refine au 2 rfl ?_; (iterate 2 refine r0 rfl ?_); refine au 2 rfl ?_; (iterate 4 refine r0 rfl ?_); refine au 2 rfl <| rn (qn (Wret ?_)); replace hc := hc.m [27, 25, 23, 21, 19, 17, 15, 13, 11, 9, 7, 5, 3, 1]; obtain rfl := sj hp; exact fz R7 M7 (k _ hc)
       · replace hp := gpos hp (of_decide_eq_true hb39); refine au 4 rfl ?_; cases hb40 : (decide (r22.1 = 0))
         · replace hp := gneg hp (of_decide_eq_false hb40); (iterate 2 refine r0 rfl ?_); refine au 2 rfl ?_; (iterate 2 refine r0 rfl ?_); refine au 2 rfl ?_; (iterate 2 refine r0 rfl ?_); refine au 2 rfl ?_; (iterate 4 refine r0 rfl ?_); refine au 2 rfl <| rn (qn (Wret ?_)); replace hc := hc.m [27, 25, 23, 21, 19, 17, 15, 13, 11, 9, 7, 5, 3, 1]; obtain rfl := sj hp; exact fz R7 M7 (k _ hc)
         · replace hp := gpos hp (of_decide_eq_true hb40); refine au 4 rfl ?_; cases hb41 : (decide (r26.1 = 80))
           · replace hp := gneg hp (of_decide_eq_false hb41); (iterate 2 refine r0 rfl ?_); refine au 2 rfl ?_; (iterate 2 refine r0 rfl ?_); refine au 2 rfl ?_; (iterate 4 refine r0 rfl ?_); refine au 2 rfl <| rn (qn (Wret ?_)); replace hc := hc.m [27, 25, 23, 21, 19, 17, 15, 13, 11, 9, 7, 5, 3, 1]; obtain rfl := sj hp; exact fz R7 M7 (k _ hc)
           · replace hp := gpos hp (of_decide_eq_true hb41); refine au 4 rfl ?_; cases hb42 : (decide (r30.1 = 0))
             · replace hp := gneg hp (of_decide_eq_false hb42); (iterate 2 refine r0 rfl ?_); refine au 2 rfl ?_; (iterate 4 refine r0 rfl ?_); refine au 2 rfl <| rn (qn (Wret ?_)); replace hc := hc.m [27, 25, 23, 21, 19, 17, 15, 13, 11, 9, 7, 5, 3, 1]; obtain rfl := sj hp; exact fz R7 M7 (k _ hc)
             · replace hp := gpos hp (of_decide_eq_true hb42); refine au 4 rfl ?_; cases hb43 : (decide (r36.1 = 2))
               · replace hp := gneg hp (of_decide_eq_false hb43); (iterate 4 refine r0 rfl ?_); refine au 2 rfl <| rn (qn (Wret ?_)); replace hc := hc.m [27, 25, 23, 21, 19, 17, 15, 13, 11, 9, 7, 5, 3, 1]; obtain rfl := sj hp; exact fz R7 M7 (k _ hc)
               · replace hp := gpos hp (of_decide_eq_true hb43); refine au 1 rfl ?_; refine rsE (oneI hc U47 Z3 V3) rfl ?_; clear hc; rintro _ w45 ⟨a44, rfl, hc⟩; obtain ⟨r46, hr46, hp⟩ := bind_some hp; replace hc := hc.m [2]; refine kz C10 ?_; refine cache_Store_Drop_any reads_own hc hr46 ?_; clear hc; intro w47 hc; refine au 3 rfl <| rn (qn (Wret ?_)); replace hc := hc.m [29, 27, 25, 23, 21, 19, 17, 15, 13, 11, 9, 7, 5, 3, 1]; obtain rfl := sj hp; exact fz R7 M7 (k _ hc)
   · refine Wseq (Wreg ?_); refine au 1 rfl <| rn (qn (Wret (qr ?_))); replace hc := hc.m [1]; obtain rfl := sj hp; exact fz R7 M7 (k _ hc)

def ref04_Bytes.L1 (x0 : (List Int)) (x1 : (List Int)) : Nat → Int → Option (Bool)
  | 0, _ => none
  | m1 + 1, j2 =>
    if j2 < ((x0.length : Nat) : Int) then
      (idx x0 j2).bind fun y6 =>
      (idx x1 j2).bind fun y15 =>
      if y6 ≠ y15 then
        some false
      else
        (ref04_Bytes.L1 x0 x1 m1) (IntKind.i64.wrap (j2 + 1))
    else
      some true

def ref04_Bytes (N : Nat) (x0 : (List Int)) (x1 : (List Int)) : Option (Bool) :=
  if ((x0.length : Nat) : Int) ≠ ((x1.length : Nat) : Int) then
    some false
  else
    ref04_Bytes.L1 x0 x1 N 0

theorem ref04_Bytes_any {N nx0 qx0 nx1 qx1 : Nat} {x0 x1 : (List Int)} {ax0 ax1 : Option Addr} {P0 P1 : HP} {Fr : List HP} {w : World} {r : Bool} {K : Value → World → Prop} (hrd0 : Reads P0 (pInt .i8) (.slice ax0 nx0 qx0) x0) (hrd1 : Reads P1 (pInt .i8) (.slice ax1 nx1 qx1) x1) (hc : Ctx w (P0 :: P1 :: Fr)) (hp : ref04_Bytes N x0 x1 = some r)
    (k : ∀ w', Ctx w' (P0 :: P1 :: Fr) → K (.bool r) w') : Calls Try.prog 16 #[.slice ax0 nx0 qx0, .slice ax1 nx1 qx1] w (Ret K) := by
 unfold ref04_Bytes at hp; refine Center2 F16 M16 rfl rfl ?_; obtain ⟨hn0, _⟩ := Ctx.rdLen hc (k := 0) rfl rfl hrd0; subst hn0; obtain ⟨hn1, _⟩ := Ctx.rdLen hc (k := 1) rfl rfl hrd1; subst hn1; refine Wseq (Wreg ?_); refine au 1 rfl <| rn (qn (Wseq (Wseq (Wreg ?_)))); refine au 1 rfl <| sz (ln rfl U31) <| au 1 rfl <| sz (ln rfl U31) <| au 1 rfl <| rn (qn ?_); refine Wif hp (fun _ hp => ?_) fun _ hp => ?_
 · refine Wskip (qn (Wseq (Wseq (Wreg ?_)))); refine au 1 rfl <| rn (qn (Wblk ?_)); refine Wloop (rg [4, 2, 11, 15]) [5] (fun m vs w' => ∃ j2 : Int, vs = [.int .i64 j2] ∧ ref04_Bytes.L1 x0 x1 m j2 = some r ∧ Ctx w' (P0 :: P1 :: Fr)) N ?_ ?_
   · exact ⟨0, rfl, hp, hc⟩
   · clear hp hc; intro m vs u w3 hJ; obtain ⟨j2, rfl, hp, hc⟩ := hJ; rcases m with _ | m1
     · cases (show none = some r from hp)
     rw [ref04_Bytes.L1] at hp; refine Wseq (Wseq (Wreg ?_)); refine au 2 rfl <| sz (ln rfl U31) <| au 1 rfl <| rn (qn ?_); refine Wif hp (fun _ hp => ?_) fun _ hp => ?_
     · refine Wexit (qx (qx (be (qn (Wseq (Wreg ?_)))))); refine au 1 rfl <| rn (qn (Wret ?_)); obtain rfl := sj hp; exact fz R16 M16 (k _ hc)
     · refine Wskip (qn (Wseq (Wblk (Wseq ?_)))); replace hc := hc.drew; refine Wdrw (fun _ w' => w' = World.drew w3) [0, 0, 3, 7, 0, 0, 48, 112, 255] 0 0 rfl (by kernel_rfl) (fun _ _ => rfl) ?_; generalize hw : World.drew w3 = w5 at *; clear hw; refine ad_ 2 rfl ?_; obtain ⟨y6, hy6, hp⟩ := bind_some hp; obtain ⟨b9, o10, rfl, hi7, hi8⟩ := hc.ra 0 hrd0 hy6; refine dE (ixx rfl rfl U31 Z42 hi7 hi8 rfl) rfl rfl ?_; have hcell13 := hc.rv 0 hrd0 hy6; refine dE (ld rfl G42 (hcell13 0 _ rfl)) rfl rfl <| ad_ 2 rfl ?_; obtain ⟨y15, hy15, hp⟩ := bind_some hp; obtain ⟨b18, o19, rfl, hi16, hi17⟩ := hc.ra 1 hrd1 hy15; refine dE (ixx rfl rfl U31 Z42 hi16 hi17 rfl) rfl rfl ?_; have hcell22 := hc.rv 1 hrd1 hy15; refine dE (ld rfl G42 (hcell22 0 _ rfl)) rfl rfl <| ad_ 1 rfl <| dn (qn ?_); refine Wif hp (fun _ hp => ?_) fun _ hp => ?_
       · refine Wskip (bn (qn (Wreg ?_))); refine au 3 rfl <| rn (qn ?_); exact ⟨m1, Nat.lt_succ_self _, ⟨(IntKind.i64.wrap (j2 + 1)), rfl, hp, hc⟩, (kl rfl k0)⟩
       · refine Wseq (Wreg ?_); refine au 1 rfl <| rn (qn (Wret (br (qr (qr (br (qr ?_))))))); obtain rfl := sj hp; exact fz R16 M16 (k _ hc)
 · refine Wseq (Wreg ?_); refine au 1 rfl <| rn (qn (Wret (qr ?_))); obtain rfl := sj hp; exact fz R16 M16 (k _ hc)

def law12_CacheStays.L4 (x0 : (List Int)) (j24 : Int) (j57 : S_cache_Store) (k1 : S_cache_Store → Int → Option (Bool)) : Nat → (List (List Int)) → Int → Option (Bool)
  | 0, _, _ => none
  | m4 + 1, j127, j128 =>
    if j128 < ((x0.length : Nat) : Int) then
      (idx j127 (0 : Int)).bind fun y131 =>
      (idx y131 j128).bind fun y146 =>
      (law12_CacheStays.L4 x0 j24 j57 k1 m4) (j127.set ((0 : Int)).toNat (y131.set (j128).toNat 9)) (IntKind.i64.wrap (j128 + 1))
    else
      k1 j57 (IntKind.i64.wrap (j24 + 1))

def law12_CacheStays.L3 (N : Nat) (x0 : (List Int)) (j24 : Int) (j57 : S_cache_Store) (r70 : ((List Int) × (List Int) × Bool)) (k1 : S_cache_Store → Int → Option (Bool)) : Nat → (List Int) → (List Int) → Int → Option (Bool)
  | 0, _, _, _ => none
  | m3 + 1, j87, j91, j95 =>
    if j95 < ((r70.1.length : Nat) : Int) then
      (idx j91 j95).bind fun y153 =>
      (idx j87 j95).bind fun y160 =>
      (law12_CacheStays.L3 N x0 j24 j57 r70 k1 m3) (j87.set (j95).toNat 0) (j91.set (j95).toNat 0) (IntKind.i64.wrap (j95 + 1))
    else
      (cache_Store_Line N j57 3 1).bind fun r98 =>
      if ((r98.1.length : Nat) : Int) < 1 then
        some false
      else
        (idx r98.1 (0 : Int)).bind fun y109 =>
        (ref04_Bytes N y109 x0).bind fun r124 =>
        if r124 = true then
          law12_CacheStays.L4 x0 j24 j57 k1 N r98.1 0
        else
          some false

def law12_CacheStays.J2 (N : Nat) (x0 : (List Int)) (x1 : (List Int)) (j24 : Int) (k1 : S_cache_Store → Int → Option (Bool)) (j57 : S_cache_Store) : Option (Bool) :=
  (law12_spot 3 1 0).bind fun r68 =>
  (cache_Store_Get j57 r68).bind fun r70 =>
  if r70.2.2 = true then
    (ref04_Bytes N r70.1 x0).bind fun r81 =>
    if r81 = true then
      (ref04_Bytes N r70.2.1 x1).bind fun r84 =>
      if r84 = true then
        law12_CacheStays.L3 N x0 j24 j57 r70 k1 N r70.2.1 r70.1 0
      else
        some false
    else
      some false
  else
    some false

def law12_CacheStays.L1 (N : Nat) (x0 : (List Int)) (x1 : (List Int)) (x2 : (List S_law12_Act)) : Nat → S_cache_Store → Int → Option (Bool)
  | 0, _, _ => none
  | m1 + 1, j23, j24 =>
    if j24 < ((x2.length : Nat) : Int) then
      (idx x2 j24).bind fun y38 =>
      if ((y38.K.length : Nat) : Int) > 100 then
        some true
      else
        if ((y38.V.length : Nat) : Int) > 100 then
          some true
        else
          if y38.Kind = 0 then
            (cache_Store_Put N j23 (⟨y38.At.Request, y38.At.Layer, y38.At.Place⟩ : S_api_Spot) y38.K y38.V).bind fun r65 =>
            law12_CacheStays.J2 N x0 x1 j24 (law12_CacheStays.L1 N x0 x1 x2 m1) r65.2
          else
            if y38.Kind = 1 then
              if y38.At.Request ≠ 3 then
                (cache_Store_Drop N j23 ([y38.At.Request])).bind fun r63 =>
                law12_CacheStays.J2 N x0 x1 j24 (law12_CacheStays.L1 N x0 x1 x2 m1) r63.2
              else
                law12_CacheStays.J2 N x0 x1 j24 (law12_CacheStays.L1 N x0 x1 x2 m1) j23
            else
              law12_CacheStays.J2 N x0 x1 j24 (law12_CacheStays.L1 N x0 x1 x2 m1) j23
    else
      (cache_Store_Drop N j23 ([3])).bind fun r29 =>
      if r29.1 ≥ 1 then
        (cache_Store_Requests N r29.2).bind fun r32 =>
        some (decide (((r32.length : Nat) : Int) ≤ ((x2.length : Nat) : Int)))
      else
        some false

def law12_CacheStays (N : Nat) (x0 : (List Int)) (x1 : (List Int)) (x2 : (List S_law12_Act)) : Option (Bool) :=
  (law12_awake N).bind fun r1 =>
  if r1 = true then
    if ((x0.length : Nat) : Int) > 100 then
      (law12_awake N).bind fun r171 =>
      some r171
    else
      if ((x1.length : Nat) : Int) ≠ ((x0.length : Nat) : Int) then
        (law12_awake N).bind fun r169 =>
        some r169
      else
        if ((x2.length : Nat) : Int) > 60 then
          (law12_awake N).bind fun r167 =>
          some r167
        else
          (cache_New 50).bind fun r9 =>
          optc r9.1 (
            some false) fun y13 =>
          if r9.2 ≠ 0 then
            some false
          else
            (law12_spot 3 1 0).bind fun r18 =>
            (cache_Store_Put N y13 r18 x0 x1).bind fun r20 =>
            if r20.1 ≠ 0 then
              some false
            else
              law12_CacheStays.L1 N x0 x1 x2 N r20.2 0
  else
    (law12_awake N).bind fun r4 =>
    some r4

theorem law12_CacheStays_any {N nx0 qx0 nx1 qx1 nx2 qx2 : Nat} {x0 x1 : (List Int)} {ax0 ax1 ax2 : Option Addr} {P0 P1 P2 : HP} {x2 : (List S_law12_Act)} {Fr : List HP} {w : World} {r : Bool} {K : Value → World → Prop} (hrd0 : Reads P0 (pInt .i8) (.slice ax0 nx0 qx0) x0) (hrd1 : Reads P1 (pInt .i8) (.slice ax1 nx1 qx1) x1) (hrd2 : Reads P2 S_law12_Act.pr (.slice ax2 nx2 qx2) x2) (hc : Ctx w (P0 :: P1 :: P2 :: Fr)) (hp : law12_CacheStays N x0 x1 x2 = some r)
    (k : ∀ w', Ctx w' (P0 :: P1 :: P2 :: Fr) → K (.bool r) w') : Calls Try.prog 5 #[.slice ax0 nx0 qx0, .slice ax1 nx1 qx1, .slice ax2 nx2 qx2] w (Ret K) := by
 unfold law12_CacheStays at hp; refine Center3 F5 M5 rfl rfl ?_; obtain ⟨hn0, _⟩ := Ctx.rdLen hc (k := 0) rfl rfl hrd0; subst hn0; obtain ⟨hn1, _⟩ := Ctx.rdLen hc (k := 1) rfl rfl hrd1; subst hn1; obtain ⟨hn2, _⟩ := Ctx.rdLen hc (k := 2) rfl rfl hrd2; subst hn2; refine Wseq (Wreg ?_); refine au 1 rfl <| rn (qn (Wseq (Wseq (Wreg ?_)))); replace hp := bind_some hp; obtain ⟨r1, hr1, hp⟩ := hp; refine kz C7 ?_; refine law12_awake_any hc hr1 ?_; clear hc; intro w2 hc; cases hb3 : r1
 · replace hp := gneg hp (by rw [hb3]; exact Bool.false_ne_true); subst hb3; refine au 2 rfl ?_; (iterate 3 refine r0 rfl ?_); refine au 2 rfl ?_; (iterate 5 refine r0 rfl ?_); refine au 2 rfl ?_; (iterate 3 refine r0 rfl ?_); refine au 1 rfl <| rn (qn (Wct rfl (Wseq (Wreg ?_)))); replace hp := bind_some hp; obtain ⟨r4, hr4, hp⟩ := hp; refine kz C7 ?_; refine law12_awake_any hc hr4 ?_; clear hc; intro w5 hc; refine au 1 rfl <| rn (qn (Wret (qr ?_))); obtain rfl := sj hp; exact fz R5 M5 (k _ hc)
 · replace hp := gpos hp hb3; subst hb3; refine au 3 rfl <| sz (ln rfl U31) <| au 3 rfl ?_; cases hb6 : (decide (((x0.length : Nat) : Int) > 100))
   · replace hp := gneg hp (of_decide_eq_false hb6); refine au 1 rfl <| sz (ln rfl U31) <| au 1 rfl <| sz (ln rfl U31) <| au 3 rfl ?_; cases hb7 : (decide (((x1.length : Nat) : Int) ≠ ((x0.length : Nat) : Int)))
     · replace hp := gneg hp (of_decide_eq_false hb7); refine au 1 rfl <| sz (ln rfl U22) <| au 2 rfl <| rn (qn ?_); refine Wif hp (fun _ h => ?_) fun _ h => ?_
       · replace hp := h; clear h; refine Wskip (qn (Wseq (Wreg ?_))); replace hp := bind_some hp; obtain ⟨r9, hr9, hp⟩ := hp; refine kz C8 ?_; refine cache_New_any hc hr9 ?_; clear hc; intro v10 w11 hc; refine au 5 rfl <| rn (qn (Wseq (Wseq (Wreg ?_)))); refine au 1 rfl ?_; cases hb12 : r9.1
         · replace hp := optN hp hb12; rw [hb12] at hc; replace hc := Ctx.ptoN hc; obtain ⟨u14, hc⟩ := hc; subst u14; refine sz (v := .bool true) (ept U24 rfl rfl) <| au 1 rfl ?_; (iterate 2 refine r0 rfl ?_); refine au 2 rfl ?_; (iterate 6 refine r0 rfl ?_); refine au 1 rfl <| rn (qn (Wct rfl (Wseq (Wreg ?_)))); refine au 1 rfl <| rn (qn (Wret (qr ?_))); obtain rfl := sj hp; exact fz R5 M5 (k _ hc)
         · rename_i y13; replace hp := optS hp hb12; rw [hb12] at hc; replace hc := Ctx.ptoS hc; obtain ⟨b15, u16, hc⟩ := hc; subst u16; refine sz (v := .bool false) (epf U24 rfl rfl) <| au 5 rfl ?_; cases hb17 : (decide (r9.2 ≠ 0))
           · replace hp := gneg hp (of_decide_eq_false hb17); refine au 1 rfl ?_; replace hp := bind_some hp; obtain ⟨r18, hr18, hp⟩ := hp; refine kz C9 ?_; refine law12_spot_any hc hr18 ?_; clear hc; intro w19 hc; refine au 2 rfl ?_; replace hp := bind_some hp; obtain ⟨r20, hr20, hp⟩ := hp; replace hc := hc.m [4, 4, 4]; refine kz C11 ?_; refine cache_Store_Put_any hrd0 hrd1 hc hr20 ?_; clear hc; intro w21 hc; refine au 2 rfl <| rn (qn ?_); refine Wif hp (fun _ h => ?_) fun _ h => ?_
             · replace hp := h; clear h; refine Wskip (qn (Wseq (Wseq (Wreg ?_)))); refine au 1 rfl <| rn (qn (Wblk ?_)); refine Wloop (rg [6, 1, 9, 9, 56, 104]) [9] (fun m vs w' => ∃ j23 : S_cache_Store, ∃ j24 : Int, vs = [.int .i64 j24] ∧ law12_CacheStays.L1 N x0 x1 x2 m j23 j24 = some r ∧ Ctx w' (S_cache_Store.hp b15 j23 :: P0 :: P1 :: P2 :: Fr)) N ?_ ?_
               · exact ⟨r20.2, 0, rfl, hp, hc⟩
               · clear hp hc; intro m vs u w25 hJ; obtain ⟨j23, j24, rfl, hp, hc⟩ := hJ; rcases m with _ | m1
                 · cases (show none = some r from hp)
                 rw [law12_CacheStays.L1] at hp; refine Wseq (Wseq (Wreg ?_)); refine au 2 rfl <| sz (ln rfl U22) <| au 1 rfl <| rn (qn ?_); refine Wif hp (fun _ h => ?_) fun _ h => ?_
                 · replace hp := h; clear h; refine Wexit (qx (qx (be (qn (Wseq (Wreg ?_)))))); refine au 1 rfl ?_; refine rsE (oneI hc U47 Z3 V3) rfl ?_; clear hc; rintro _ w28 ⟨a27, rfl, hc⟩; replace hp := bind_some hp; obtain ⟨r29, hr29, hp⟩ := hp; replace hc := hc.m [2]; refine kz C10 ?_; refine cache_Store_Drop_any reads_own hc hr29 ?_; clear hc; intro w30 hc; refine au 2 rfl ?_; cases hb31 : (decide (r29.1 ≥ 1))
                   · replace hp := gneg hp (of_decide_eq_false hb31); (iterate 6 refine r0 rfl ?_); refine au 2 rfl <| rn (qn (Wret ?_)); replace hc := hc.m [3, 1]; obtain rfl := sj hp; exact fz R5 M5 (k _ hc)
                   · replace hp := gpos hp (of_decide_eq_true hb31); refine au 1 rfl ?_; replace hp := bind_some hp; obtain ⟨r32, hr32, hp⟩ := hp; refine kz C17 ?_; refine cache_Store_Requests_any hc hr32 ?_; clear hc; intro a33 n34 q35 w36 hc; obtain rfl := hc.rz 0 reads_own; refine sz (ln rfl U47) <| au 1 rfl <| sz (ln rfl U22) <| au 3 rfl <| rn (qn (Wret ?_)); replace hc := hc.m [5, 3, 1]; obtain rfl := sj hp; exact fz R5 M5 (k _ hc)
                 · replace hp := h; clear h; refine Wskip (qn (Wseq (Wblk (Wseq (Wreg ?_))))); refine au 2 rfl ?_; replace hp := bind_some hp; obtain ⟨y38, hy38, hp⟩ := hp; obtain ⟨b41, o42, rfl, hi39, hi40⟩ := hc.ra 3 hrd2 hy38; refine sz (ixx rfl rfl U22 Z33 hi39 hi40 rfl) ?_; replace hc := Ctx.rdCell hc (k := 3) rfl rfl hrd2 hy38; obtain ⟨cs44, hc, hcell45⟩ := hc; replace hc := S_law12_Act.op hc; obtain ⟨a47, q48, a49, q50, u46, hc⟩ := hc; subst u46; refine sz (v := .agg (S_law12_Act.cz y38 a47 q48 a49 q50).toArray) (ldg rfl G33 Z33 rfl (elCells hcell45 0 (vs := (S_law12_Act.cz y38 a47 q48 a49 q50)) rfl)) ?_; refine rsE (Ctx.allocOp (cs := [.int .i64 0, .int .i64 0, .int .i64 0, .int .i64 0, .slice none 0 0, .slice none 0 0]) hc V33 rfl) rfl ?_; clear hc; rintro _ w53 ⟨b51, rfl, hc⟩; refine pa hc 0 Z33 ?_; clear hc; rintro w54 hc; refine rn (qn (Wseq (Wseq (Wreg ?_)))); refine fq 4 U33 Z31 G31 hc 0 ?_; refine sz (ln rfl U31) <| au 2 rfl ?_; cases hb55 : (decide (((y38.K.length : Nat) : Int) > 100))
                   · replace hp := gneg hp (of_decide_eq_false hb55); refine fq 5 U33 Z31 G31 hc 0 ?_; refine sz (ln rfl U31) <| au 2 rfl <| rn (qn ?_); refine Wif hp (fun _ h => ?_) fun _ h => ?_
                     · replace hp := h; clear h; refine Wskip (qn ?_); refine Wseqm (rg [76, 24]) [] (fun vs w' => ∃ j57 : S_cache_Store, vs = [] ∧ law12_CacheStays.J2 N x0 x1 j24 (law12_CacheStays.L1 N x0 x1 x2 m1) j57 = some r ∧ Ctx w' (S_cache_Store.hp b15 j57 :: P0 :: P1 :: P2 :: Fr)) ?_ ?_
                       · refine Wseq (Wreg ?_); refine fq 0 U33 Z3 G3 hc 0 ?_; refine rn (qn (Wblk (Wseq (Wreg ?_)))); refine au 2 rfl <| rn (qn ?_); refine Wif hp (fun _ h => ?_) fun _ h => ?_
                         · replace hp := h; clear h; refine Wseq (Wreg ?_); refine au 2 rfl <| rn (qn ?_); refine Wif hp (fun _ h => ?_) fun _ h => ?_
                           · replace hp := h; clear h; refine Wskip (bn (qn ?_)); replace hc := hc.m [5, 3, 1]; exact ⟨⟨j23, rfl, hp, hc⟩, (kl rfl kb)⟩
                           · replace hp := h; clear h; refine Wseq (Wreg ?_); refine sz (v := pt b51 1) (fax 1 rfl U33 rfl Z30 rfl rfl rfl) ?_; refine fq 0 U30 Z3 G3 hc 0 ?_; refine au 1 rfl <| rn (qn ?_); refine Wif hp (fun _ h => ?_) fun _ h => ?_
                             · replace hp := h; clear h; refine Wskip (bn (qn ?_)); replace hc := hc.m [5, 3, 1]; exact ⟨⟨j23, rfl, hp, hc⟩, (kl rfl kb)⟩
                             · replace hp := h; clear h; refine Wreg <| au 1 rfl <| sz (v := pt b51 1) (fax 1 rfl U33 rfl Z30 rfl rfl rfl) ?_; refine fq 0 U30 Z3 G3 hc 0 ?_; refine rsE (oneI hc U47 Z3 V3) rfl ?_; clear hc; rintro _ w62 ⟨a61, rfl, hc⟩; replace hp := bind_some hp; obtain ⟨r63, hr63, hp⟩ := hp; replace hc := hc.m [8]; refine kz C10 ?_; refine cache_Store_Drop_any reads_own hc hr63 ?_; clear hc; intro w64 hc; refine rn (bn (qn ?_)); replace hc := hc.m [9, 7, 5, 3]; exact ⟨⟨r63.2, rfl, hp, hc⟩, (kl rfl kb)⟩
                         · replace hp := h; clear h; refine Wreg <| au 1 rfl <| sz (v := pt b51 1) (fax 1 rfl U33 rfl Z30 rfl rfl rfl) <| lg G30 Z30 hc 0 ?_; refine fq 4 U33 Z31 G31 hc 0 ?_; refine fq 5 U33 Z31 G31 hc 0 ?_; replace hc := hc.dz 1; replace hc := hc.dz 3; replace hp := bind_some hp; obtain ⟨r65, hr65, hp⟩ := hp; replace hc := hc.m [2, 10]; refine kz C11 ?_; refine cache_Store_Put_any (x1 := y38.At) reads_ro reads_ro hc hr65 ?_; clear hc; intro w66 hc; refine rn (bn (qn ?_)); replace hc := hc.m [11, 9, 7, 5, 3]; exact ⟨⟨r65.2, rfl, hp, hc⟩, (kl rfl kb)⟩
                       · clear hp hc; intro vs u w67 hJ; obtain ⟨j57, rfl, hp, hc⟩ := hJ; unfold law12_CacheStays.J2 at hp; refine Wseq (Wreg ?_); refine au 1 rfl ?_; replace hp := bind_some hp; obtain ⟨r68, hr68, hp⟩ := hp; refine kz C9 ?_; refine law12_spot_any hc hr68 ?_; clear hc; intro w69 hc; replace hp := bind_some hp; obtain ⟨r70, hr70, hp⟩ := hp; refine kz C15 ?_; refine cache_Store_Get_any hc hr70 ?_; clear hc; intro a71 n72 q73 a74 n75 q76 w77 hc; obtain rfl := hc.rz 0 reads_own; obtain rfl := hc.rz 1 reads_own; refine au 7 rfl <| rn (qn (Wseq (Wseq (Wreg ?_)))); refine au 1 rfl ?_; cases hb80 : r70.2.2
                         · replace hp := gneg hp (by rw [hb80]; exact Bool.false_ne_true); refine au 2 rfl ?_; (iterate 4 refine r0 rfl ?_); refine au 2 rfl ?_; (iterate 4 refine r0 rfl ?_); refine au 1 rfl <| rn (qn (Wct rfl (Wseq (Wreg ?_)))); refine au 1 rfl <| rn (qn (Wret (qr (br (qr (qr (br (qr ?_)))))))); replace hc := hc.m [5, 3, 1]; obtain rfl := sj hp; exact fz R5 M5 (k _ hc)
                         · replace hp := gpos hp hb80; refine au 4 rfl ?_; replace hp := bind_some hp; obtain ⟨r81, hr81, hp⟩ := hp; replace hc := hc.m [6, 2]; refine kz C16 ?_; refine ref04_Bytes_any reads_own hrd0 hc hr81 ?_; clear hc; intro w82 hc; cases hb83 : r81
                           · replace hp := gneg hp (by rw [hb83]; exact Bool.false_ne_true); subst hb83; refine au 3 rfl ?_; (iterate 4 refine r0 rfl ?_); refine au 1 rfl <| rn (qn (Wct rfl (Wseq (Wreg ?_)))); refine au 1 rfl <| rn (qn (Wret (qr (br (qr (qr (br (qr ?_)))))))); replace hc := hc.m [7, 5, 1]; obtain rfl := sj hp; exact fz R5 M5 (k _ hc)
                           · replace hp := gpos hp hb83; subst hb83; refine au 5 rfl ?_; replace hp := bind_some hp; obtain ⟨r84, hr84, hp⟩ := hp; replace hc := hc.m [8, 6]; refine kz C16 ?_; refine ref04_Bytes_any reads_own hrd1 hc hr84 ?_; clear hc; intro w85 hc; cases hb86 : r84
                             · replace hp := gneg hp (by rw [hb86]; exact Bool.false_ne_true); subst hb86; refine au 2 rfl <| rn (qn (Wct rfl (Wseq (Wreg ?_)))); refine au 1 rfl <| rn (qn (Wret (qr (br (qr (qr (br (qr ?_)))))))); replace hc := hc.m [9, 5, 1, 4, 2, 4]; obtain rfl := sj hp; exact fz R5 M5 (k _ hc)
                             · replace hp := gpos hp hb86; subst hb86; refine au 2 rfl <| rn (qn (Wcf rfl (Wskip (qn (Wseq (Wseq (Wreg ?_))))))); refine au 1 rfl <| rn (qn (Wblk ?_)); refine Wloop (rg [14, 1, 121, 12]) [14] (fun m vs w' => ∃ j87 : (List Int), ∃ j91 : (List Int), ∃ j95 : Int, vs = [.int .i64 j95] ∧ law12_CacheStays.L3 N x0 j24 j57 r70 (law12_CacheStays.L1 N x0 x1 x2 m1) m j87 j91 j95 = some r ∧ Ctx w' (Own (pInt .i8) 42 (.slice a74 r70.2.1.length q76) j87 :: P1 :: Own (pInt .i8) 42 (.slice a71 r70.1.length q73) j91 :: P0 :: S_cache_Store.hp b15 j57 :: P2 :: Fr)) N ?_ ?_
                               · exact ⟨r70.2.1, r70.1, 0, rfl, hp, hc⟩
                               · clear hp hc; intro m vs u w96 hJ; obtain ⟨j87, j91, j95, rfl, hp, hc⟩ := hJ; rcases m with _ | m3
                                 · cases (show none = some r from hp)
                                 rw [law12_CacheStays.L3] at hp; refine Wseq (Wseq (Wreg ?_)); refine au 2 rfl <| sz (ln rfl U31) <| au 1 rfl <| rn (qn ?_); refine Wif hp (fun _ h => ?_) fun _ h => ?_
                                 · replace hp := h; clear h; refine Wexit (qx (qx (be (qn (Wseq (Wreg ?_)))))); refine au 1 rfl ?_; replace hp := bind_some hp; obtain ⟨r98, hr98, hp⟩ := hp; replace hc := hc.m [8]; refine kz C12 ?_; refine cache_Store_Line_any hc hr98 ?_; clear hc; intro a99 n100 q101 a102 n103 q104 w105 hc; have u106 := Ctx.ownVLen' hc (k := 0) rfl rfl; subst u106; have u107 := Ctx.ownVLen' hc (k := 1) rfl rfl; subst u107; refine au 5 rfl <| rn (qn (Wseq (Wseq (Wreg ?_)))); refine au 1 rfl <| sz (ln rfl U37) <| au 2 rfl ?_; cases hb108 : (decide (((r98.1.length : Nat) : Int) < 1))
                                   · replace hp := gneg hp (of_decide_eq_false hb108); refine au 1 rfl ?_; replace hp := bind_some hp; obtain ⟨y109, hy109, hp⟩ := hp; replace hc := Ctx.ownVF hc; obtain ⟨hs110, hl113, hc⟩ := hc; replace hc := Ctx.bigF hc.swap hy109; obtain ⟨a112, ha111, hc⟩ := hc; replace hc := Ctx.exF hc; obtain ⟨v115, hc⟩ := hc; replace hc := Ctx.sepF hc; replace hc := Ctx.puF hc; obtain ⟨u114, hc⟩ := hc; subst u114; obtain ⟨a116, q117, u118⟩ := hc.rd (k := 0) rfl rfl reads_own; subst u118; have hln := Ctx.rdLen hc (k := 2) rfl rfl reads_own; obtain ⟨b121, o122, u123, hi119, hi120⟩ := Ctx.rdAt hc (k := 2) rfl rfl reads_own ha111; clear hln; subst u123; refine sz (ixx rfl rfl U37 Z31 hi119 hi120 rfl) <| sz (ld rfl G31 (Ctx.rdAny hc (k := 2) rfl rfl ha111 0 _ rfl)) <| au 1 rfl ?_; replace hp := bind_some hp; obtain ⟨r124, hr124, hp⟩ := hp; replace hc := hc.m [16, 2]; refine kz C16 ?_; refine ref04_Bytes_any reads_own hrd0 hc hr124 ?_; clear hc; intro w125 hc; cases hb126 : r124
                                     · replace hp := gneg hp (by rw [hb126]; exact Bool.false_ne_true); subst hb126; refine au 2 rfl <| rn (qn (Wct rfl (Wseq (Wreg ?_)))); refine au 1 rfl <| rn (qn (Wret (qr (br (qr (qr (br (qr ?_)))))))); replace hc := hc.m [17, 13, 11, 9, 7, 5, 1]; obtain rfl := sj hp; exact fz R5 M5 (k _ hc)
                                     · replace hp := gpos hp hb126; subst hb126; refine au 2 rfl <| rn (qn (Wcf rfl (Wskip (qn (Wseq (Wreg ?_)))))); refine au 1 rfl <| rn (qn (Wblk ?_)); replace hc : Ctx w125 ((vOwn (pInt .i8) 42).r [.slice a116 y109.length q117] y109 :: P0 :: BigH (vOwn (pInt .i8) 42).r hs110 r98.1 (0 : Int) :: Own (pAny 1) 31 (.slice (some ⟨b121, o122, none⟩) r98.1.length q101) hs110 :: OwnV (vOwn (pInt .i8) 42) 31 (.slice a102 r98.2.length q104) r98.2 :: S_cache_Store.hp b15 j57 :: Own (pInt .i8) 42 (.slice a74 r70.2.1.length q76) j87 :: P1 :: Own (pInt .i8) 42 (.slice a71 r70.1.length q73) j91 :: P2 :: Fr) := Ctx.exB _ _ (Ctx.sepB (Ctx.puB rfl hc)); replace hc := hc.m [6, 6, 4]; replace hc := Ctx.bigB0 hc ha111 hy109; replace hc : Ctx w125 (OwnV (vOwn (pInt .i8) 42) 31 (.slice (some ⟨b121, o122, none⟩) r98.1.length q101) r98.1 :: P0 :: OwnV (vOwn (pInt .i8) 42) 31 (.slice a102 r98.2.length q104) r98.2 :: S_cache_Store.hp b15 j57 :: Own (pInt .i8) 42 (.slice a74 r70.2.1.length q76) j87 :: P1 :: Own (pInt .i8) 42 (.slice a71 r70.1.length q73) j91 :: P2 :: Fr) := Ctx.ownVB hc.swap; replace hc := hc.m [13, 9, 5]; refine Wloop (rg [17, 1, 149, 11]) [17] (fun m vs w' => ∃ j127 : (List (List Int)), ∃ j128 : Int, vs = [.int .i64 j128] ∧ law12_CacheStays.L4 x0 j24 j57 (law12_CacheStays.L1 N x0 x1 x2 m1) m j127 j128 = some r ∧ Ctx w' (OwnV (vOwn (pInt .i8) 42) 31 (.slice (some ⟨b121, o122, none⟩) r98.1.length q101) j127 :: P0 :: S_cache_Store.hp b15 j57 :: P1 :: P2 :: Fr)) N ?_ ?_
                                       · exact ⟨r98.1, 0, rfl, hp, hc⟩
                                       · clear hp hc; intro m vs u w129 hJ; obtain ⟨j127, j128, rfl, hp, hc⟩ := hJ; rcases m with _ | m4
                                         · cases (show none = some r from hp)
                                         rw [law12_CacheStays.L4] at hp; refine Wseq (Wseq (Wreg ?_)); refine au 2 rfl <| sz (ln rfl U31) <| au 1 rfl <| rn (qn ?_); refine Wif hp (fun _ h => ?_) fun _ h => ?_
                                         · replace hp := h; clear h; refine Wexit (qx (qx (be (bn (qn (Wreg ?_)))))); refine au 3 rfl <| rn (qn ?_); replace hc := hc.m [1, 6, 6, 4, 6]; exact ⟨m1, Nat.lt_succ_self _, ⟨j57, (IntKind.i64.wrap (j24 + 1)), rfl, hp, hc⟩, (kl rfl (km rfl (kl rfl (km rfl (kl rfl (km rfl (kl rfl k0)))))))⟩
                                         · replace hp := h; clear h; refine Wskip (qn (Wseq (Wblk (Wreg ?_)))); refine au 1 rfl ?_; replace hp := bind_some hp; obtain ⟨y131, hy131, hp⟩ := hp; replace hc := Ctx.ownVF hc; obtain ⟨hs132, hl135, hc⟩ := hc; replace hc := Ctx.bigF hc.swap hy131; obtain ⟨a134, ha133, hc⟩ := hc; replace hc := Ctx.exF hc; obtain ⟨v137, hc⟩ := hc; replace hc := Ctx.sepF hc; replace hc := Ctx.puF hc; obtain ⟨u136, hc⟩ := hc; subst u136; obtain ⟨a138, q139, u140⟩ := hc.rd (k := 0) rfl rfl reads_own; subst u140; have hln := Ctx.rdLen hc (k := 2) rfl rfl reads_own; obtain ⟨b143, o144, u145, hi141, hi142⟩ := Ctx.rdAt hc (k := 2) rfl rfl reads_own ha133; clear hln; clear u145; refine sz (ixx rfl rfl U37 Z31 hi141 hi142 rfl) <| sz (ld rfl G31 (Ctx.rdAny hc (k := 2) rfl rfl ha133 0 _ rfl)) <| au 1 rfl ?_; replace hp := bind_some hp; obtain ⟨y146, hy146, hp⟩ := hp; obtain ⟨b149, o150, rfl, hi147, hi148⟩ := hc.ra 0 reads_own hy146; refine sz (ixx rfl rfl U31 Z42 hi147 hi148 rfl) ?_; refine ruE (Ctx.ownPutOp hc (k := 0) rfl rfl (z := y146) (z' := 9) hy146 0 rfl (u := .int .i8 9) rfl rfl rfl Z42 (fun _ _ _ h => by cases h; rfl) rfl) rfl ?_; clear hc; rintro w152 hc; replace hc := Ctx.n0 hc; refine rn (bn (qn (Wreg ?_))); refine au 3 rfl <| rn (qn ?_); replace hc : Ctx w152 ((vOwn (pInt .i8) 42).r [.slice (some ⟨b149, o150, none⟩) y131.length q139] (y131.set (j128).toNat 9) :: BigH (vOwn (pInt .i8) 42).r hs132 j127 (0 : Int) :: Own (pAny 1) 31 (.slice (some ⟨b121, o122, none⟩) r98.1.length q101) hs132 :: P0 :: S_cache_Store.hp b15 j57 :: P1 :: P2 :: Fr) := Ctx.exB _ _ (Ctx.sepB (Ctx.puB rfl hc)); replace hc := hc.m [4, 4, 4]; replace hc := Ctx.bigB1 hc ha133 hy131; replace hc : Ctx w152 (OwnV (vOwn (pInt .i8) 42) 31 (.slice (some ⟨b121, o122, none⟩) r98.1.length q101) (j127.set ((0 : Int)).toNat (y131.set (j128).toNat 9)) :: P0 :: S_cache_Store.hp b15 j57 :: P1 :: P2 :: Fr) := Ctx.ownVB hc.swap; exact ⟨m4, Nat.lt_succ_self _, ⟨(j127.set ((0 : Int)).toNat (y131.set (j128).toNat 9)), (IntKind.i64.wrap (j128 + 1)), rfl, hp, hc⟩, (kl rfl k0)⟩
                                   · replace hp := gpos hp (of_decide_eq_true hb108); (iterate 6 refine r0 rfl ?_); refine au 1 rfl <| rn (qn (Wct rfl (Wseq (Wreg ?_)))); refine au 1 rfl <| rn (qn (Wret (qr (br (qr (qr (br (qr ?_)))))))); replace hc := hc.m [11, 7, 5, 3, 1, 4, 2, 4]; obtain rfl := sj hp; exact fz R5 M5 (k _ hc)
                                 · replace hp := h; clear h; refine Wskip (qn (Wseq (Wblk (Wreg ?_)))); refine au 4 rfl ?_; replace hp := bind_some hp; obtain ⟨y153, hy153, hp⟩ := hp; obtain ⟨b156, o157, rfl, hi154, hi155⟩ := hc.ra 2 reads_own hy153; refine sz (ixx rfl rfl U31 Z42 hi154 hi155 rfl) ?_; refine ruE (Ctx.ownPutOp hc (k := 2) rfl rfl (z := y153) (z' := 0) hy153 0 rfl (u := .int .i8 0) rfl rfl rfl Z42 (fun _ _ _ h => by cases h; rfl) rfl) rfl ?_; clear hc; rintro w159 hc; replace hc := Ctx.n2 hc; replace hp := bind_some hp; obtain ⟨y160, hy160, hp⟩ := hp; obtain ⟨b163, o164, rfl, hi161, hi162⟩ := hc.ra 0 reads_own hy160; refine sz (ixx rfl rfl U31 Z42 hi161 hi162 rfl) ?_; refine ruE (Ctx.ownPutOp hc (k := 0) rfl rfl (z := y160) (z' := 0) hy160 0 rfl (u := .int .i8 0) rfl rfl rfl Z42 (fun _ _ _ h => by cases h; rfl) rfl) rfl ?_; clear hc; rintro w166 hc; replace hc := Ctx.n0 hc; refine rn (bn (qn (Wreg ?_))); refine au 3 rfl <| rn (qn ?_); exact ⟨m3, Nat.lt_succ_self _, ⟨(j87.set (j95).toNat 0), (j91.set (j95).toNat 0), (IntKind.i64.wrap (j95 + 1)), rfl, hp, hc⟩, (kl rfl k0)⟩
                     · replace hp := h; clear h; refine Wseq (Wreg ?_); refine au 1 rfl <| rn (qn (Wret (qr (br (qr (qr (br (qr ?_)))))))); replace hc := hc.m [7, 5, 3, 1]; obtain rfl := sj hp; exact fz R5 M5 (k _ hc)
                   · replace hp := gpos hp (of_decide_eq_true hb55); (iterate 4 refine r0 rfl ?_); refine au 1 rfl <| rn (qn (Wct rfl (Wseq (Wreg ?_)))); refine au 1 rfl <| rn (qn (Wret (qr (br (qr (qr (br (qr ?_)))))))); replace hc := hc.m [7, 5, 3, 1]; obtain rfl := sj hp; exact fz R5 M5 (k _ hc)
             · replace hp := h; clear h; refine Wseq (Wreg ?_); refine au 1 rfl <| rn (qn (Wret (qr ?_))); replace hc := hc.m [1]; obtain rfl := sj hp; exact fz R5 M5 (k _ hc)
           · replace hp := gpos hp (of_decide_eq_true hb17); (iterate 6 refine r0 rfl ?_); refine au 1 rfl <| rn (qn (Wct rfl (Wseq (Wreg ?_)))); refine au 1 rfl <| rn (qn (Wret (qr ?_))); replace hc := hc.m [1]; obtain rfl := sj hp; exact fz R5 M5 (k _ hc)
       · replace hp := h; clear h; refine Wseq (Wreg ?_); replace hp := bind_some hp; obtain ⟨r167, hr167, hp⟩ := hp; refine kz C7 ?_; refine law12_awake_any hc hr167 ?_; clear hc; intro w168 hc; refine au 1 rfl <| rn (qn (Wret (qr ?_))); obtain rfl := sj hp; exact fz R5 M5 (k _ hc)
     · replace hp := gpos hp (of_decide_eq_true hb7); (iterate 3 refine r0 rfl ?_); refine au 1 rfl <| rn (qn (Wct rfl (Wseq (Wreg ?_)))); replace hp := bind_some hp; obtain ⟨r169, hr169, hp⟩ := hp; refine kz C7 ?_; refine law12_awake_any hc hr169 ?_; clear hc; intro w170 hc; refine au 1 rfl <| rn (qn (Wret (qr ?_))); obtain rfl := sj hp; exact fz R5 M5 (k _ hc)
   · replace hp := gpos hp (of_decide_eq_true hb6); (iterate 5 refine r0 rfl ?_); refine au 2 rfl ?_; (iterate 3 refine r0 rfl ?_); refine au 1 rfl <| rn (qn (Wct rfl (Wseq (Wreg ?_)))); replace hp := bind_some hp; obtain ⟨r171, hr171, hp⟩ := hp; refine kz C7 ?_; refine law12_awake_any hc hr171 ?_; clear hc; intro w172 hc; refine au 1 rfl <| rn (qn (Wret (qr ?_))); obtain rfl := sj hp; exact fz R5 M5 (k _ hc)

end Go.Proofs.Ytdalpckomnkilaa
end
section
namespace Go.Hp
open Go
theorem W_in {x : Int} (h : -9223372036854775808 ≤ x ∧ x ≤ 9223372036854775807) : IntKind.i64.wrap x = x := IntWalk.i64_in x h
theorem W_succ (k : Nat) (h : k < 4611686018427387904) : IntKind.i64.wrap ((k : Int) + 1) = ((k + 1 : Nat) : Int) := by rw [W_in (by omega)]; rfl
theorem idx_nat {α : Type} (xs : List α) (k : Nat) : idx xs (k : Int) = xs[k]? := by simp [idx]
theorem idx_get {α : Type} (xs : List α) (k : Nat) (h : k < xs.length) : idx xs (k : Int) = some xs[k] := by rw [idx_nat, List.getElem?_eq_getElem h]
theorem app_ok {α : Type} (xs ys : List α) (h : xs.length + ys.length ≤ 4294967296) : app xs ys = some (xs ++ ys) := by unfold app; rw [if_pos h]
theorem chk_ok {α : Type} {p : Prop} [Decidable p] (x : Option α) (h : p) : chk p x = x := by unfold chk; rw [if_pos h]
end Go.Hp
namespace Go.Hp
def tabl {α : Type} (n : Nat) (f : Nat → α) : List α := (List.range n).map f
theorem tabl_len {α : Type} (n : Nat) (f : Nat → α) : (tabl n f).length = n := by simp [tabl]
theorem tabl_get? {α : Type} {n : Nat} {f : Nat → α} {i : Nat} (h : i < n) : (tabl n f)[i]? = some (f i) := by simp [tabl, h]
end Go.Hp
end
section
namespace Go.Hp
open Go
set_option linter.unusedVariables false
set_option linter.unusedSimpArgs false
set_option linter.unusedSectionVars false
theorem optc_some {α β : Type} (x : α) (a : Option β) (f : α → Option β) : optc (some x) a f = f x := rfl
section
variable {κ β : Type} [DecidableEq κ]
theorem mget_mset (l : List (κ × β)) (k q : κ) (x : β) : mget (mset l k x) q = if q = k then some x else mget l q := by
  induction l with
  | nil => simp only [mset, mget]; by_cases h : q = k
           · subst h; simp
           · rw [if_neg (fun e => h e.symm), if_neg h]
  | cons p l ih =>
    obtain ⟨k', x'⟩ := p
    simp only [mset]
    by_cases hk : k' = k
    · subst hk
      simp only [if_true, mget]
      by_cases h : q = k'
      · subst h; simp
      · rw [if_neg (fun e => h e.symm), if_neg h, if_neg (fun e => h e.symm)]
    · simp only [hk, if_false, mget, ih]
      by_cases h : k' = q
      · subst h; simp [hk]
      · simp [h]
theorem mget_none {l : List (κ × β)} {k : κ} : mget l k = none ↔ k ∉ l.map Prod.fst := by
  induction l with
  | nil => simp [mget]
  | cons p l ih =>
    obtain ⟨k', x'⟩ := p
    simp only [mget]
    by_cases hk : k' = k
    · subst hk; simp
    · simp only [hk, if_false, ih, List.map_cons, List.mem_cons, not_or]
      exact ⟨fun h => ⟨fun e => hk e.symm, h⟩, fun h => h.2⟩
theorem mget_mem {l : List (κ × β)} {k : κ} {x : β} (h : mget l k = some x) : (k, x) ∈ l := by
  induction l with
  | nil => simp [mget] at h
  | cons p l ih =>
    obtain ⟨k', x'⟩ := p
    simp only [mget] at h
    by_cases hk : k' = k
    · subst hk; simp at h; subst h; simp
    · simp only [hk, if_false] at h; simp [ih h]
theorem mget_of_mem {l : List (κ × β)} (hn : (l.map Prod.fst).Nodup) {k : κ} {x : β} (h : (k, x) ∈ l) : mget l k = some x := by
  obtain ⟨j, hj⟩ := List.getElem?_of_mem h
  exact mget_at hn hj
theorem keys_mset (l : List (κ × β)) (k : κ) (x : β) : (mset l k x).map Prod.fst = if k ∈ l.map Prod.fst then l.map Prod.fst else l.map Prod.fst ++ [k] := by
  induction l with
  | nil => simp [mset]
  | cons p l ih =>
    obtain ⟨k', x'⟩ := p
    simp only [mset]
    by_cases hk : k' = k
    · subst hk; simp
    · simp only [hk, if_false, List.map_cons, ih, List.mem_cons]
      by_cases h : k ∈ l.map Prod.fst
      · rw [if_pos h, if_pos (.inr h)]
      · rw [if_neg h, if_neg (fun q => q.elim (fun e => hk e.symm) h)]; rfl
theorem nodup_mset {l : List (κ × β)} (h : (l.map Prod.fst).Nodup) (k : κ) (x : β) : ((mset l k x).map Prod.fst).Nodup := by
  rw [keys_mset]
  split
  · exact h
  · rename_i hk
    rw [List.nodup_append]
    exact ⟨h, by simp, fun a ha b hb e => by simp at hb; subst hb; subst e; exact hk ha⟩
theorem len_mset (l : List (κ × β)) (k : κ) (x : β) : (mset l k x).length = if k ∈ l.map Prod.fst then l.length else l.length + 1 := by
  have := congrArg List.length (keys_mset l k x)
  rw [List.length_map] at this
  rw [this]
  split <;> simp
theorem remK_len (l : List (κ × β)) (seen : List κ) (hn : (l.map Prod.fst).Nodup) {k : κ} (hk : k ∈ remK l seen) : (remK l (k :: seen)).length < (remK l seen).length := by
  have h1 : remK l (k :: seen) = (remK l seen).filter (fun q => decide (q ≠ k)) := by
    unfold remK
    rw [List.filter_filter]
    apply List.filter_congr
    intro q _
    simp [List.mem_cons, not_or, and_comm]
  rw [h1]
  have := List.length_filter_lt_length_iff_exists (l := remK l seen) (p := fun q => decide (q ≠ k))
  rw [this]
  exact ⟨k, hk, by simp⟩
theorem remK_all (l : List (κ × β)) : remK l [] = l.map Prod.fst := by simp [remK]
end
end Go.Hp
end
section
namespace Go.Proofs.Ytdalpckomnkilaa
open Go Go.Hp
set_option linter.unusedVariables false
set_option linter.unusedSimpArgs false
theorem awake12 : law12_awake 1000 = some true := by decide +kernel
theorem index_loop (xs : List Int) (v : Int) (hx : xs.length < 1000) : ∀ (d m k : Nat), k + d = xs.length → d < m → ∃ r, slices_Index_s_int_int.L1 xs v m (k : Int) = some r ∧ (0 ≤ r ↔ v ∈ xs.drop k) := by
  intro d
  induction d with
  | zero =>
    intro m k hk hm
    obtain ⟨m, rfl⟩ : ∃ q, m = q + 1 := ⟨m - 1, by omega⟩
    rw [slices_Index_s_int_int.L1, if_neg (by omega), List.drop_of_length_le (by omega)]
    exact ⟨_, rfl, by simp⟩
  | succ d ih =>
    intro m k hk hm
    obtain ⟨m, rfl⟩ : ∃ q, m = q + 1 := ⟨m - 1, by omega⟩
    have hlt : k < xs.length := by omega
    obtain ⟨r, h1, h2⟩ := ih m (k + 1) (by omega) (by omega)
    rw [slices_Index_s_int_int.L1, if_pos (by omega), idx_get _ _ hlt, List.drop_eq_getElem_cons hlt]
    simp only [Option.bind_some]
    by_cases e : v = xs[k]
    · rw [if_pos e]; exact ⟨(k : Int), rfl, ⟨fun _ => by rw [e]; exact List.mem_cons_self, fun _ => by omega⟩⟩
    · rw [if_neg e, W_succ k (by omega)]
      refine ⟨r, h1, ?_⟩
      rw [h2, List.mem_cons]
      exact ⟨.inr, fun h => h.resolve_left e⟩
theorem contains_eq (xs : List Int) (v : Int) (hx : xs.length < 1000) : slices_Contains_s_int_int 1000 xs v = some (decide (v ∈ xs)) := by
  obtain ⟨r, h1, h2⟩ := index_loop xs v hx xs.length 1000 0 (by omega) (by omega)
  rw [slices_Contains_s_int_int, slices_Index_s_int_int, show (0 : Int) = ((0 : Nat) : Int) from rfl, h1]
  simp only [Option.bind_some, ge_iff_le, List.drop_zero] at h2 ⊢
  congr 1
  exact decide_eq_decide.2 h2
theorem clone_eq (xs : List Int) (hx : xs.length ≤ 4294967296) : slices_Clone_s_int8_int8 xs = some xs := by
  rw [slices_Clone_s_int8_int8, app_ok _ _ (by simpa using hx)]; rfl
theorem drop_ne {xs ys : List Int} {k : Nat} (h1 : k < xs.length) (h2 : k < ys.length) : (xs.drop k = ys.drop k) ↔ xs[k] = ys[k] ∧ xs.drop (k + 1) = ys.drop (k + 1) := by
  have e1 := List.drop_eq_getElem_cons h1
  have e2 := List.drop_eq_getElem_cons h2
  rw [e1, e2, List.cons.injEq]
theorem equal_loop (xs ys : List Int) (hl : xs.length = ys.length) (hx : xs.length < 1000) : ∀ (d m k : Nat), k + d = xs.length → d < m → slices_Equal_s_int8_int8.L1 xs ys m (k : Int) = some (decide (xs.drop k = ys.drop k)) := by
  intro d
  induction d with
  | zero =>
    intro m k hk hm
    obtain ⟨m, rfl⟩ : ∃ q, m = q + 1 := ⟨m - 1, by omega⟩
    rw [slices_Equal_s_int8_int8.L1, if_neg (by omega), List.drop_of_length_le (by omega), List.drop_of_length_le (by omega)]
    simp
  | succ d ih =>
    intro m k hk hm
    obtain ⟨m, rfl⟩ : ∃ q, m = q + 1 := ⟨m - 1, by omega⟩
    have hlt : k < xs.length := by omega
    have hlt2 : k < ys.length := by omega
    rw [slices_Equal_s_int8_int8.L1, if_pos (by omega), idx_get _ _ hlt, idx_get _ _ hlt2]
    simp only [Option.bind_some, W_succ k (by omega), ih m (k + 1) (by omega) (by omega), drop_ne hlt hlt2]
    by_cases e : xs[k] = ys[k] <;> simp [e]
theorem equal_eq (xs ys : List Int) (hx : xs.length < 1000) : slices_Equal_s_int8_int8 1000 xs ys = some (decide (xs = ys)) := by
  rw [slices_Equal_s_int8_int8]
  by_cases hl : xs.length = ys.length
  · rw [if_neg (by simp [hl]), show (0 : Int) = ((0 : Nat) : Int) from rfl, equal_loop xs ys hl hx xs.length 1000 0 (by omega) (by omega)]; simp
  · rw [if_pos (by omega)]
    have : xs ≠ ys := fun h => hl (by rw [h])
    simp [this]
theorem bytes_loop' (xs ys : List Int) (hl : xs.length = ys.length) (hx : xs.length < 1000) : ∀ (d m k : Nat), k + d = xs.length → d < m → ref04_Bytes.L1 xs ys m (k : Int) = some (decide (xs.drop k = ys.drop k)) := by
  intro d
  induction d with
  | zero =>
    intro m k hk hm
    obtain ⟨m, rfl⟩ : ∃ q, m = q + 1 := ⟨m - 1, by omega⟩
    rw [ref04_Bytes.L1, if_neg (by omega), List.drop_of_length_le (by omega), List.drop_of_length_le (by omega)]
    simp
  | succ d ih =>
    intro m k hk hm
    obtain ⟨m, rfl⟩ : ∃ q, m = q + 1 := ⟨m - 1, by omega⟩
    have hlt : k < xs.length := by omega
    have hlt2 : k < ys.length := by omega
    rw [ref04_Bytes.L1, if_pos (by omega), idx_get _ _ hlt, idx_get _ _ hlt2]
    simp only [Option.bind_some, W_succ k (by omega), ih m (k + 1) (by omega) (by omega), drop_ne hlt hlt2]
    by_cases e : xs[k] = ys[k] <;> simp [e]
theorem bytes_eq' (xs ys : List Int) (hx : xs.length < 1000) : ref04_Bytes 1000 xs ys = some (decide (xs = ys)) := by
  rw [ref04_Bytes]
  by_cases hl : xs.length = ys.length
  · rw [if_neg (by simp [hl]), show (0 : Int) = ((0 : Nat) : Int) from rfl, bytes_loop' xs ys hl hx xs.length 1000 0 (by omega) (by omega)]; simp
  · rw [if_pos (by omega)]
    have : xs ≠ ys := fun h => hl (by rw [h])
    simp [this]
def aheadB (x : S_cache_Store) (at_ : S_api_Spot) : Bool := if at_.Place = 0 then true else (mget x.m ⟨at_.Request, at_.Layer, IntKind.i64.wrap (at_.Place - 1)⟩).isSome
theorem ahead_eq (x : S_cache_Store) (at_ : S_api_Spot) : cache_Store_ahead x at_ = some (aheadB x at_) := by
  rw [cache_Store_ahead, aheadB]
  split
  · rfl
  · simp only [Option.bind_some]
def putF (x : S_cache_Store) (at_ : S_api_Spot) (k v : List Int) : Int × S_cache_Store :=
  if at_.Request < 0 ∨ at_.Layer < 0 ∨ at_.Place < 0 then (2, x)
  else if k.length ≠ v.length then (30, x)
  else if aheadB x at_ = false then (120, x)
  else match mget x.m at_ with
    | some o => if o.k = k ∧ o.v = v then (0, x) else (2, x)
    | none => if ((x.m.length : Nat) : Int) ≥ x.room then (80, x) else (0, ⟨x.room, mset x.m at_ ⟨k, v⟩⟩)
theorem put_eq (x : S_cache_Store) (at_ : S_api_Spot) (k v : List Int) (hs : ∀ p ∈ x.m, p.2.k.length < 1000 ∧ p.2.v.length < 1000) (hk : k.length < 1000) (hv : v.length < 1000) : cache_Store_Put 1000 x at_ k v = some (putF x at_ k v) := by
  have heta : (⟨at_.Request, at_.Layer, at_.Place⟩ : S_api_Spot) = at_ := rfl
  rw [cache_Store_Put, putF]
  simp only [heta, Option.bind_some, ahead_eq]
  by_cases h1 : at_.Request < 0
  · simp [h1]
  · by_cases h2 : at_.Layer < 0
    · simp [h1, h2]
    · by_cases h3 : at_.Place < 0
      · simp [h1, h2, h3]
      · simp only [h1, h2, h3, if_false, or_false, false_or]
        by_cases h4 : k.length = v.length
        · have h4' : ¬ ((k.length : Nat) : Int) ≠ ((v.length : Nat) : Int) := by omega
          simp only [h4', h4, if_false, ne_eq, not_true_eq_false]
          cases h5 : aheadB x at_
          · simp
          · simp only [if_true, Bool.true_eq_false, if_false, reduceCtorEq]
            cases h6 : mget x.m at_ with
            | none =>
              simp only [Option.isSome_none, Bool.false_eq_true, if_false, cache_Store_Put.J1, heta, h6]
              split
              · rfl
              · rw [clone_eq k (by omega), clone_eq v (by omega)]; rfl
            | some o =>
              have hm := hs _ (mget_mem h6)
              simp only [Option.isSome_some, if_true, Option.getD_some, equal_eq o.k k hm.1, equal_eq o.v v hm.2, Option.bind_some, cache_Store_Put.J1, heta, h6]
              by_cases e1 : o.k = k
              · by_cases e2 : o.v = v <;> simp [e1, e2]
              · simp [e1]
        · have h4' : ((k.length : Nat) : Int) ≠ ((v.length : Nat) : Int) := by omega
          simp only [h4', h4, if_true, ne_eq, not_false_eq_true]
theorem get_eq (x : S_cache_Store) (at_ : S_api_Spot) (hs : ∀ p ∈ x.m, p.2.k.length < 1000 ∧ p.2.v.length < 1000) : cache_Store_Get x at_ = some (match mget x.m at_ with | some o => (o.k, o.v, true) | none => ([], [], false)) := by
  have heta : (⟨at_.Request, at_.Layer, at_.Place⟩ : S_api_Spot) = at_ := rfl
  rw [cache_Store_Get]
  simp only [heta, Option.bind_some]
  cases h6 : mget x.m at_ with
  | none => simp [clone_eq]
  | some o =>
    have hm := hs _ (mget_mem h6)
    have hm1 : o.k.length < 1000 := hm.1
    have hm2 : o.v.length < 1000 := hm.2
    simp only [Option.getD_some, clone_eq o.k (by omega), clone_eq o.v (by omega), Option.bind_some, Option.isSome_some]
def LineN (x : S_cache_Store) (r l : Int) (n : Nat) : Prop := (∀ j : Nat, j < n → (mget x.m ⟨r, l, (j : Int)⟩).isSome = true) ∧ mget x.m ⟨r, l, (n : Int)⟩ = none
def rowAt (x : S_cache_Store) (r l : Int) (j : Nat) : S_cache_rows := (mget x.m ⟨r, l, (j : Int)⟩).getD ⟨[], []⟩
theorem line_loop (x : S_cache_Store) (r l : Int) (hs : ∀ p ∈ x.m, p.2.k.length < 1000 ∧ p.2.v.length < 1000) (n : Nat) (hn : n < 1000) (hL : LineN x r l n) : ∀ (d m j : Nat), j + d = n → d < m →
    cache_Store_Line.L1 x r l m (tabl j fun q => (rowAt x r l q).k) (tabl j fun q => (rowAt x r l q).v) (j : Int) = some (tabl n fun q => (rowAt x r l q).k, tabl n fun q => (rowAt x r l q).v) := by
  intro d
  induction d with
  | zero =>
    intro m j hj hm
    obtain ⟨m, rfl⟩ : ∃ q, m = q + 1 := ⟨m - 1, by omega⟩
    have : j = n := by omega
    subst this
    rw [cache_Store_Line.L1, get_eq _ _ hs, hL.2]
    simp
  | succ d ih =>
    intro m j hj hm
    obtain ⟨m, rfl⟩ : ∃ q, m = q + 1 := ⟨m - 1, by omega⟩
    have h1 := hL.1 j (by omega)
    obtain ⟨o, ho⟩ := Option.isSome_iff_exists.1 h1
    have hr : rowAt x r l j = o := by simp [rowAt, ho]
    rw [cache_Store_Line.L1, get_eq _ _ hs, ho]
    simp only [Option.bind_some, if_true]
    have ht : ∀ (f : Nat → List Int), tabl (j + 1) f = tabl j f ++ [f j] := fun f => by simp [tabl, List.range_succ]
    rw [app_ok _ _ (by simp [tabl]; omega), app_ok _ _ (by simp [tabl]; omega)]
    simp only [Option.bind_some, W_succ j (by omega)]
    have := ih m (j + 1) (by omega) (by omega)
    rw [ht, ht, hr] at this
    exact this
theorem line_eq (x : S_cache_Store) (r l : Int) (hs : ∀ p ∈ x.m, p.2.k.length < 1000 ∧ p.2.v.length < 1000) (n : Nat) (hn : n < 1000) (hL : LineN x r l n) : cache_Store_Line 1000 x r l = some (tabl n fun q => (rowAt x r l q).k, tabl n fun q => (rowAt x r l q).v) :=
  line_loop x r l hs n hn hL n 1000 0 (by omega) hn
theorem nodup_len {α : Type} [DecidableEq α] : ∀ {l1 l2 : List α}, l1.Nodup → (∀ a ∈ l1, a ∈ l2) → l1.length ≤ l2.length
  | [], _, _, _ => by simp
  | a :: l1, l2, hn, hs => by
    have ha := hs a (by simp)
    have h1 := List.length_erase_of_mem ha
    have h2 := List.length_pos_of_mem ha
    have h3 := nodup_len (l1 := l1) (l2 := l2.erase a) (List.nodup_cons.1 hn).2 fun b hb => (List.mem_erase_of_ne (show b ≠ a from fun e => (List.nodup_cons.1 hn).1 (by rw [← e]; exact hb))).2 (hs b (by simp [hb]))
    simp only [List.length_cons]
    omega
theorem line_ex (x : S_cache_Store) (r l : Int) : ∃ n, n ≤ x.m.length ∧ LineN x r l n := by
  -- else there would be more keys than entries
  have key : ∀ n : Nat, (∀ j : Nat, j < n → (mget x.m ⟨r, l, (j : Int)⟩).isSome = true) → n ≤ x.m.length := by
    intro n h
    have hsub : ((List.range n).map fun j : Nat => (⟨r, l, (j : Int)⟩ : S_api_Spot)).Nodup := by
      rw [List.Nodup, List.pairwise_map]
      have himp : ∀ {a b : Nat}, a ≠ b → (⟨r, l, (a : Int)⟩ : S_api_Spot) ≠ ⟨r, l, (b : Int)⟩ := fun {a b} hab e => hab (by injection e with _ _ e; omega)
      exact List.Pairwise.imp himp (List.nodup_range (n := n))
    have h2 := nodup_len hsub (l2 := x.m.map Prod.fst) (fun k hk => by
      obtain ⟨j, hj, rfl⟩ := List.mem_map.1 hk
      obtain ⟨o, ho⟩ := Option.isSome_iff_exists.1 (h j (List.mem_range.1 hj))
      exact List.mem_map.2 ⟨_, mget_mem ho, rfl⟩)
    simpa using h2
  -- the least one
  have least : ∀ (d n : Nat), n + d = x.m.length + 1 → (∀ j : Nat, j < n → (mget x.m ⟨r, l, (j : Int)⟩).isSome = true) → ∃ n, n ≤ x.m.length ∧ LineN x r l n := by
    intro d
    induction d with
    | zero => intro n hn h; have := key n h; omega
    | succ d ih =>
      intro n hn h
      cases hg : mget x.m ⟨r, l, (n : Int)⟩ with
      | none => exact ⟨n, key n h, h, hg⟩
      | some o =>
        refine ih (n + 1) (by omega) (fun j hj => ?_)
        by_cases hjn : j = n
        · rw [hjn, hg]; rfl
        · exact h j (by omega)
  exact least (x.m.length + 1) 0 (by omega) (fun j hj => by omega)
theorem mdel_filter {κ β : Type} [DecidableEq κ] {l : List (κ × β)} (hn : (l.map Prod.fst).Nodup) (k : κ) : mdel l k = l.filter fun p => decide (p.1 ≠ k) := by
  induction l with
  | nil => rfl
  | cons p l ih =>
    obtain ⟨k', x'⟩ := p
    simp only [List.map_cons, List.nodup_cons] at hn
    by_cases hk : k' = k
    · subst hk
      simp only [mdel, if_true, List.filter_cons, ne_eq, not_true_eq_false, decide_false, Bool.false_eq_true, if_false]
      symm
      apply List.filter_eq_self.2
      intro p hp
      have : p.1 ≠ k' := fun e => hn.1 (by rw [← e]; exact List.mem_map.2 ⟨p, hp, rfl⟩)
      simp [this]
    · simp only [mdel, hk, if_false, List.filter_cons, ne_eq, not_false_eq_true, decide_true, if_true, ih hn.2]
theorem delf_loop (l0 : List (S_api_Spot × S_cache_rows)) (hn : (l0.map Prod.fst).Nodup) (g : S_api_Spot → S_cache_rows → Option Bool) (f : S_api_Spot → Bool) (hg : ∀ k v, g k v = some (f k)) : ∀ (d m : Nat) (seen : List S_api_Spot), (remK l0 seen).length ≤ d → d < m →
    maps_DeleteFunc_map_api_Spot_cache_rows_api_Spot_cache_rows.L1 g m (l0.filter fun p => !(decide (p.1 ∈ seen) && f p.1)) seen = some (l0.filter fun p => !f p.1) := by
  have hnf : ∀ q : S_api_Spot × S_cache_rows → Bool, ((l0.filter q).map Prod.fst).Nodup := fun q => hn.sublist ((List.filter_sublist (l := l0)).map _)
  have hrem : ∀ seen : List S_api_Spot, remK (l0.filter fun p => !(decide (p.1 ∈ seen) && f p.1)) seen = remK l0 seen := by
    intro seen
    unfold remK
    rw [List.filter_map, List.filter_map, List.filter_filter]
    congr 1
    apply List.filter_congr
    intro p _
    simp only [Function.comp]
    by_cases h : p.1 ∈ seen <;> simp [h]
  have hdone : ∀ seen : List S_api_Spot, remK l0 seen = [] → (l0.filter fun p => !(decide (p.1 ∈ seen) && f p.1)) = l0.filter fun p => !f p.1 := by
    intro seen h
    apply List.filter_congr
    intro p hp
    have : p.1 ∈ seen := by
      apply Classical.byContradiction
      intro hc
      have : p.1 ∈ remK l0 seen := mem_remK.2 ⟨List.mem_map.2 ⟨p, hp, rfl⟩, hc⟩
      rw [h] at this; cases this
    simp [this]
  intro d
  induction d with
  | zero =>
    intro m seen hd hm
    obtain ⟨m, rfl⟩ : ∃ q, m = q + 1 := ⟨m - 1, by omega⟩
    have h0 : remK l0 seen = [] := List.eq_nil_of_length_eq_zero (by omega)
    rw [maps_DeleteFunc_map_api_Spot_cache_rows_api_Spot_cache_rows.L1, hrem, h0, anyK, hdone seen h0]
  | succ d ih =>
    intro m seen hd hm
    obtain ⟨m, rfl⟩ : ∃ q, m = q + 1 := ⟨m - 1, by omega⟩
    rw [maps_DeleteFunc_map_api_Spot_cache_rows_api_Spot_cache_rows.L1, hrem]
    by_cases h0 : remK l0 seen = []
    · rw [h0, anyK, hdone seen h0]
    · refine anyK_eq (fun k hk => ?_) h0
      have hkm := mem_remK.1 hk
      obtain ⟨⟨k', e⟩, hp, hke⟩ := List.mem_map.1 hkm.1
      simp only at hke; subst hke
      have hg2 : mget (l0.filter fun p => !(decide (p.1 ∈ seen) && f p.1)) k' = some e := mget_of_mem (hnf _) (List.mem_filter.2 ⟨hp, by simp [hkm.2]⟩)
      have hlen := remK_len l0 seen hn hk
      have hnext := ih m (k' :: seen) (by omega) (by omega)
      have heta : (⟨k'.Request, k'.Layer, k'.Place⟩ : S_api_Spot) = k' := rfl
      simp only [hg2, Option.bind_some, hg, heta]
      split
      · rename_i hf
        rw [mdel_filter (hnf _), List.filter_filter, ← hnext]
        congr 1
        apply List.filter_congr
        intro p _
        by_cases hpk : p.1 = k'
        · simp [hpk, hf]
        · simp [hpk]
      · rename_i hf
        rw [← hnext]
        congr 1
        apply List.filter_congr
        intro p _
        by_cases hpk : p.1 = k'
        · simp [hpk, hf]
        · simp [hpk]
theorem drop_eq (x : S_cache_Store) (rs : List Int) (hn : (x.m.map Prod.fst).Nodup) (hl : x.m.length < 1000) (hr : rs.length < 1000) :
    cache_Store_Drop 1000 x rs = some (((x.m.length - (x.m.filter fun p => !decide (p.1.Request ∈ rs)).length : Nat) : Int), ⟨x.room, x.m.filter fun p => !decide (p.1.Request ∈ rs)⟩) := by
  have h := delf_loop x.m hn (fun y6 _ => (slices_Contains_s_int_int 1000 rs y6.Request).bind fun r22 => some r22) (fun k => decide (k.Request ∈ rs)) (fun k v => by rw [contains_eq _ _ hr]; rfl) x.m.length 1000 [] (by rw [remK_all]; simp) hl
  have h2 : maps_DeleteFunc_map_api_Spot_cache_rows_api_Spot_cache_rows 1000 x.m (fun (y6 : S_api_Spot) (y7 : S_cache_rows) => (slices_Contains_s_int_int 1000 rs y6.Request).bind fun r22 => some r22) = some (x.m.filter fun p => !decide (p.1.Request ∈ rs)) := by
    rw [maps_DeleteFunc_map_api_Spot_cache_rows_api_Spot_cache_rows, chk_ok _ hn, ← h]
    congr 1
    exact (List.filter_eq_self.2 (fun p _ => by simp)).symm
  rw [cache_Store_Drop, h2]
  have hle := List.length_filter_le (fun p : S_api_Spot × S_cache_rows => !decide (p.1.Request ∈ rs)) x.m
  simp only [Option.bind_some]
  rw [W_in (by omega)]
  congr 2
  omega
end Go.Proofs.Ytdalpckomnkilaa
end
section
namespace Go.Hp
open Go
set_option linter.unusedVariables false
set_option linter.unusedSimpArgs false
theorem mdel_filter {κ β : Type} [DecidableEq κ] {l : List (κ × β)} (hn : (l.map Prod.fst).Nodup) (k : κ) : mdel l k = l.filter fun p => decide (p.1 ≠ k) := by
  induction l with
  | nil => rfl
  | cons p l ih =>
    obtain ⟨k', x'⟩ := p
    simp only [List.map_cons, List.nodup_cons] at hn
    by_cases hk : k' = k
    · subst hk
      simp only [mdel, if_true, List.filter_cons, ne_eq, not_true_eq_false, decide_false, Bool.false_eq_true, if_false]
      symm
      rw [List.filter_eq_self]
      intro p hp
      simp only [decide_eq_true_eq]
      intro e
      exact hn.1 (by rw [← e]; exact List.mem_map.2 ⟨p, hp, rfl⟩)
    · simp only [mdel, hk, if_false, List.filter_cons, ne_eq, not_false_eq_true, decide_true, if_true, ih hn.2]
end Go.Hp
end
section
namespace Go.Hp
open Go
set_option linter.unusedVariables false
theorem idx_t {α : Type} {n : Nat} (f : Nat → α) {k : Nat} (h : k < n) : idx (tabl n f) (k : Int) = some (f k) := by rw [idx_nat, tabl_get? h]
theorem idx_d {α : Type} (l : List α) (d : α) {k : Nat} (h : k < l.length) : idx l (k : Int) = some (l.getD k d) := by
  rw [idx_get l k h, List.getD_eq_getElem?_getD, List.getElem?_eq_getElem h]; rfl
end Go.Hp
end
section
namespace Go.Proofs.Ytdalpckomnkilaa
open Go Go.Hp
set_option linter.unusedVariables false
set_option linter.unusedSimpArgs false
def wf64 (z : Int) : Prop := (Lit.int .i64 z).wf = true
def uniq : List Int → List Int
  | [] => []
  | z :: l => if z ∈ uniq l then uniq l else z :: uniq l
theorem uniq_mem (z : Int) : ∀ l : List Int, z ∈ uniq l ↔ z ∈ l
  | [] => Iff.rfl
  | x :: l => by
    unfold uniq
    split
    · rename_i h
      rw [uniq_mem z l, List.mem_cons]
      exact ⟨.inr, fun q => q.elim (fun e => by rw [e]; exact (uniq_mem x l).1 h) id⟩
    · rw [List.mem_cons, List.mem_cons, uniq_mem z l]
theorem uniq_nodup : ∀ l : List Int, (uniq l).Nodup
  | [] => List.nodup_nil
  | x :: l => by
    unfold uniq
    split
    · exact uniq_nodup l
    · rename_i h
      exact List.nodup_cons.2 ⟨h, uniq_nodup l⟩
def reqS (l : List (S_api_Spot × S_cache_rows)) : List Int := (uniq (l.map fun p => p.1.Request)).mergeSort fun x y => decide (x ≤ y)
theorem reqS_len (l : List (S_api_Spot × S_cache_rows)) : (reqS l).length = (uniq (l.map fun p => p.1.Request)).length := by
  unfold reqS; rw [List.length_mergeSort]
theorem anyK_all {κ β : Type} [DecidableEq β] {ks : List κ} {a : Option β} {f : κ → Option β} {r : β} (h0 : ks = [] → a = some r) (h : ∀ k ∈ ks, f k = some r) : anyK ks a f = some r := by
  cases ks with
  | nil => exact h0 rfl
  | cons k ks =>
    unfold anyK
    dsimp only
    rw [if_pos]
    · exact h k (by simp)
    · rw [List.all_eq_true]
      intro k' hk'
      rw [decide_eq_true_eq, h k (by simp), h k' (by simp [hk'])]
theorem it_sorted_is {β : Type} {xs : List (Int × β)} (hn : (xs.map Prod.fst).Nodup) (hw : ∀ k ∈ xs.map Prod.fst, wf64 k) (hl : xs.length ≤ 4294967296) : it_sorted xs = some ((xs.map Prod.fst).mergeSort fun x y => decide (x ≤ y)) := if_pos ⟨hn, hw, hl⟩
theorem requests_loop (x : S_cache_Store) (hn : (x.m.map Prod.fst).Nodup) (hl : x.m.length < 1000) (hw : ∀ p ∈ x.m, wf64 p.1.Request) : ∀ (d m : Nat) (seen : List S_api_Spot) (has : List (Int × Bool)), (remK x.m seen).length ≤ d → d < m → seen.length + (remK x.m seen).length ≤ x.m.length → (∀ t ∈ seen, t ∈ x.m.map Prod.fst) → (has.map Prod.fst).Nodup → has.length ≤ seen.length → (∀ z, z ∈ has.map Prod.fst ↔ ∃ t ∈ seen, t.Request = z) →
    cache_Store_Requests.L1 x m seen has = some (reqS x.m) := by
  intro d
  induction d with
  | zero =>
    intro m seen has hr hm hs h1 h2 h3 h4
    obtain ⟨m, rfl⟩ : ∃ q, m = q + 1 := ⟨m - 1, by omega⟩
    have he : remK x.m seen = [] := List.eq_nil_of_length_eq_zero (by omega)
    rw [cache_Store_Requests.L1]
    refine anyK_all (fun _ => ?_) (fun k hk => by rw [he] at hk; cases hk)
    have hmem : ∀ z, z ∈ has.map Prod.fst ↔ z ∈ uniq (x.m.map fun p => p.1.Request) := fun z => by
      rw [h4 z, uniq_mem, List.mem_map]
      constructor
      · rintro ⟨t, ht, rfl⟩
        obtain ⟨p, hp, e⟩ := List.mem_map.1 (h1 t ht)
        exact ⟨p, hp, by rw [e]⟩
      · rintro ⟨p, hp, rfl⟩
        by_cases q : p.1 ∈ seen
        · exact ⟨p.1, q, rfl⟩
        · have : p.1 ∈ remK x.m seen := by
            unfold remK
            rw [List.mem_filter]
            exact ⟨List.mem_map.2 ⟨p, hp, rfl⟩, by simpa using q⟩
          rw [he] at this; cases this
    rw [it_sorted_is h2 (fun k hk => by
      obtain ⟨p, hp, e⟩ := List.mem_map.1 ((uniq_mem k _).1 ((hmem k).1 hk))
      rw [← e]; exact hw p hp) (by omega), Option.bind_some]
    unfold reqS
    rw [mergeSort_of_perm_i ((List.perm_ext_iff_of_nodup h2 (uniq_nodup _)).2 hmem)]
  | succ d ih =>
    intro m seen has hr hm hs h1 h2 h3 h4
    obtain ⟨m, rfl⟩ : ∃ q, m = q + 1 := ⟨m - 1, by omega⟩
    rw [cache_Store_Requests.L1]
    by_cases he : remK x.m seen = []
    · have := ih (m + 1) seen has (by rw [he]; exact Nat.zero_le _) (by omega) hs h1 h2 h3 h4
      rw [cache_Store_Requests.L1] at this
      exact this
    refine anyK_all (fun e => absurd e he) (fun k hk => ?_)
    have hkm : k ∈ x.m.map Prod.fst := by unfold remK at hk; exact (List.mem_filter.1 hk).1
    have hlt := remK_len x.m seen hn hk
    cases e : mget x.m k with
    | none => exact absurd hkm (mget_none.1 e)
    | some o =>
      rw [Option.bind_some]
      refine ih m (k :: seen) _ (by omega) (by omega) (by simp only [List.length_cons]; omega) (fun t ht => ?_) (nodup_mset h2 _ _) ?_ (fun z => ?_)
      · rcases List.mem_cons.1 ht with rfl | ht
        · exact hkm
        · exact h1 t ht
      · rw [len_mset]
        simp only [List.length_cons]
        split <;> omega
      · rw [keys_mset]
        have hz : ∀ L : List Int, (if k.Request ∈ has.map Prod.fst then has.map Prod.fst else has.map Prod.fst ++ [k.Request]) = L → (z ∈ L ↔ z ∈ has.map Prod.fst ∨ z = k.Request) := fun L hL => by
          subst hL
          split
          · rename_i q
            exact ⟨.inl, fun p => p.elim id fun e => by rw [e]; exact q⟩
          · simp
        rw [hz _ rfl, h4 z]
        constructor
        · rintro (⟨t, ht, rfl⟩ | rfl)
          · exact ⟨t, by simp [ht], rfl⟩
          · exact ⟨k, by simp, rfl⟩
        · rintro ⟨t, ht, rfl⟩
          rcases List.mem_cons.1 ht with rfl | ht
          · exact .inr rfl
          · exact .inl ⟨t, ht, rfl⟩
theorem requests_is (x : S_cache_Store) (hn : (x.m.map Prod.fst).Nodup) (hl : x.m.length < 1000) (hw : ∀ p ∈ x.m, wf64 p.1.Request) : cache_Store_Requests 1000 x = some (reqS x.m) := by
  unfold cache_Store_Requests
  rw [chk_ok _ hn]
  have hall : (remK x.m []).length = x.m.length := by rw [remK_all]; simp
  exact requests_loop x hn hl hw x.m.length 1000 [] [] (by omega) (by omega) (by simp only [List.length_nil]; omega) (fun t ht => by cases ht) List.nodup_nil (Nat.le_refl _) (fun z => by simp)
structure CS (i : Nat) (m : S_cache_Store) (k v : List Int) (L : List Int) : Prop where
  nod : (m.m.map Prod.fst).Nodup
  len : ∀ p ∈ m.m, p.2.k.length ≤ 100 ∧ p.2.v.length ≤ 100
  at_ : mget m.m ⟨3, 1, 0⟩ = some ⟨k, v⟩
  wf : ∀ p ∈ m.m, wf64 p.1.Request
  ml : m.m.length ≤ i + 1
  Ll : L.length ≤ i
  L : ∀ p ∈ m.m, p.1.Request = 3 ∨ p.1.Request ∈ L
theorem mset_new' {κ β : Type} [DecidableEq κ] {l : List (κ × β)} {k : κ} (hn : (l.map Prod.fst).Nodup) (h : mget l k = none) (x : β) (p : κ × β) (hp : p ∈ mset l k x) : p ∈ l ∨ p = (k, x) := by
  have hn' := nodup_mset hn k x
  have e := mget_of_mem hn' (k := p.1) (x := p.2) hp
  rw [mget_mset] at e
  by_cases q : p.1 = k
  · rw [if_pos q] at e
    injection e with e
    exact .inr (by rw [← q, e])
  · rw [if_neg q] at e
    exact .inl (mget_mem e)
theorem CS.put {i : Nat} {m : S_cache_Store} {k v L : List Int} (h : CS i m k v L) (a : S_api_Spot) (hw : wf64 a.Request) (k2 v2 : List Int) (hk : k2.length ≤ 100) (hv : v2.length ≤ 100) : ∃ L', CS (i + 1) (putF m a k2 v2).2 k v L' := by
  have h0 : ∃ L', CS (i + 1) m k v L' := ⟨L, h.nod, h.len, h.at_, h.wf, by have := h.ml; omega, by have := h.Ll; omega, h.L⟩
  unfold putF
  split
  · exact h0
  split
  · exact h0
  split
  · exact h0
  cases e : mget m.m a with
  | some o =>
    show ∃ L', CS (i + 1) (if o.k = k2 ∧ o.v = v2 then ((0 : Int), m) else (2, m)).2 k v L'
    split <;> exact h0
  | none =>
    show ∃ L', CS (i + 1) (if ((m.m.length : Nat) : Int) ≥ m.room then ((80 : Int), m) else (0, ⟨m.room, mset m.m a ⟨k2, v2⟩⟩)).2 k v L'
    split
    · exact h0
    refine ⟨a.Request :: L, nodup_mset h.nod _ _, fun p hp => ?_, ?_, fun p hp => ?_, ?_, by simp only [List.length_cons]; have := h.Ll; omega, fun p hp => ?_⟩
    · rcases mset_new' h.nod e _ p hp with q | q
      · exact h.len p q
      · rw [q]; exact ⟨hk, hv⟩
    · show mget (mset m.m a ⟨k2, v2⟩) ⟨3, 1, 0⟩ = _
      rw [mget_mset, if_neg (fun q => by rw [← q, h.at_] at e; cases e)]
      exact h.at_
    · rcases mset_new' h.nod e _ p hp with q | q
      · exact h.wf p q
      · rw [q]; exact hw
    · show (mset m.m a ⟨k2, v2⟩).length ≤ _
      rw [len_mset]
      have := h.ml
      split <;> omega
    · rcases mset_new' h.nod e _ p hp with q | q
      · exact (h.L p q).elim .inl fun z => .inr (List.mem_cons_of_mem _ z)
      · rw [q]; exact .inr (by simp)
theorem mget_filter {κ β : Type} [DecidableEq κ] {l : List (κ × β)} (hn : (l.map Prod.fst).Nodup) (f : κ × β → Bool) {k : κ} {x : β} (h : mget l k = some x) (hf : f (k, x) = true) : mget (l.filter f) k = some x :=
  mget_of_mem ((List.filter_sublist.map Prod.fst).nodup hn) (List.mem_filter.2 ⟨mget_mem h, hf⟩)
theorem CS.drop {i : Nat} {m : S_cache_Store} {k v L : List Int} (h : CS i m k v L) (r : Int) (hr : r ≠ 3) : CS (i + 1) ⟨m.room, m.m.filter fun p => !decide (p.1.Request ∈ [r])⟩ k v L :=
  ⟨(List.filter_sublist.map Prod.fst).nodup h.nod, fun p hp => h.len p (List.mem_filter.1 hp).1, mget_filter h.nod _ h.at_ (by simp; omega), fun p hp => h.wf p (List.mem_filter.1 hp).1, Nat.le_trans (List.length_filter_le _ _) (by have := h.ml; omega), by have := h.Ll; omega, fun p hp => h.L p (List.mem_filter.1 hp).1⟩
theorem stays_L4 (x0 : List Int) (hx : x0.length ≤ 100) (j24 : Nat) (hj : j24 < 1000) (m : S_cache_Store) (k1 : S_cache_Store → Int → Option Bool) : ∀ (q j f : Nat) (rows : List (List Int)), j + q = x0.length → q < f → (∃ y rest, rows = y :: rest ∧ y.length = x0.length) → law12_CacheStays.L4 x0 (j24 : Int) m k1 f rows (j : Int) = k1 m ((j24 + 1 : Nat) : Int) := by
  intro q
  induction q with
  | zero =>
    intro j f rows hq hf _
    obtain ⟨f, rfl⟩ : ∃ q, f = q + 1 := ⟨f - 1, by omega⟩
    rw [law12_CacheStays.L4, if_neg (by omega), W_succ j24 (by omega)]
  | succ q ih =>
    rintro j f rows hq hf ⟨y, rest, rfl, hy⟩
    obtain ⟨f, rfl⟩ : ∃ q, f = q + 1 := ⟨f - 1, by omega⟩
    rw [law12_CacheStays.L4, if_pos (by omega), show idx (y :: rest) 0 = some y from rfl, Option.bind_some, idx_d y 0 (by omega), Option.bind_some, W_succ j (by omega)]
    exact ih (j + 1) f _ (by omega) (by omega) ⟨_, rest, rfl, by rw [List.length_set]; exact hy⟩
theorem stays_J2 (x0 x1 : List Int) (hx : x0.length ≤ 100) (hx1 : x1.length = x0.length) (i j24 : Nat) (hj : j24 < 900) (hi : i < 900) (m : S_cache_Store) (L : List Int) (h : CS i m x0 x1 L) (k1 : S_cache_Store → Int → Option Bool) : law12_CacheStays.J2 1000 x0 x1 (j24 : Int) k1 m = k1 m ((j24 + 1 : Nat) : Int) := by
  have hs : ∀ p ∈ m.m, p.2.k.length < 1000 ∧ p.2.v.length < 1000 := fun p hp => by have := h.len p hp; omega
  unfold law12_CacheStays.J2
  rw [show law12_spot 3 1 0 = some ⟨3, 1, 0⟩ from rfl, Option.bind_some, get_eq m _ hs, h.at_]
  show (some (x0, x1, true)).bind _ = _
  rw [Option.bind_some, if_pos rfl, bytes_eq' x0 x0 (by omega), decide_eq_true rfl, Option.bind_some, if_pos rfl, bytes_eq' x1 x1 (by omega), decide_eq_true rfl, Option.bind_some, if_pos rfl]
  have key : ∀ (q j f : Nat) (a b : List Int), j + q = x0.length → q < f → a.length = x0.length → b.length = x0.length → law12_CacheStays.L3 1000 x0 (j24 : Int) m (x0, x1, true) k1 f a b (j : Int) = k1 m ((j24 + 1 : Nat) : Int) := by
    intro q
    induction q with
    | zero =>
      intro j f a b hq hf ha hb
      obtain ⟨f, rfl⟩ : ∃ q, f = q + 1 := ⟨f - 1, by omega⟩
      rw [law12_CacheStays.L3, if_neg (show ¬ (j : Int) < ((x0.length : Nat) : Int) by omega)]
      obtain ⟨n, hn, hL⟩ := line_ex m 3 1
      have hn0 : 0 < n := by
        rcases Nat.eq_zero_or_pos n with z | z
        · subst z
          have := hL.2
          rw [show ((0 : Nat) : Int) = 0 from rfl, h.at_] at this
          cases this
        · exact z
      have hml := h.ml
      rw [line_eq m 3 1 hs n (by omega) hL, Option.bind_some, if_neg (by rw [tabl_len]; omega)]
      have e0 : (rowAt m 3 1 0).k = x0 := by
        unfold rowAt
        rw [show ((0 : Nat) : Int) = 0 from rfl, h.at_]; rfl
      have ei : idx (tabl n fun q => (rowAt m 3 1 q).k) 0 = some x0 := by
        have := idx_t (fun q => (rowAt m 3 1 q).k) hn0
        rw [e0] at this
        exact this
      show (idx (tabl n fun q => (rowAt m 3 1 q).k) 0).bind _ = _
      rw [ei, Option.bind_some, bytes_eq' _ _ (by omega), decide_eq_true rfl, Option.bind_some, if_pos rfl]
      obtain ⟨n', rfl⟩ : ∃ q, n = q + 1 := ⟨n - 1, by omega⟩
      refine stays_L4 x0 hx j24 (by omega) m k1 x0.length 0 1000 _ (by omega) (by omega) ⟨x0, (tabl (n' + 1) fun q => (rowAt m 3 1 q).k).tail, ?_, rfl⟩
      have : tabl (n' + 1) (fun q => (rowAt m 3 1 q).k) = (rowAt m 3 1 0).k :: (tabl (n' + 1) fun q => (rowAt m 3 1 q).k).tail := by
        simp [tabl, List.range_succ_eq_map]
      rw [e0] at this
      exact this
    | succ q ih =>
      intro j f a b hq hf ha hb
      obtain ⟨f, rfl⟩ : ∃ q, f = q + 1 := ⟨f - 1, by omega⟩
      rw [law12_CacheStays.L3, if_pos (show (j : Int) < ((x0.length : Nat) : Int) by omega), idx_d b 0 (by omega), Option.bind_some, idx_d a 0 (by omega), Option.bind_some, W_succ j (by omega)]
      exact ih (j + 1) f _ _ (by omega) (by omega) (by rw [List.length_set]; exact ha) (by rw [List.length_set]; exact hb)
  exact key x0.length 0 1000 x1 x0 (by omega) (by omega) hx1 rfl
theorem stays_loop (x0 x1 : List Int) (hx : x0.length ≤ 100) (hx1 : x1.length = x0.length) (x2 : List S_law12_Act) (h2 : x2.length ≤ 60) (hw : ∀ a ∈ x2, wf64 a.At.Request) : ∀ (q i f : Nat) (m : S_cache_Store) (L : List Int), i + q = x2.length → q < f → CS i m x0 x1 L → law12_CacheStays.L1 1000 x0 x1 x2 f m (i : Int) = some true := by
  intro q
  induction q with
  | zero =>
    intro i f m L hi hf h
    obtain ⟨f, rfl⟩ : ∃ q, f = q + 1 := ⟨f - 1, by omega⟩
    have hml := h.ml
    rw [law12_CacheStays.L1, if_neg (by omega), drop_eq m [3] h.nod (by omega) (by simp), Option.bind_some]
    have hlt : (m.m.filter fun p => !decide (p.1.Request ∈ [(3 : Int)])).length < m.m.length := by
      have hle := List.length_filter_le (fun p : S_api_Spot × S_cache_rows => !decide (p.1.Request ∈ [(3 : Int)])) m.m
      rcases Nat.lt_or_ge (m.m.filter fun p => !decide (p.1.Request ∈ [(3 : Int)])).length m.m.length with z | z
      · exact z
      · have he := (List.length_filter_eq_length_iff (p := fun p : S_api_Spot × S_cache_rows => !decide (p.1.Request ∈ [(3 : Int)]))).1 (Nat.le_antisymm hle z) _ (mget_mem h.at_)
        simp at he
    rw [if_pos (by omega), requests_is _ ((List.filter_sublist.map Prod.fst).nodup h.nod) (by show (m.m.filter _).length < 1000; omega) (fun p hp => h.wf p (List.mem_filter.1 hp).1), Option.bind_some]
    congr 1
    rw [decide_eq_true_eq, reqS_len]
    have := nodup_len (uniq_nodup ((m.m.filter fun p => !decide (p.1.Request ∈ [(3 : Int)])).map fun p => p.1.Request)) (l2 := L) (fun z hz => by
      obtain ⟨p, hp, rfl⟩ := List.mem_map.1 ((uniq_mem z _).1 hz)
      obtain ⟨hp1, hp2⟩ := List.mem_filter.1 hp
      exact (h.L p hp1).resolve_left (by simpa using hp2))
    exact Int.ofNat_le.2 (Nat.le_trans this (Nat.le_trans h.Ll (by omega)))
  | succ q ih =>
    intro i f m L hi hf h
    obtain ⟨f, rfl⟩ : ∃ q, f = q + 1 := ⟨f - 1, by omega⟩
    have hil : i < x2.length := by omega
    have hml := h.ml
    have hs : ∀ p ∈ m.m, p.2.k.length < 1000 ∧ p.2.v.length < 1000 := fun p hp => by have := h.len p hp; omega
    rw [law12_CacheStays.L1, if_pos (by omega), idx_get _ i hil, Option.bind_some]
    have hwa := hw x2[i] (List.getElem_mem hil)
    generalize x2[i] = a at hwa
    by_cases c1 : ((a.K.length : Nat) : Int) > 100
    · rw [if_pos c1]
    by_cases c2 : ((a.V.length : Nat) : Int) > 100
    · rw [if_neg c1, if_pos c2]
    rw [if_neg c1, if_neg c2]
    have go : ∀ m' L', CS (i + 1) m' x0 x1 L' → law12_CacheStays.J2 1000 x0 x1 (i : Int) (law12_CacheStays.L1 1000 x0 x1 x2 f) m' = some true := fun m' L' h' => by
      rw [stays_J2 x0 x1 hx hx1 (i + 1) i (by omega) (by omega) m' L' h']
      exact ih (i + 1) f m' L' (by omega) (by omega) h'
    have h0 : CS (i + 1) m x0 x1 L := ⟨h.nod, h.len, h.at_, h.wf, by omega, by have := h.Ll; omega, h.L⟩
    by_cases c3 : a.Kind = 0
    · rw [if_pos c3]
      show (cache_Store_Put 1000 m a.At a.K a.V).bind _ = _
      rw [put_eq m _ _ _ hs (by omega) (by omega), Option.bind_some]
      obtain ⟨L', h'⟩ := h.put a.At hwa a.K a.V (by omega) (by omega)
      exact go _ L' h'
    · rw [if_neg c3]
      by_cases c4 : a.Kind = 1
      · rw [if_pos c4]
        by_cases c5 : a.At.Request ≠ 3
        · rw [if_pos c5, drop_eq m [a.At.Request] h.nod (by omega) (by simp), Option.bind_some]
          exact go _ L (h.drop a.At.Request c5)
        · rw [if_neg c5]
          exact go _ L h0
      · rw [if_neg c4]
        exact go _ L h0
theorem cacheStays (x0 x1 : List Int) (x2 : List S_law12_Act) (hw : ∀ a ∈ x2, wf64 a.At.Request) : law12_CacheStays 1000 x0 x1 x2 = some true := by
  unfold law12_CacheStays
  rw [awake12, Option.bind_some, if_pos rfl]
  by_cases c1 : ((x0.length : Nat) : Int) > 100
  · rw [if_pos c1, Option.bind_some]
  rw [if_neg c1]
  by_cases c2 : ((x1.length : Nat) : Int) ≠ ((x0.length : Nat) : Int)
  · rw [if_pos c2, Option.bind_some]
  rw [if_neg c2]
  by_cases c3 : ((x2.length : Nat) : Int) > 60
  · rw [if_pos c3, Option.bind_some]
  rw [if_neg c3, show cache_New 50 = some (some ⟨50, []⟩, 0) from rfl, Option.bind_some, optc_some, if_neg (fun q => q rfl), show law12_spot 3 1 0 = some ⟨3, 1, 0⟩ from rfl, Option.bind_some, put_eq _ _ _ _ (fun p hp => by cases hp) (by omega) (by omega), Option.bind_some]
  have e : putF ⟨50, []⟩ ⟨3, 1, 0⟩ x0 x1 = (0, ⟨50, [(⟨3, 1, 0⟩, ⟨x0, x1⟩)]⟩) := by
    unfold putF
    rw [if_neg (by decide), if_neg (by omega), if_neg (by decide)]
    rfl
  rw [e, if_neg (fun q => q rfl)]
  exact stays_loop x0 x1 (by omega) (by omega) x2 (by omega) hw x2.length 0 1000 _ [] (by omega) (by omega) ⟨by simp, fun p hp => by
    rw [List.mem_singleton.1 hp]; show x0.length ≤ 100 ∧ x1.length ≤ 100; omega, rfl, fun p hp => by
    rw [List.mem_singleton.1 hp]; show wf64 3; rfl, Nat.le_refl _, Nat.le_refl _, fun p hp => by
    rw [List.mem_singleton.1 hp]; exact .inl rfl⟩
end Go.Proofs.Ytdalpckomnkilaa
end
