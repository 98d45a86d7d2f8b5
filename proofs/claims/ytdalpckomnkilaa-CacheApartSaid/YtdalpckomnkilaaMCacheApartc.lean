/- What the law needs. -/
import Derived.Test.YtdalpckomnkilaaMCacheAparta
import Derived.Test.YtdalpckomnkilaaMCacheApartb
import Derived.Test.YtdalpckomnkilaaProg
section
namespace Go.Proofs.Ytdalpckomnkilaa
open Go Go.RowKit Go.Hp
set_option linter.unusedVariables false
set_option linter.unusedSimpArgs false
set_option maxRecDepth 100000
set_option maxHeartbeats 8000000

structure S_api_Spot where
  Request : Int
  Layer : Int
  Place : Int
  deriving DecidableEq

def S_api_Spot.pr : PR S_api_Spot 3 := pC (fun x => [.int .i64 x.Request, .int .i64 x.Layer, .int .i64 x.Place]) (fun _ => rfl) (fun _ => rfl)

structure S_cache_rows where
  k : (List Int)
  v : (List Int)
  deriving DecidableEq

def S_cache_rows.pr : PR S_cache_rows 2 := pMap (fun x : S_cache_rows => (x.k, x.v)) (pSeq (pRo (pInt .i8)) (pRo (pInt .i8)))

theorem S_cache_rows.op {w : World} {l : List HP} {cs : List Value} {x : S_cache_rows} (h : Ctx w (Hold S_cache_rows.pr cs x :: l)) : ∃ a0 q0 a1 q1, cs = [.slice a0 x.k.length q0, .slice a1 x.v.length q1] ∧ Ctx w (Hold (pRo (pInt .i8)) [.slice a0 x.k.length q0] x.k :: Hold (pRo (pInt .i8)) [.slice a1 x.v.length q1] x.v :: l) := by
  obtain ⟨R, Ss, hc⟩ := h
  match Ss, hc with
  | S :: Ss, hc =>
    obtain ⟨⟨rfl, ⟨_, _, rfl, ⟨_, rfl, a0, q0, rfl, hc0, hr0⟩, ⟨_, rfl, a1, q1, rfl, hc1, hr1⟩⟩⟩, h3⟩ := hc.all
    exact ⟨a0, q0, a1, q1, rfl, R, [] :: [] :: Ss, ⟨⟨rfl, _, rfl, a0, q0, rfl, hc0, hr0⟩, ⟨rfl, _, rfl, a1, q1, rfl, hc1, hr1⟩, h3⟩, by simpa using hc.nodup, by simpa using hc.own, hc.fz⟩
theorem S_cache_rows.cl {w : World} {l : List HP} {z0 : (List Int)} {z1 : (List Int)} {v0 v1 : Value} (h : Ctx w (Hold (pRo (pInt .i8)) [v0] z0 :: Hold (pRo (pInt .i8)) [v1] z1 :: l)) : Ctx w (Hold S_cache_rows.pr [v0, v1] (⟨z0, z1⟩ : S_cache_rows) :: l) := by
  obtain ⟨R, Ss, hc⟩ := h
  match Ss, hc with
  | S0 :: S1 :: Ss, hc =>
    obtain ⟨⟨rfl, _, e0, hr0⟩, ⟨rfl, _, e1, hr1⟩, h3⟩ := hc.all
    injection e0 with e0; subst e0
    injection e1 with e1; subst e1
    exact ⟨R, [] :: Ss, ⟨⟨rfl, ⟨_, _, rfl, ⟨_, rfl, hr0⟩, ⟨_, rfl, hr1⟩⟩⟩, h3⟩, by simpa using hc.nodup, by simpa using hc.own, hc.fz⟩
  | [], hc => exact hc.all.elim
  | [_], hc => exact hc.all.2.elim

def S_api_Spot.cs (x : S_api_Spot) : List Value := [.int .i64 x.Request, .int .i64 x.Layer, .int .i64 x.Place]
def S_api_Spot.ek (x : S_api_Spot) : Value := .agg (S_api_Spot.cs x).toArray
theorem S_api_Spot.eql (w : World) (x y : S_api_Spot) : (Op.equal 30 (.agg (S_api_Spot.cs x).toArray) (.agg (S_api_Spot.cs y).toArray)).run Try.prog w = .ok (decide (x = y)) w := by
  have hst : Try.prog.stoodInHeld 30 = false := by kernel_rfl
  have pt3 : ∀ {off : Nat} {xs : Array Value} {v : Value} {w : World}, xs[off]? = some v → (part 3 xs off).run Try.prog w = .ok v w := fun h => by simp [part, Try.isAgg3, h]
  have eq3 : ∀ (d : Nat) (k : IntKind) (a b : Int) (w : World), (Op.equalIn (d + 1) 3 (.int k a) (.int k b)).run Try.prog w = .ok (a == b) w := fun d k a b w => by simp [Op.equalIn, run_underlying Try.underlying3]
  have key : ∀ d, (Op.equalIn (d + 2) 30 (.agg (S_api_Spot.cs x).toArray) (.agg (S_api_Spot.cs y).toArray)).run Try.prog w = .ok (decide (x = y)) w := by
    intro d
    obtain ⟨a0, a1, a2⟩ := x
    obtain ⟨b0, b1, b2⟩ := y
    rw [Op.equalIn]
    simp [run_underlying Try.underlying30, S_api_Spot.cs, hst, pt3, eq3]
    repeat' split
    all_goals simp_all
  exact key 9998
theorem S_api_Spot.keyL : KeyL Try.prog 30 S_api_Spot S_api_Spot.ek := keyL_agg (f := S_api_Spot.cs) Try.underlying30 S_api_Spot.eql
  (fun b k w => by
    have h : ∀ n, (Instr.checkKey b (n + 2) 30 (.agg (S_api_Spot.cs k).toArray)).run Try.prog w = .ok () w := by
      intro n
      simp [Instr.checkKey, run_underlying Try.underlying30, S_api_Spot.cs, part, Try.isAgg3, run_underlying Try.underlying3]
    exact h 9998)
  (fun k => by
    have h : ∀ n, Instr.sameBits (n + 2) (.agg (S_api_Spot.cs k).toArray) (.agg (S_api_Spot.cs k).toArray) = true := by
      intro n
      simp [Instr.sameBits, S_api_Spot.cs]
    exact h 9998)

structure S_cache_Store where
  room : Int
  m : (List (S_api_Spot × S_cache_rows))
  deriving DecidableEq

def S_cache_Store.hp (b : Nat) (x : S_cache_Store) : HP := Ex fun v1 : Nat => Sep (B b [.int .i64 x.room, .map (some v1)] 63) (Mp S_api_Spot.ek (HV vfA S_cache_rows.pr) v1 x.m)

theorem S_cache_Store.uf {w : World} {l : List HP} {b : Nat} {x : S_cache_Store} (h : Ctx w (S_cache_Store.hp b x :: l)) : ∃ (v1 : Nat), Ctx w (B b [.int .i64 x.room, .map (some v1)] 63 :: Mp S_api_Spot.ek (HV vfA S_cache_rows.pr) v1 x.m :: l) := by
  obtain ⟨v1, h⟩ := Ctx.exF h
  replace h := Ctx.sepF h
  exact ⟨v1, h⟩
theorem S_cache_Store.fd {w : World} {l : List HP} {b : Nat} {x : S_cache_Store} {v1 : Nat} (h : Ctx w (B b [.int .i64 x.room, .map (some v1)] 63 :: Mp S_api_Spot.ek (HV vfA S_cache_rows.pr) v1 x.m :: l)) : Ctx w (S_cache_Store.hp b x :: l) := Ctx.exB _ _ (Ctx.sepB h)

structure S_law12_Act where
  Kind : Int
  At : S_api_Spot
  K : (List Int)
  V : (List Int)
  deriving DecidableEq

def S_law12_Act.pr : PR S_law12_Act 6 := pMap (fun x : S_law12_Act => (x.Kind, x.At, x.K, x.V)) (pSeq (pInt .i64) (pSeq S_api_Spot.pr (pSeq (pRo (pInt .i8)) (pRo (pInt .i8)))))

theorem S_law12_Act.op {w : World} {l : List HP} {cs : List Value} {x : S_law12_Act} (h : Ctx w (Hold S_law12_Act.pr cs x :: l)) : ∃ a4 q4 a5 q5, cs = [.int .i64 x.Kind, .int .i64 x.At.Request, .int .i64 x.At.Layer, .int .i64 x.At.Place, .slice a4 x.K.length q4, .slice a5 x.V.length q5] ∧ Ctx w (Hold (pRo (pInt .i8)) [.slice a4 x.K.length q4] x.K :: Hold (pRo (pInt .i8)) [.slice a5 x.V.length q5] x.V :: l) := by
  obtain ⟨R, Ss, hc⟩ := h
  match Ss, hc with
  | S :: Ss, hc =>
    obtain ⟨⟨rfl, ⟨_, _, rfl, rfl, ⟨_, _, rfl, rfl, ⟨_, _, rfl, ⟨_, rfl, a4, q4, rfl, hc4, hr4⟩, ⟨_, rfl, a5, q5, rfl, hc5, hr5⟩⟩⟩⟩⟩, h3⟩ := hc.all
    exact ⟨a4, q4, a5, q5, rfl, R, [] :: [] :: Ss, ⟨⟨rfl, _, rfl, a4, q4, rfl, hc4, hr4⟩, ⟨rfl, _, rfl, a5, q5, rfl, hc5, hr5⟩, h3⟩, by simpa using hc.nodup, by simpa using hc.own, hc.fz⟩
structure S_ref12_Row where
  At : S_api_Spot
  K : (List Int)
  V : (List Int)
  deriving DecidableEq

structure S_ref12_Store where
  Room : Int
  L : (List S_ref12_Row)
  deriving DecidableEq

abbrev S_api_Spot.cz (x : S_api_Spot) : List Value := [.int .i64 x.Request, .int .i64 x.Layer, .int .i64 x.Place]
abbrev S_law12_Act.cz (x : S_law12_Act) (a4 : Option Addr) (q4 : Nat) (a5 : Option Addr) (q5 : Nat) : List Value := [.int .i64 x.Kind, .int .i64 x.At.Request, .int .i64 x.At.Layer, .int .i64 x.At.Place, .slice a4 x.K.length q4, .slice a5 x.V.length q5]
abbrev C10 := @Try.call10
abbrev C11 := @Try.call11
abbrev C12 := @Try.call12
abbrev C13 := @Try.call13
abbrev C15 := @Try.call15
abbrev C24 := @Try.call24
abbrev C25 := @Try.call25
abbrev C26 := @Try.call26
abbrev C27 := @Try.call27
abbrev C28 := @Try.call28
abbrev C29 := @Try.call29
abbrev C32 := @Try.call32
abbrev C7 := @Try.call7
abbrev C8 := @Try.call8
abbrev C9 := @Try.call9
abbrev F10 := @Try.func10
abbrev F11 := @Try.func11
abbrev F12 := @Try.func12
abbrev F13 := @Try.func13
abbrev F15 := @Try.func15
abbrev F24 := @Try.func24
abbrev F25 := @Try.func25
abbrev F26 := @Try.func26
abbrev F27 := @Try.func27
abbrev F28 := @Try.func28
abbrev F29 := @Try.func29
abbrev F3 := @Try.func3
abbrev F32 := @Try.func32
abbrev F7 := @Try.func7
abbrev F8 := @Try.func8
abbrev F9 := @Try.func9
abbrev G24 := @Try.isAgg24
abbrev G3 := @Try.isAgg3
abbrev G30 := @Try.isAgg30
abbrev G31 := @Try.isAgg31
abbrev G33 := @Try.isAgg33
abbrev G42 := @Try.isAgg42
abbrev G47 := @Try.isAgg47
abbrev G61 := @Try.isAgg61
abbrev G66 := @Try.isAgg66
abbrev M10 := @Try.ntmps10
abbrev M11 := @Try.ntmps11
abbrev M12 := @Try.ntmps12
abbrev M13 := @Try.ntmps13
abbrev M15 := @Try.ntmps15
abbrev M24 := @Try.ntmps24
abbrev M25 := @Try.ntmps25
abbrev M26 := @Try.ntmps26
abbrev M27 := @Try.ntmps27
abbrev M28 := @Try.ntmps28
abbrev M29 := @Try.ntmps29
abbrev M3 := @Try.ntmps3
abbrev M32 := @Try.ntmps32
abbrev M7 := @Try.ntmps7
abbrev M8 := @Try.ntmps8
abbrev M9 := @Try.ntmps9
abbrev R10 := @Try.results10
abbrev R11 := @Try.results11
abbrev R12 := @Try.results12
abbrev R13 := @Try.results13
abbrev R15 := @Try.results15
abbrev R24 := @Try.results24
abbrev R25 := @Try.results25
abbrev R26 := @Try.results26
abbrev R27 := @Try.results27
abbrev R28 := @Try.results28
abbrev R29 := @Try.results29
abbrev R3 := @Try.results3
abbrev R32 := @Try.results32
abbrev R7 := @Try.results7
abbrev R8 := @Try.results8
abbrev R9 := @Try.results9
abbrev U22 := @Try.underlying22
abbrev U24 := @Try.underlying24
abbrev U28 := @Try.underlying28
abbrev U3 := @Try.underlying3
abbrev U30 := @Try.underlying30
abbrev U31 := @Try.underlying31
abbrev U33 := @Try.underlying33
abbrev U37 := @Try.underlying37
abbrev U47 := @Try.underlying47
abbrev U61 := @Try.underlying61
abbrev U63 := @Try.underlying63
abbrev U66 := @Try.underlying66
abbrev V24 := @Try.zeroValue24
abbrev V3 := @Try.zeroValue3
abbrev V30 := @Try.zeroValue30
abbrev V31 := @Try.zeroValue31
abbrev V33 := @Try.zeroValue33
abbrev V42 := @Try.zeroValue42
abbrev V66 := @Try.zeroValue66
abbrev Z24 := @Try.sizeOf24
abbrev Z3 := @Try.sizeOf3
abbrev Z30 := @Try.sizeOf30
abbrev Z31 := @Try.sizeOf31
abbrev Z33 := @Try.sizeOf33
abbrev Z42 := @Try.sizeOf42
abbrev Z61 := @Try.sizeOf61
abbrev Z66 := @Try.sizeOf66
def slices_Index_s_int_int.L1 (x0 : (List Int)) (x1 : Int) : Nat → Int → Option (Int)
  | 0, _ => none
  | m1 + 1, j1 =>
    if j1 < ((x0.length : Nat) : Int) then
      (idx x0 j1).bind fun y4 =>
      if x1 = y4 then
        some j1
      else
        (slices_Index_s_int_int.L1 x0 x1 m1) (IntKind.i64.wrap (j1 + 1))
    else
      some (-1)

def slices_Index_s_int_int (N : Nat) (x0 : (List Int)) (x1 : Int) : Option (Int) :=
  slices_Index_s_int_int.L1 x0 x1 N 0

theorem slices_Index_s_int_int_any {N nx0 qx0 : Nat} {x0 : (List Int)} {ax0 : Option Addr} {P0 : HP} {x1 r : Int} {Fr : List HP} {w : World} {K : Value → World → Prop} (hrd0 : Reads P0 (pInt .i64) (.slice ax0 nx0 qx0) x0) (hc : Ctx w (P0 :: Fr)) (hp : slices_Index_s_int_int N x0 x1 = some r)
    (k : ∀ w', Ctx w' (P0 :: Fr) → K (.int .i64 r) w') : Calls Try.prog 32 #[.slice ax0 nx0 qx0, .int .i64 x1] w (Ret K) := by
 unfold slices_Index_s_int_int at hp; refine Center2 F32 M32 rfl rfl ?_; obtain ⟨hn0, _⟩ := Ctx.rdLen hc (k := 0) rfl rfl hrd0; subst hn0; refine Wseq (Wreg ?_); refine au 1 rfl <| rn (qn (Wseq (Wseq (Wreg ?_)))); refine au 1 rfl <| sz (ln rfl U47) <| au 1 rfl <| rn (qn (Wblk ?_)); refine Wloop (rg [4, 2, 8, 11]) [8] (fun m vs w' => ∃ j1 : Int, vs = [.int .i64 j1] ∧ slices_Index_s_int_int.L1 x0 x1 m j1 = some r ∧ Ctx w' (P0 :: Fr)) N ?_ ?_
 · exact ⟨0, rfl, hp, hc⟩
 · clear hp hc; intro m vs u w2 hJ; obtain ⟨j1, rfl, hp, hc⟩ := hJ; rcases m with _ | m1
   · cases (show none = some r from hp)
   rw [slices_Index_s_int_int.L1] at hp; refine Wseq (Wreg ?_); refine au 1 rfl <| rn (qn (Wseq ?_)); refine Wif hp (fun _ hp => ?_) fun _ hp => ?_
   · refine Wexit (qx (qx (be (qn (Wseq (Wreg ?_)))))); refine au 1 rfl <| rn (qn (Wret ?_)); obtain rfl := sj hp; exact fz R32 M32 (k _ hc)
   · refine Wskip (qn (Wseq (Wblk (Wseq (Wreg ?_))))); refine au 2 rfl <| rn (qn (Wseq (Wreg ?_))); refine au 3 rfl ?_; obtain ⟨y4, hy4, hp⟩ := bind_some hp; obtain ⟨b7, o8, rfl, hi5, hi6⟩ := hc.ra 0 hrd0 hy4; refine sz (ixx rfl rfl U47 Z3 hi5 hi6 rfl) ?_; have hcell11 := hc.rv 0 hrd0 hy4; refine sz (ld rfl G3 (hcell11 0 _ rfl)) <| au 1 rfl <| rn (qn ?_); refine Wif hp (fun _ hp => ?_) fun _ hp => ?_
     · refine Wskip (bn (qn (Wreg ?_))); refine au 2 rfl <| rn (qn ?_); exact ⟨m1, Nat.lt_succ_self _, ⟨(IntKind.i64.wrap (j1 + 1)), rfl, hp, hc⟩, (kl rfl k0)⟩
     · refine Wseq (Wreg ?_); refine au 2 rfl <| rn (qn (Wret (br (qr (qr (br (qr ?_))))))); obtain rfl := sj hp; exact fz R32 M32 (k _ hc)

def slices_Contains_s_int_int (N : Nat) (x0 : (List Int)) (x1 : Int) : Option (Bool) :=
  (slices_Index_s_int_int N x0 x1).bind fun r1 =>
  some (decide (r1 ≥ 0))

theorem slices_Contains_s_int_int_any {N nx0 qx0 : Nat} {x0 : (List Int)} {ax0 : Option Addr} {P0 : HP} {x1 : Int} {Fr : List HP} {w : World} {r : Bool} {K : Value → World → Prop} (hrd0 : Reads P0 (pInt .i64) (.slice ax0 nx0 qx0) x0) (hc : Ctx w (P0 :: Fr)) (hp : slices_Contains_s_int_int N x0 x1 = some r)
    (k : ∀ w', Ctx w' (P0 :: Fr) → K (.bool r) w') : Calls Try.prog 26 #[.slice ax0 nx0 qx0, .int .i64 x1] w (Ret K) := by
 unfold slices_Contains_s_int_int at hp; refine Center2 F26 M26 rfl rfl ?_; obtain ⟨hn0, _⟩ := Ctx.rdLen hc (k := 0) rfl rfl hrd0; subst hn0; refine Wseq (Wreg ?_); refine au 1 rfl <| rn (qn (Wseq (Wreg ?_))); refine au 2 rfl ?_; obtain ⟨r1, hr1, hp⟩ := bind_some hp; refine kz C32 ?_; refine slices_Index_s_int_int_any hrd0 hc hr1 ?_; clear hc; intro w2 hc; refine au 2 rfl <| rn (qn (Wret ?_)); obtain rfl := sj hp; exact fz R26 M26 (k _ hc)

def slices_Clone_s_int8_int8 (x0 : (List Int)) : Option ((List Int)) :=
  (app ([]) x0).bind fun z3 =>
  some z3

theorem slices_Clone_s_int8_int8_any {x0 r : (List Int)} {ax0 : Option Addr} {nx0 qx0 : Nat} {P0 : HP} {Fr : List HP} {w : World} {K : Value → World → Prop} (hrd0 : Reads P0 (pInt .i8) (.slice ax0 nx0 qx0) x0) (hc : Ctx w (P0 :: Fr)) (hp : slices_Clone_s_int8_int8 x0 = some r)
    (k : ∀ a9 n10 q11 w', Ctx w' (Own (pInt .i8) 42 (.slice a9 n10 q11) r :: P0 :: Fr) → K (.slice a9 n10 q11) w') : Calls Try.prog 29 #[.slice ax0 nx0 qx0] w (Ret K) := by
 unfold slices_Clone_s_int8_int8 at hp; refine Center1 F29 M29 rfl rfl ?_; obtain ⟨hn0, _⟩ := Ctx.rdLen hc (k := 0) rfl rfl hrd0; subst hn0; rcases ax0 with _ | ax0
 · have hx := Ctx.nilRows hc (k := 0) rfl rfl hrd0; subst hx; obtain ⟨z, hz, hp⟩ := bind_some hp; obtain rfl := sj hp; obtain ⟨_, hz⟩ := app_some hz; subst hz; refine Wseq (Wreg ?_); refine au 1 rfl <| rn (qn (Wseq (Wseq (Wreg ?_)))); refine au 1 rfl <| sz (v := .bool true) (esnT U31 rfl rfl) <| rn (qn (Wct rfl (Wseq (Wreg ?_)))); refine au 1 rfl <| rn (qn (Wret (qr ?_))); replace hc := hc.nilOwn (pInt .i8) 42; exact fz R29 M29 (k _ _ _ _ hc)
 · refine Wseq (Wreg ?_); refine au 1 rfl <| rn (qn (Wseq (Wseq (Wreg ?_)))); refine au 1 rfl <| sz (v := .bool false) (esnF U31 rfl rfl) <| rn (qn (Wcf rfl (Wskip (qn (Wseq (Wreg ?_)))))); refine rsE (Ctx.builtOp (css := []) (xs := ([] : List Int)) (E := (pInt .i8)) hc U31 Z42 V42 rfl rfl rfl rfl rfl rfl rfl rfl) rfl ?_; clear hc; rintro _ w2 ⟨a1, rfl, hc⟩; refine au 1 rfl ?_; obtain ⟨z3, hz3, hp⟩ := bind_some hp; obtain ⟨hg4, e5⟩ := app_some hz3; refine rsE (hc.ap 0 1 hrd0 U31 Try.t42 hg4) rfl ?_; clear hc; rintro _ w8 ⟨a6, q7, rfl, hc⟩; rw [← e5] at hc ⊢; replace hc := Ctx.n0 hc; refine au 1 rfl <| rn (qn (Wret ?_)); obtain rfl := sj hp; exact fz R29 M29 (k _ _ _ _ hc)

def slices_Equal_s_int8_int8.L1 (x0 : (List Int)) (x1 : (List Int)) : Nat → Int → Option (Bool)
  | 0, _ => none
  | m1 + 1, j2 =>
    if j2 < ((x0.length : Nat) : Int) then
      (idx x0 j2).bind fun y6 =>
      (idx x1 j2).bind fun y15 =>
      if y6 ≠ y15 then
        some false
      else
        (slices_Equal_s_int8_int8.L1 x0 x1 m1) (IntKind.i64.wrap (j2 + 1))
    else
      some true

def slices_Equal_s_int8_int8 (N : Nat) (x0 : (List Int)) (x1 : (List Int)) : Option (Bool) :=
  if ((x0.length : Nat) : Int) ≠ ((x1.length : Nat) : Int) then
    some false
  else
    slices_Equal_s_int8_int8.L1 x0 x1 N 0

theorem slices_Equal_s_int8_int8_any {N nx0 qx0 nx1 qx1 : Nat} {x0 x1 : (List Int)} {ax0 ax1 : Option Addr} {P0 P1 : HP} {Fr : List HP} {w : World} {r : Bool} {K : Value → World → Prop} (hrd0 : Reads P0 (pInt .i8) (.slice ax0 nx0 qx0) x0) (hrd1 : Reads P1 (pInt .i8) (.slice ax1 nx1 qx1) x1) (hc : Ctx w (P0 :: P1 :: Fr)) (hp : slices_Equal_s_int8_int8 N x0 x1 = some r)
    (k : ∀ w', Ctx w' (P0 :: P1 :: Fr) → K (.bool r) w') : Calls Try.prog 28 #[.slice ax0 nx0 qx0, .slice ax1 nx1 qx1] w (Ret K) := by
 unfold slices_Equal_s_int8_int8 at hp; refine Center2 F28 M28 rfl rfl ?_; obtain ⟨hn0, _⟩ := Ctx.rdLen hc (k := 0) rfl rfl hrd0; subst hn0; obtain ⟨hn1, _⟩ := Ctx.rdLen hc (k := 1) rfl rfl hrd1; subst hn1; refine Wseq (Wreg ?_); refine au 1 rfl <| rn (qn (Wseq (Wseq (Wreg ?_)))); refine au 1 rfl <| sz (ln rfl U31) <| au 1 rfl <| sz (ln rfl U31) <| au 1 rfl <| rn (qn ?_); refine Wif hp (fun _ hp => ?_) fun _ hp => ?_
 · refine Wskip (qn (Wseq (Wseq (Wreg ?_)))); refine au 1 rfl <| sz (ln rfl U31) <| au 1 rfl <| rn (qn (Wblk ?_)); refine Wloop (rg [4, 2, 13, 13]) [13] (fun m vs w' => ∃ j2 : Int, vs = [.int .i64 j2] ∧ slices_Equal_s_int8_int8.L1 x0 x1 m j2 = some r ∧ Ctx w' (P0 :: P1 :: Fr)) N ?_ ?_
   · exact ⟨0, rfl, hp, hc⟩
   · clear hp hc; intro m vs u w3 hJ; obtain ⟨j2, rfl, hp, hc⟩ := hJ; rcases m with _ | m1
     · cases (show none = some r from hp)
     rw [slices_Equal_s_int8_int8.L1] at hp; refine Wseq (Wreg ?_); refine au 1 rfl <| rn (qn (Wseq ?_)); refine Wif hp (fun _ hp => ?_) fun _ hp => ?_
     · refine Wexit (qx (qx (be (qn (Wseq (Wreg ?_)))))); refine au 1 rfl <| rn (qn (Wret ?_)); obtain rfl := sj hp; exact fz R28 M28 (k _ hc)
     · refine Wskip (qn (Wseq (Wblk (Wseq (Wreg ?_))))); refine au 2 rfl <| rn (qn (Wseq ?_)); replace hc := hc.drew; refine Wdrw (fun _ w' => w' = World.drew w3) [0, 0, 3, 7, 0, 0, 48, 112, 255] 0 0 rfl (by kernel_rfl) (fun _ _ => rfl) ?_; generalize hw : World.drew w3 = w5 at *; clear hw; refine ad_ 2 rfl ?_; obtain ⟨y6, hy6, hp⟩ := bind_some hp; obtain ⟨b9, o10, rfl, hi7, hi8⟩ := hc.ra 0 hrd0 hy6; refine dE (ixx rfl rfl U31 Z42 hi7 hi8 rfl) rfl rfl ?_; have hcell13 := hc.rv 0 hrd0 hy6; refine dE (ld rfl G42 (hcell13 0 _ rfl)) rfl rfl <| ad_ 2 rfl ?_; obtain ⟨y15, hy15, hp⟩ := bind_some hp; obtain ⟨b18, o19, rfl, hi16, hi17⟩ := hc.ra 1 hrd1 hy15; refine dE (ixx rfl rfl U31 Z42 hi16 hi17 rfl) rfl rfl ?_; have hcell22 := hc.rv 1 hrd1 hy15; refine dE (ld rfl G42 (hcell22 0 _ rfl)) rfl rfl <| ad_ 1 rfl <| dn (qn ?_); refine Wif hp (fun _ hp => ?_) fun _ hp => ?_
       · refine Wskip (bn (qn (Wreg ?_))); refine au 2 rfl <| rn (qn ?_); exact ⟨m1, Nat.lt_succ_self _, ⟨(IntKind.i64.wrap (j2 + 1)), rfl, hp, hc⟩, (kl rfl k0)⟩
       · refine Wseq (Wreg ?_); refine au 1 rfl <| rn (qn (Wret (br (qr (qr (br (qr ?_))))))); obtain rfl := sj hp; exact fz R28 M28 (k _ hc)
 · refine Wseq (Wreg ?_); refine au 1 rfl <| rn (qn (Wret (qr ?_))); obtain rfl := sj hp; exact fz R28 M28 (k _ hc)

def maps_DeleteFunc_map_api_Spot_cache_rows_api_Spot_cache_rows.L1 (x1 : (S_api_Spot → S_cache_rows → Option Bool)) : Nat → (List (S_api_Spot × S_cache_rows)) → (List S_api_Spot) → Option ((List (S_api_Spot × S_cache_rows)))
  | 0, _, _ => none
  | m1 + 1, j4, j5 =>
    anyK (remK j4 j5) (
      some j4) fun kk8 =>
      (mget j4 kk8).bind fun y13 =>
      (x1 (⟨kk8.Request, kk8.Layer, kk8.Place⟩ : S_api_Spot) (⟨y13.k, y13.v⟩ : S_cache_rows)).bind fun r28 =>
      if r28 = true then
        (maps_DeleteFunc_map_api_Spot_cache_rows_api_Spot_cache_rows.L1 x1 m1) (mdel j4 (⟨kk8.Request, kk8.Layer, kk8.Place⟩ : S_api_Spot)) (kk8 :: j5)
      else
        (maps_DeleteFunc_map_api_Spot_cache_rows_api_Spot_cache_rows.L1 x1 m1) j4 (kk8 :: j5)

def maps_DeleteFunc_map_api_Spot_cache_rows_api_Spot_cache_rows (N : Nat) (x0 : (List (S_api_Spot × S_cache_rows))) (x1 : (S_api_Spot → S_cache_rows → Option Bool)) : Option ((List (S_api_Spot × S_cache_rows))) :=
  chk ((x0.map Prod.fst).Nodup) <|
  maps_DeleteFunc_map_api_Spot_cache_rows_api_Spot_cache_rows.L1 x1 N x0 ([])

theorem maps_DeleteFunc_map_api_Spot_cache_rows_api_Spot_cache_rows_any {N b0 : Nat} {x0 r : (List (S_api_Spot × S_cache_rows))} {x1 : (S_api_Spot → S_cache_rows → Option Bool)} {fid1 : FuncId} {cap1 : List Value} {Fr : List HP} {w : World} {K : Value → World → Prop} (hcl1 : ∀ a w, (callFunc fid1 a).run Try.prog w = .ok (.enter fid1 a) w) (hf1 : ∀ (y0 : S_api_Spot) (y1 : S_cache_rows) (a1 : Option Addr) (n2 : Nat) (q3 : Nat) (a4 : Option Addr) (n5 : Nat) (q6 : Nat) (Qs : List HP) (w : World) (r : Bool) (K : Value → World → Prop), Ctx w (Hold (pRo (pInt .i8)) [.slice a1 n2 q3] y1.k :: Hold (pRo (pInt .i8)) [.slice a4 n5 q6] y1.v :: (Qs ++ Fr)) → x1 y0 y1 = some r → (∀ w', Ctx w' (Qs ++ Fr) → K (.bool r) w') → Calls Try.prog fid1 (([.agg (S_api_Spot.cz y0).toArray, .agg #[.slice a1 n2 q3, .slice a4 n5 q6]] : List Value) ++ cap1).toArray w (Ret K)) (hc : Ctx w (Mp S_api_Spot.ek (HV vfA S_cache_rows.pr) b0 x0 :: Fr)) (hp : maps_DeleteFunc_map_api_Spot_cache_rows_api_Spot_cache_rows N x0 x1 = some r)
    (k : ∀ w', Ctx w' (Mp S_api_Spot.ek (HV vfA S_cache_rows.pr) b0 r :: Fr) → K (.tuple #[]) w') : Calls Try.prog 24 #[.map (some b0), .func (.func fid1) #[] cap1.toArray] w (Ret K) := by
 unfold maps_DeleteFunc_map_api_Spot_cache_rows_api_Spot_cache_rows at hp; refine Center2 F24 M24 rfl rfl ?_; refine Wseq (Wreg ?_); refine au 1 rfl ?_; replace hp := chk_some hp; obtain ⟨hg1, hp⟩ := hp; refine rsE (Ctx.itMake hc (i := 0) rfl rfl U61 rfl hg1) rfl ?_; clear hc; rintro _ w3 ⟨b2, rfl, hc⟩; replace hc := Ctx.n0 hc; refine rn (qn (Wblk ?_)); refine Wloop (rg [4, 2, 8, 11]) [] (fun m vs w' => ∃ j4 : (List (S_api_Spot × S_cache_rows)), ∃ j5 : (List S_api_Spot), ∃ c6 : Option (S_api_Spot × Value), vs = [] ∧ maps_DeleteFunc_map_api_Spot_cache_rows_api_Spot_cache_rows.L1 x1 m j4 j5 = some r ∧ Ctx w' (MpI S_api_Spot.ek (HV vfA S_cache_rows.pr) b0 b2 j4 j5 c6 :: Fr)) N ?_ ?_
 · exact ⟨x0, [], none, rfl, hp, hc⟩
 · clear hp hc; intro m vs u w7 hJ; obtain ⟨j4, j5, c6, rfl, hp, hc⟩ := hJ; rcases m with _ | m1
   · cases (show none = some r from hp)
   rw [maps_DeleteFunc_map_api_Spot_cache_rows_api_Spot_cache_rows.L1] at hp; refine Wseq (Wreg ?_); refine rsE (Ctx.itNext hc (i := 0) rfl rfl rfl) rfl ?_; clear hc; rintro _ w12 (⟨hr9, rfl, hc⟩ | ⟨kk8, y13, c14, hk10, hg11, rfl, hc⟩)
   · replace hp := anyK_nil hp hr9; replace hc := Ctx.itEnd hc (i := 0) rfl rfl rfl; replace hc : Ctx w12 (Mp S_api_Spot.ek (HV vfA S_cache_rows.pr) b0 j4 :: Fr) := hc; refine au 1 rfl <| rn (qn (Wseq (Wcf rfl (Wexit (qx (qx (be ?_))))))); refine f0n R24 ?_; obtain rfl := sj hp; exact ⟨_, rfl, k _ hc⟩
   · replace hp := anyK_mem hp hk10; replace hp := bind_of hp hg11; replace hc := S_cache_rows.op hc; obtain ⟨a16, q17, a18, q19, u15, hc⟩ := hc; subst u15; replace hc : Ctx w12 (hR .i8 a16 q17 y13.k :: hR .i8 a18 q19 y13.v :: MpI S_api_Spot.ek (HV vfA S_cache_rows.pr) b0 b2 j4 (kk8 :: j5) (some (kk8, vfA [.slice a16 y13.k.length q17, .slice a18 y13.v.length q19])) :: Fr) := hc; refine au 1 rfl <| rn (qn (Wseq (Wct rfl (Wskip (qn (Wblk (Wseq (Wreg ?_)))))))); refine sz (v := .tuple #[.agg (S_api_Spot.cz kk8).toArray, .agg #[.slice a16 y13.k.length q17, .slice a18 y13.v.length q19]]) (Ctx.itEntry (k := kk8) hc (i := 2) rfl rfl rfl) <| au 2 rfl ?_; refine rsE (Ctx.allocOp (cs := [.int .i64 0, .int .i64 0, .int .i64 0]) hc V30 rfl) rfl ?_; clear hc; rintro _ w22 ⟨b20, rfl, hc⟩; refine rsE (Ctx.allocOp (cs := [.slice none 0 0, .slice none 0 0]) hc V66 rfl) rfl ?_; clear hc; rintro _ w25 ⟨b23, rfl, hc⟩; refine pa hc 1 Z30 ?_; clear hc; rintro w26 hc; refine pa hc 0 Z66 ?_; clear hc; rintro w27 hc; refine rn (qn (Wseq (Wreg ?_))); refine au 1 rfl <| lg G30 Z30 hc 1 ?_; refine lg G66 Z66 hc 0 ?_; replace hc := hc.dz 2; replace hc := hc.dz 4; replace hp := bind_some hp; obtain ⟨r28, hr28, hp⟩ := hp; replace hc := hc.m [2]; refine rc (cv (fi := []) (ca := cap1) (vs := ([.agg (S_api_Spot.cz kk8).toArray, .agg #[.slice a16 y13.k.length q17, .slice a18 y13.v.length q19]] : List Value) ++ cap1) hcl1 rfl rfl) rfl ?_; refine hf1 _ _ _ _ _ _ _ _ [B b23 [.slice a16 y13.k.length q17, .slice a18 y13.v.length q19] 66, B b20 (S_api_Spot.cz kk8) 30, hR .i8 a16 q17 y13.k, hR .i8 a18 q19 y13.v, MpI S_api_Spot.ek (HV vfA S_cache_rows.pr) b0 b2 j4 (kk8 :: j5) (some (kk8, vfA [.slice a16 y13.k.length q17, .slice a18 y13.v.length q19]))] _ _ _ hc hr28 ?_; clear hc; intro w29 hc; replace hc : Ctx w29 (B b23 [.slice a16 y13.k.length q17, .slice a18 y13.v.length q19] 66 :: B b20 (S_api_Spot.cz kk8) 30 :: hR .i8 a16 q17 y13.k :: hR .i8 a18 q19 y13.v :: MpI S_api_Spot.ek (HV vfA S_cache_rows.pr) b0 b2 j4 (kk8 :: j5) (some (kk8, vfA [.slice a16 y13.k.length q17, .slice a18 y13.v.length q19])) :: Fr) := hc; refine rn (qn ?_); cases hb30 : r28
     · replace hp := gneg hp (by rw [hb30]; exact Bool.false_ne_true); subst hb30; refine Wcf rfl (Wskip (bn (qn ?_))); replace hc := hc.m [7, 5, 3, 1]; exact ⟨m1, Nat.lt_succ_self _, ⟨j4, (kk8 :: j5), (some (kk8, vfA [.slice a16 y13.k.length q17, .slice a18 y13.v.length q19])), rfl, hp, hc⟩, (kl rfl k0)⟩
     · replace hp := gpos hp hb30; subst hb30; refine Wct rfl (Wreg ?_); refine au 1 rfl <| lg G30 Z30 hc 1 ?_; refine rvE (Ctx.itDel (k := kk8) S_api_Spot.keyL hc (i := 4) rfl rfl U61 rfl rfl) rfl ?_; clear hc; intro w31 hc; replace hc := Ctx.n4 hc; refine rn (bn (qn ?_)); replace hc := hc.m [7, 5, 3, 1]; exact ⟨m1, Nat.lt_succ_self _, ⟨(mdel j4 kk8), (kk8 :: j5), none, rfl, hp, hc⟩, (kl rfl k0)⟩

theorem bd_63_0_1 {ρ : Operand → Value} {w : World} {dst : Option Nat} {ty : TypeId} {pos : String} {after : Array Edge} {g : Option (Nat × Bool)} {x0 x1 : Operand} {k0 : IntKind} {a0 : Int} {a1 : Option Nat} (h0 : ρ x0 = (.int k0 a0)) (h1 : ρ x1 = (.map a1)) :
    (execOp ρ ⟨dst, .build 63 #[(0, x0), (1, x1)], ty, pos, after, g⟩).run Try.prog w = .ok (.value (.agg #[(.int k0 a0), (.map a1)])) w := by
  simp [execOp, Instr.build, Instr.fill, Try.zeroValue63, Try.runUnderlying63, Try.sizeOf3, Try.sizeOf61, h0, h1, Value.cells]

def cache_New (x0 : Int) : Option ((Option S_cache_Store) × Int) :=
  if x0 < 0 then
    some (none, 2)
  else
    if x0 > 1048576 then
      some (none, 2)
    else
      some ((some (⟨x0, []⟩ : S_cache_Store)), 0)

theorem cache_New_any {x0 : Int} {Fr : List HP} {w : World} {r : (Option S_cache_Store) × Int} {K : Value → World → Prop}  (hc : Ctx w (Fr)) (hp : cache_New x0 = some r)
    (k : ∀ (v8 : Value) w', Ctx w' (PtO S_cache_Store.hp v8 r.1 :: Fr) → K (.tuple #[v8, .int .i64 r.2]) w') : Calls Try.prog 8 #[.int .i64 x0] w (Ret K) := by
 unfold cache_New at hp; refine Center1 F8 M8 rfl rfl ?_; refine Wseq (Wreg ?_); refine au 2 rfl <| rn (qn (Wseq (Wseq (Wreg ?_)))); refine au 3 rfl ?_; cases hb1 : (decide (x0 < 0))
 · replace hp := gneg hp (of_decide_eq_false hb1); refine au 3 rfl <| rn (qn ?_); refine Wif hp (fun _ hp => ?_) fun _ hp => ?_
   · refine Wskip (qn (Wseq (Wreg ?_))); refine au 1 rfl ?_; refine rsE (Ctx.mpMake S_api_Spot.ek (HV vfA S_cache_rows.pr) hc) rfl ?_; clear hc; rintro _ w4 ⟨b3, rfl, hc⟩; refine sz (v := .agg #[.int .i64 x0, .map (some b3)]) (bd_63_0_1 rfl rfl) ?_; refine rsE (Ctx.boxOp (cs := [.int .i64 x0, .map (some b3)]) (v := .agg #[.int .i64 x0, .map (some b3)]) hc rfl rfl) rfl ?_; clear hc; rintro _ w7 ⟨b5, rfl, hc⟩; refine au 2 rfl <| rn (qn (Wret ?_)); replace hc := hc.m [2, 2]; replace hc := S_cache_Store.fd (x := (⟨x0, []⟩ : S_cache_Store)) hc; replace hc := Ctx.ptoSB S_cache_Store.hp hc; obtain rfl := sj hp; exact fz2 R8 M8 (k _ _ hc)
   · refine Wseq (Wreg ?_); refine au 2 rfl <| rn (qn (Wret (qr ?_))); replace hc := Ctx.ptoNB S_cache_Store.hp hc; obtain rfl := sj hp; exact fz2 R8 M8 (k _ _ hc)
 · replace hp := gpos hp (of_decide_eq_true hb1); (iterate 2 refine r0 rfl ?_); refine au 1 rfl <| rn (qn (Wct rfl (Wseq (Wreg ?_)))); refine au 2 rfl <| rn (qn (Wret (qr ?_))); replace hc := Ctx.ptoNB S_cache_Store.hp hc; obtain rfl := sj hp; exact fz2 R8 M8 (k _ _ hc)

def cache_Store_ahead (x0 : S_cache_Store) (x1 : S_api_Spot) : Option (Bool) :=
  if x1.Place = 0 then
    some true
  else
    (some ((mget x0.m (⟨x1.Request, x1.Layer, (IntKind.i64.wrap (x1.Place - 1))⟩ : S_api_Spot)).getD (⟨[], []⟩ : S_cache_rows))).bind fun y11 =>
    some ((mget x0.m (⟨x1.Request, x1.Layer, (IntKind.i64.wrap (x1.Place - 1))⟩ : S_api_Spot)).isSome)

theorem cache_Store_ahead_any {b0 : Nat} {x0 : S_cache_Store} {x1 : S_api_Spot} {Fr : List HP} {w : World} {r : Bool} {K : Value → World → Prop}  (hc : Ctx w (S_cache_Store.hp b0 x0 :: Fr)) (hp : cache_Store_ahead x0 x1 = some r)
    (k : ∀ w', Ctx w' (S_cache_Store.hp b0 x0 :: Fr) → K (.bool r) w') : Calls Try.prog 27 #[pt b0 0, .agg (S_api_Spot.cz x1).toArray] w (Ret K) := by
 unfold cache_Store_ahead at hp; refine Center2 F27 M27 rfl rfl ?_; refine Wseq (Wreg ?_); refine rsE (Ctx.boxOp (cs := (S_api_Spot.cz x1)) (v := .agg (S_api_Spot.cz x1).toArray) hc rfl rfl) rfl ?_; clear hc; rintro _ w3 ⟨b1, rfl, hc⟩; refine au 1 rfl <| rn (qn (Wseq (Wseq (Wreg ?_)))); refine fq 2 U30 Z3 G3 hc 0 ?_; refine au 1 rfl <| rn (qn ?_); refine Wif hp (fun _ hp => ?_) fun _ hp => ?_
 · refine Wskip (qn (Wseq (Wreg ?_))); refine fq 2 U30 Z3 G3 hc 0 ?_; refine au 1 rfl <| sz (v := pt b1 2) (fax 2 rfl U30 rfl Z3 rfl rfl rfl) <| po hc 0 Z3 ?_; clear hc; rintro w5 hc; refine rn (qn (Wseq ?_)); replace hc := hc.m [2]; replace hc := S_cache_Store.uf hc; obtain ⟨v6, hc⟩ := hc; replace hc := Ctx.mpoF hc (i := 1) rfl rfl; obtain ⟨o7, hc⟩ := hc; replace hc : Ctx w5 (B b0 [.int .i64 x0.room, .map (some v6)] 63 :: MpO S_api_Spot.ek (HV vfA S_cache_rows.pr) v6 o7 x0.m :: B b1 [.int .i64 x1.Request, .int .i64 x1.Layer, .int .i64 (IntKind.i64.wrap (x1.Place - 1))] 30 :: Fr) := hc; replace hc := hc.drew; refine Wdrw (fun j w' => (j = 3 → w'.cell? ⟨b0, 1, none⟩ = some (.map (some v6))) ∧ (j = 4 → ∀ j v, ([.int .i64 x1.Request, .int .i64 x1.Layer, .int .i64 (IntKind.i64.wrap (x1.Place - 1))] : List Value)[j]? = some v → w'.cell? ((⟨b1, 0, none⟩ : Addr).add j) = some v) ∧ (j = 5 → w'.heap[v6]? = some o7) ∧ True) [0, 1, 3, 7, 0, 31, 63, 127, 127, 0, 767, 2047] 0 0 rfl (by kernel_rfl) (fun j hj => ⟨fun _ => hc.cell (k := 0) rfl rfl rfl, fun _ => Ctx.cells hc (k := 2) rfl rfl 0 (vs := [.int .i64 x1.Request, .int .i64 x1.Layer, .int .i64 (IntKind.i64.wrap (x1.Place - 1))]) rfl, fun _ => Ctx.mpoPin hc (i := 1) rfl rfl, trivial⟩) ?_; generalize hw : World.drew w5 = w8 at *; clear hw; refine ad_ 2 rfl <| ds (v := pt b0 1) rfl (fun w' hF => fax 1 rfl U63 rfl Z61 rfl rfl rfl) rfl <| ds rfl (fun w' hF => ld rfl G61 ((hF.1 rfl))) rfl <| ds (v := .agg #[.int .i64 x1.Request, .int .i64 x1.Layer, .int .i64 (IntKind.i64.wrap (x1.Place - 1))]) rfl (fun w' hF => ldg rfl G30 Z30 rfl (hF.2.1 rfl)) rfl ?_; replace hc := Ctx.mpoFact true S_api_Spot.keyL hc (i := 1) rfl rfl (⟨x1.Request, x1.Layer, (IntKind.i64.wrap (x1.Place - 1))⟩ : S_api_Spot) U61 V66 (zcs := [.slice none 0 0, .slice none 0 0]) (x0 := (⟨[], []⟩ : S_cache_rows)) rfl (fun _ _ => ⟨([.slice none 0 0] : List Value), ([.slice none 0 0] : List Value), rfl, ⟨_, rfl, none, 0, rfl, Nat.le_refl _, fun i x hx => by simp at hx⟩, ⟨_, rfl, none, 0, rfl, Nat.le_refl _, fun i x hx => by simp at hx⟩⟩); obtain ⟨cs9, hc, hr10⟩ := hc; obtain ⟨y11, hy11, hp⟩ := bind_some hp; injection hy11 with hy11; rw [hy11] at hc; replace hc := S_cache_rows.op hc; obtain ⟨a13, q14, a15, q16, u12, hc⟩ := hc; subst u12; refine ds (v := .tuple #[.agg #[.slice a13 y11.k.length q14, .slice a15 y11.v.length q16], .bool ((mget x0.m (⟨x1.Request, x1.Layer, (IntKind.i64.wrap (x1.Place - 1))⟩ : S_api_Spot)).isSome)]) rfl (fun w' hF => hr10 ((hF.2.2.1 rfl)) rfl rfl) rfl <| ad_ 3 rfl ?_; refine deE (Ctx.allocOp (cs := [.slice none 0 0, .slice none 0 0]) hc V66 rfl) rfl rfl ?_; clear hc; rintro _ w19 ⟨b17, rfl, hc⟩; refine ⟨fun j hj hb => ⟨fun _ => hc.cell (k := 3) rfl rfl rfl, fun _ => Ctx.cells hc (k := 5) rfl rfl 0 (vs := [.int .i64 x1.Request, .int .i64 x1.Layer, .int .i64 (IntKind.i64.wrap (x1.Place - 1))]) rfl, fun _ => Ctx.mpoPin hc (i := 4) rfl rfl, trivial⟩, ?_⟩; refine pad hc 0 Z66 ?_; clear hc; rintro w20 hc; refine ⟨fun j hj hb => ⟨fun e => nja hj e, fun e => nja hj e, fun e => nja hj e, trivial⟩, ?_⟩; refine ad_ 1 rfl ?_; replace hc := Ctx.mpoB hc (i := 4) rfl rfl rfl; replace hc : Ctx w20 (B b17 [.slice a13 y11.k.length q14, .slice a15 y11.v.length q16] 66 :: hR .i8 a13 q14 y11.k :: hR .i8 a15 q16 y11.v :: B b0 [.int .i64 x0.room, .map (some v6)] 63 :: Mp S_api_Spot.ek (HV vfA S_cache_rows.pr) v6 x0.m :: B b1 [.int .i64 x1.Request, .int .i64 x1.Layer, .int .i64 (IntKind.i64.wrap (x1.Place - 1))] 30 :: Fr) := hc; refine dn (qn (Wseq (Wreg ?_))); refine au 2 rfl <| rn (qn (Wret ?_)); replace hc := hc.m [8, 8]; replace hc := S_cache_Store.fd (x := x0) hc; replace hc := hc.m [9, 7, 5, 3]; obtain rfl := sj hp; exact fz R27 M27 (k _ hc)
 · refine Wseq (Wreg ?_); refine au 1 rfl <| rn (qn (Wret (qr ?_))); replace hc := hc.m [1]; obtain rfl := sj hp; exact fz R27 M27 (k _ hc)

theorem bd_66_0_1 {ρ : Operand → Value} {w : World} {dst : Option Nat} {ty : TypeId} {pos : String} {after : Array Edge} {g : Option (Nat × Bool)} {x0 x1 : Operand} {a0 : Option Addr} {l0 c0 : Nat} {a1 : Option Addr} {l1 c1 : Nat} (h0 : ρ x0 = (.slice a0 l0 c0)) (h1 : ρ x1 = (.slice a1 l1 c1)) :
    (execOp ρ ⟨dst, .build 66 #[(0, x0), (1, x1)], ty, pos, after, g⟩).run Try.prog w = .ok (.value (.agg #[(.slice a0 l0 c0), (.slice a1 l1 c1)])) w := by
  simp [execOp, Instr.build, Instr.fill, Try.zeroValue66, Try.runUnderlying66, Try.sizeOf31, h0, h1, Value.cells]

def cache_Store_Put.J1 (x0 : S_cache_Store) (x1 : S_api_Spot) (x2 : (List Int)) (x3 : (List Int)) (j26 : Bool) : Option (Int × S_cache_Store) :=
  if j26 = true then
    some (0, x0)
  else
    if (mget x0.m x1).isSome = true then
      some (2, x0)
    else
      if ((x0.m.length : Nat) : Int) ≥ x0.room then
        some (80, x0)
      else
        (slices_Clone_s_int8_int8 x2).bind fun r40 =>
        (slices_Clone_s_int8_int8 x3).bind fun r46 =>
        some (0, (⟨x0.room, (mset x0.m x1 (⟨r40, r46⟩ : S_cache_rows))⟩ : S_cache_Store))

def cache_Store_Put (N : Nat) (x0 : S_cache_Store) (x1 : S_api_Spot) (x2 : (List Int)) (x3 : (List Int)) : Option (Int × S_cache_Store) :=
  (some ((mget x0.m x1).getD (⟨[], []⟩ : S_cache_rows))).bind fun y9 =>
  if x1.Request < 0 then
    some (2, x0)
  else
    if x1.Layer < 0 then
      some (2, x0)
    else
      if x1.Place < 0 then
        some (2, x0)
      else
        if ((x2.length : Nat) : Int) ≠ ((x3.length : Nat) : Int) then
          some (30, x0)
        else
          (cache_Store_ahead x0 x1).bind fun r23 =>
          if r23 = true then
            if (mget x0.m x1).isSome = true then
              (slices_Equal_s_int8_int8 N y9.k x2).bind fun r28 =>
              if r28 = true then
                (slices_Equal_s_int8_int8 N y9.v x3).bind fun r31 =>
                cache_Store_Put.J1 x0 x1 x2 x3 r31
              else
                cache_Store_Put.J1 x0 x1 x2 x3 false
            else
              cache_Store_Put.J1 x0 x1 x2 x3 false
          else
            some (120, x0)

theorem cache_Store_Put_any {N b0 nx2 qx2 nx3 qx3 : Nat} {x0 : S_cache_Store} {x1 : S_api_Spot} {x2 x3 : (List Int)} {ax2 ax3 : Option Addr} {P2 P3 : HP} {Fr : List HP} {w : World} {r : Int × S_cache_Store} {K : Value → World → Prop} (hrd2 : Reads P2 (pInt .i8) (.slice ax2 nx2 qx2) x2) (hrd3 : Reads P3 (pInt .i8) (.slice ax3 nx3 qx3) x3) (hc : Ctx w (S_cache_Store.hp b0 x0 :: P2 :: P3 :: Fr)) (hp : cache_Store_Put N x0 x1 x2 x3 = some r)
    (k : ∀ w', Ctx w' (S_cache_Store.hp b0 r.2 :: P2 :: P3 :: Fr) → K (.int .i64 r.1) w') : Calls Try.prog 11 #[pt b0 0, .agg (S_api_Spot.cz x1).toArray, .slice ax2 nx2 qx2, .slice ax3 nx3 qx3] w (Ret K) := by
 unfold cache_Store_Put at hp; refine Center4 F11 M11 rfl rfl ?_; obtain ⟨hn2, _⟩ := Ctx.rdLen hc (k := 1) rfl rfl hrd2; subst hn2; obtain ⟨hn3, _⟩ := Ctx.rdLen hc (k := 2) rfl rfl hrd3; subst hn3; refine Wseq (Wreg ?_); refine rsE (Ctx.boxOp (cs := (S_api_Spot.cz x1)) (v := .agg (S_api_Spot.cz x1).toArray) hc rfl rfl) rfl ?_; clear hc; rintro _ w3 ⟨b1, rfl, hc⟩; refine au 1 rfl <| rn (qn (Wseq ?_)); replace hc := hc.m [2]; replace hc := S_cache_Store.uf hc; obtain ⟨v4, hc⟩ := hc; replace hc := Ctx.mpoF hc (i := 1) rfl rfl; obtain ⟨o5, hc⟩ := hc; replace hc : Ctx w3 (B b0 [.int .i64 x0.room, .map (some v4)] 63 :: MpO S_api_Spot.ek (HV vfA S_cache_rows.pr) v4 o5 x0.m :: B b1 (S_api_Spot.cz x1) 30 :: P2 :: P3 :: Fr) := hc; replace hc := hc.drew; refine Wdrw (fun j w' => (j = 3 → w'.cell? ⟨b0, 1, none⟩ = some (.map (some v4))) ∧ (j = 4 → ∀ j v, ((S_api_Spot.cz x1) : List Value)[j]? = some v → w'.cell? ((⟨b1, 0, none⟩ : Addr).add j) = some v) ∧ (j = 5 → w'.heap[v4]? = some o5) ∧ True) [0, 1, 3, 7, 0, 31, 63, 127, 127, 0, 767, 2047] 0 0 rfl (by kernel_rfl) (fun j hj => ⟨fun _ => hc.cell (k := 0) rfl rfl rfl, fun _ => Ctx.cells hc (k := 2) rfl rfl 0 (vs := (S_api_Spot.cz x1)) rfl, fun _ => Ctx.mpoPin hc (i := 1) rfl rfl, trivial⟩) ?_; generalize hw : World.drew w3 = w6 at *; clear hw; refine ad_ 2 rfl <| ds (v := pt b0 1) rfl (fun w' hF => fax 1 rfl U63 rfl Z61 rfl rfl rfl) rfl <| ds rfl (fun w' hF => ld rfl G61 ((hF.1 rfl))) rfl <| ds (v := .agg (S_api_Spot.cz x1).toArray) rfl (fun w' hF => ldg rfl G30 Z30 rfl (hF.2.1 rfl)) rfl ?_; replace hc := Ctx.mpoFact true S_api_Spot.keyL hc (i := 1) rfl rfl x1 U61 V66 (zcs := [.slice none 0 0, .slice none 0 0]) (x0 := (⟨[], []⟩ : S_cache_rows)) rfl (fun _ _ => ⟨([.slice none 0 0] : List Value), ([.slice none 0 0] : List Value), rfl, ⟨_, rfl, none, 0, rfl, Nat.le_refl _, fun i x hx => by simp at hx⟩, ⟨_, rfl, none, 0, rfl, Nat.le_refl _, fun i x hx => by simp at hx⟩⟩); obtain ⟨cs7, hc, hr8⟩ := hc; replace hp := bind_some hp; obtain ⟨y9, hy9, hp⟩ := hp; injection hy9 with hy9; rw [hy9] at hc; replace hc := S_cache_rows.op hc; obtain ⟨a11, q12, a13, q14, u10, hc⟩ := hc; subst u10; refine ds (v := .tuple #[.agg #[.slice a11 y9.k.length q12, .slice a13 y9.v.length q14], .bool ((mget x0.m x1).isSome)]) rfl (fun w' hF => hr8 ((hF.2.2.1 rfl)) rfl rfl) rfl <| ad_ 3 rfl ?_; refine deE (Ctx.allocOp (cs := [.slice none 0 0, .slice none 0 0]) hc V66 rfl) rfl rfl ?_; clear hc; rintro _ w17 ⟨b15, rfl, hc⟩; refine ⟨fun j hj hb => ⟨fun _ => hc.cell (k := 3) rfl rfl rfl, fun _ => Ctx.cells hc (k := 5) rfl rfl 0 (vs := (S_api_Spot.cz x1)) rfl, fun _ => Ctx.mpoPin hc (i := 4) rfl rfl, trivial⟩, ?_⟩; refine pad hc 0 Z66 ?_; clear hc; rintro w18 hc; refine ⟨fun j hj hb => ⟨fun e => nja hj e, fun e => nja hj e, fun e => nja hj e, trivial⟩, ?_⟩; refine ad_ 1 rfl ?_; replace hc := Ctx.mpoB hc (i := 4) rfl rfl rfl; replace hc : Ctx w18 (B b15 [.slice a11 y9.k.length q12, .slice a13 y9.v.length q14] 66 :: hR .i8 a11 q12 y9.k :: hR .i8 a13 q14 y9.v :: B b0 [.int .i64 x0.room, .map (some v4)] 63 :: Mp S_api_Spot.ek (HV vfA S_cache_rows.pr) v4 x0.m :: B b1 (S_api_Spot.cz x1) 30 :: P2 :: P3 :: Fr) := hc; refine dn (qn (Wseq (Wblk (Wseq (Wreg ?_))))); refine fq 0 U30 Z3 G3 hc 5 ?_; refine au 2 rfl ?_; cases hb19 : (decide (x1.Request < 0))
 · replace hp := gneg hp (of_decide_eq_false hb19); refine fq 1 U30 Z3 G3 hc 5 ?_; refine au 3 rfl ?_; cases hb20 : (decide (x1.Layer < 0))
   · replace hp := gneg hp (of_decide_eq_false hb20); refine fq 2 U30 Z3 G3 hc 5 ?_; refine au 3 rfl <| rn (qn ?_); refine Wif hp (fun _ h => ?_) fun _ h => ?_
     · replace hp := h; clear h; refine Wseq (Wreg ?_); refine au 1 rfl <| sz (ln rfl U31) <| au 1 rfl <| sz (ln rfl U31) <| au 2 rfl <| rn (qn ?_); refine Wif hp (fun _ h => ?_) fun _ h => ?_
       · replace hp := h; clear h; refine Wseq (Wreg ?_); refine au 1 rfl <| lg G30 Z30 hc 5 ?_; replace hc := hc.m [8, 8]; replace hc := S_cache_Store.fd (x := x0) hc; replace hp := bind_some hp; obtain ⟨r23, hr23, hp⟩ := hp; refine kz C27 ?_; refine cache_Store_ahead_any (x1 := x1) hc hr23 ?_; clear hc; intro w24 hc; cases hb25 : r23
         · replace hp := gneg hp (by rw [hb25]; exact Bool.false_ne_true); subst hb25; refine au 2 rfl <| rn (qn (Wct rfl (Wseq (Wreg ?_)))); refine au 1 rfl <| rn (qn (Wret (br (qr ?_)))); replace hc := hc.m [9, 7, 5, 3]; obtain rfl := sj hp; exact fz R11 M11 (k _ hc)
         · replace hp := gpos hp hb25; subst hb25; refine au 2 rfl <| rn (qn (Wcf rfl ?_)); refine Wseqm (rg [45, 14]) [45] (fun vs w' => ∃ j26 : Bool, vs = [.bool j26] ∧ cache_Store_Put.J1 x0 x1 x2 x3 j26 = some r ∧ Ctx w' (S_cache_Store.hp b0 x0 :: B b1 (S_api_Spot.cz x1) 30 :: P2 :: P3 :: Fr)) ?_ ?_
           · refine Wreg <| au 2 rfl ?_; cases hb27 : ((mget x0.m x1).isSome)
             · replace hp := gneg hp (by rw [hb27]; exact Bool.false_ne_true); (iterate 4 refine r0 rfl ?_); refine au 2 rfl ?_; (iterate 4 refine r0 rfl ?_); refine au 2 rfl <| rn (qn ?_); replace hc := hc.m [7, 5, 3]; exact ⟨⟨false, rfl, hp, hc⟩, (kl rfl kb)⟩
             · replace hp := gpos hp hb27; refine fq 0 U66 Z31 G31 hc 1 ?_; refine au 1 rfl ?_; replace hc := hc.dz 2; replace hp := bind_some hp; obtain ⟨r28, hr28, hp⟩ := hp; replace hc := hc.m [12, 2]; refine kz C28 ?_; refine slices_Equal_s_int8_int8_any reads_ro hrd2 hc hr28 ?_; clear hc; intro w29 hc; refine au 2 rfl ?_; cases hb30 : r28
               · replace hp := gneg hp (by rw [hb30]; exact Bool.false_ne_true); subst hb30; (iterate 4 refine r0 rfl ?_); refine au 2 rfl <| rn (qn ?_); replace hc := hc.m [11, 9, 7, 1, 6, 2, 6, 6]; exact ⟨⟨false, rfl, hp, hc⟩, (kl rfl kb)⟩
               · replace hp := gpos hp hb30; subst hb30; refine fq 1 U66 Z31 G31 hc 3 ?_; refine au 1 rfl ?_; replace hc := hc.dz 5; replace hp := bind_some hp; obtain ⟨r31, hr31, hp⟩ := hp; replace hc := hc.m [16, 2]; refine kz C28 ?_; refine slices_Equal_s_int8_int8_any reads_ro hrd3 hc hr31 ?_; clear hc; intro w32 hc; refine au 2 rfl <| rn (qn ?_); replace hc := hc.m [15, 13, 11, 5, 1, 2, 6, 6]; exact ⟨⟨r31, rfl, hp, hc⟩, (kl rfl kb)⟩
           · clear hp hc; intro vs u w33 hJ; obtain ⟨j26, rfl, hp, hc⟩ := hJ; unfold cache_Store_Put.J1 at hp; cases hb34 : j26
             · replace hp := gneg hp (by rw [hb34]; exact Bool.false_ne_true); subst hb34; refine Wcf rfl (Wseq (Wreg ?_)); refine au 2 rfl <| rn (qn ?_); cases hb35 : ((mget x0.m x1).isSome)
               · replace hp := gneg hp (by rw [hb35]; exact Bool.false_ne_true); refine Wcf rfl (Wseq ?_); replace hc := S_cache_Store.uf hc; obtain ⟨v36, hc⟩ := hc; replace hc := hc.drew; refine Wdrw (fun _ w' => w' = World.drew w33) [0, 1, 3, 7, 15, 0, 32, 96, 224, 511, 1023] 0 0 rfl (by kernel_rfl) (fun _ _ => rfl) ?_; generalize hw : World.drew w33 = w37 at *; clear hw; refine ad_ 2 rfl <| dE (v := pt b0 1) (fax 1 rfl U63 rfl Z61 rfl rfl rfl) rfl rfl <| dE (ld rfl G61 (Ctx.cell hc (k := 0) rfl rfl rfl)) rfl rfl <| dE (v := .int .i64 ((x0.m.length : Nat) : Int)) (Ctx.mpLen hc (i := 1) rfl rfl U61 rfl) rfl rfl <| ad_ 2 rfl <| dE (v := pt b0 0) (fax 0 rfl U63 rfl Z3 rfl rfl rfl) rfl rfl <| dE (ld rfl G3 (Ctx.cell hc (k := 0) rfl rfl rfl)) rfl rfl <| ad_ 2 rfl <| dn (qn ?_); refine Wif hp (fun _ h => ?_) fun _ h => ?_
                 · replace hp := h; clear h; refine Wskip (bn (qn (Wseq ?_))); replace hc := hc.drew; refine Wdrw (fun j w' => (j = 3 → w'.cell? ⟨b0, 1, none⟩ = some (.map (some v36))) ∧ (j = 4 → ∀ j v, ((S_api_Spot.cz x1) : List Value)[j]? = some v → w'.cell? ((⟨b1, 0, none⟩ : Addr).add j) = some v) ∧ True) [0, 1, 3, 7, 0, 0, 32, 0, 224, 480, 1023] 0 0 rfl (by kernel_rfl) (fun j hj => ⟨fun _ => hc.cell (k := 0) rfl rfl rfl, fun _ => Ctx.cells hc (k := 2) rfl rfl 0 (vs := (S_api_Spot.cz x1)) rfl, trivial⟩) ?_; generalize hw : World.drew w37 = w39 at *; clear hw; refine ad_ 2 rfl <| ds (v := pt b0 1) rfl (fun w' hF => fax 1 rfl U63 rfl Z61 rfl rfl rfl) rfl <| ds rfl (fun w' hF => ld rfl G61 ((hF.1 rfl))) rfl <| ds (v := .agg (S_api_Spot.cz x1).toArray) rfl (fun w' hF => ldg rfl G30 Z30 rfl (hF.2.1 rfl)) rfl <| ad_ 1 rfl ?_; replace hp := bind_some hp; obtain ⟨r40, hr40, hp⟩ := hp; replace hc := hc.m [6]; refine dc (cl C29 rfl rfl) rfl rfl ?_; refine slices_Clone_s_int8_int8_any hrd2 hc hr40 ?_; clear hc; intro a41 n42 q43 w44 hc; obtain rfl := hc.rz 0 reads_own; refine ⟨fun j hj hb => ⟨fun _ => hc.cell (k := 2) rfl rfl rfl, fun _ => Ctx.cells hc (k := 4) rfl rfl 0 (vs := (S_api_Spot.cz x1)) rfl, trivial⟩, ?_⟩; refine ad_ 1 rfl ?_; replace hp := bind_some hp; obtain ⟨r46, hr46, hp⟩ := hp; replace hc := hc.m [10]; refine dc (cl C29 rfl rfl) rfl rfl ?_; refine slices_Clone_s_int8_int8_any hrd3 hc hr46 ?_; clear hc; intro a47 n48 q49 w50 hc; obtain rfl := hc.rz 0 reads_own; refine ⟨fun j hj hb => ⟨fun _ => hc.cell (k := 4) rfl rfl rfl, fun _ => Ctx.cells hc (k := 6) rfl rfl 0 (vs := (S_api_Spot.cz x1)) rfl, trivial⟩, ?_⟩; refine ds (v := .agg #[.slice a41 r40.length q43, .slice a47 r46.length q49]) rfl (fun w' hF => bd_66_0_1 rfl rfl) rfl ?_; replace hc := hc.freeze (k := 0) rfl rfl rfl; replace hc := Ctx.n0 hc; replace hc := hc.dz 0; replace hc := hc.freeze (k := 3) rfl rfl rfl; replace hc := Ctx.n3 hc; replace hc := hc.dz 3; replace hc : Ctx w50 (Hold S_cache_rows.pr [.slice a41 r40.length q43, .slice a47 r46.length q49] (⟨r40, r46⟩ : S_cache_rows) :: hR .i8 a47 q49 r46 :: P3 :: hR .i8 a41 q43 r40 :: P2 :: B b0 [.int .i64 x0.room, .map (some v36)] 63 :: Mp S_api_Spot.ek (HV vfA S_cache_rows.pr) v36 x0.m :: B b1 (S_api_Spot.cz x1) 30 :: Fr) := S_cache_rows.cl hc; refine duE (Ctx.mpSet (k := x1) S_api_Spot.keyL hc (i := 5) rfl rfl U61 rfl rfl rfl) rfl rfl ?_; clear hc; rintro w52 hc; replace hc := Ctx.n5 hc; refine ⟨fun j hj hb => ⟨fun e => nja hj e, fun e => nja hj e, trivial⟩, ?_⟩; refine dn (qn (Wseq (Wreg ?_))); refine au 1 rfl <| rn (qn (Wret ?_)); replace hc := hc.m [10, 10]; replace hc := S_cache_Store.fd (x := (⟨x0.room, (mset x0.m x1 (⟨r40, r46⟩ : S_cache_rows))⟩ : S_cache_Store)) hc; replace hc := hc.m [11, 7, 3, 2, 4, 4]; obtain rfl := sj hp; exact fz R11 M11 (k _ hc)
                 · replace hp := h; clear h; refine Wseq (Wreg ?_); refine au 1 rfl <| rn (qn (Wret (br (qr ?_)))); replace hc := hc.m [2, 2]; replace hc := S_cache_Store.fd (x := x0) hc; replace hc := hc.m [3]; obtain rfl := sj hp; exact fz R11 M11 (k _ hc)
               · replace hp := gpos hp hb35; refine Wct rfl (Wseq (Wreg ?_)); refine au 1 rfl <| rn (qn (Wret (br (qr ?_)))); replace hc := hc.m [3]; obtain rfl := sj hp; exact fz R11 M11 (k _ hc)
             · replace hp := gpos hp hb34; subst hb34; refine Wct rfl (Wseq (Wreg ?_)); refine au 1 rfl <| rn (qn (Wret (br (qr ?_)))); replace hc := hc.m [3]; obtain rfl := sj hp; exact fz R11 M11 (k _ hc)
       · replace hp := h; clear h; refine Wseq (Wreg ?_); refine au 1 rfl <| rn (qn (Wret (br (qr ?_)))); replace hc := hc.m [8, 8]; replace hc := S_cache_Store.fd (x := x0) hc; replace hc := hc.m [9, 7, 5, 3]; obtain rfl := sj hp; exact fz R11 M11 (k _ hc)
     · replace hp := h; clear h; refine Wseq (Wreg ?_); refine au 1 rfl <| rn (qn (Wret (br (qr ?_)))); replace hc := hc.m [8, 8]; replace hc := S_cache_Store.fd (x := x0) hc; replace hc := hc.m [9, 7, 5, 3]; obtain rfl := sj hp; exact fz R11 M11 (k _ hc)
   · replace hp := gpos hp (of_decide_eq_true hb20); (iterate 3 refine r0 rfl ?_); refine au 2 rfl <| rn (qn (Wct rfl (Wseq (Wreg ?_)))); refine au 1 rfl <| rn (qn (Wret (br (qr ?_)))); replace hc := hc.m [8, 8]; replace hc := S_cache_Store.fd (x := x0) hc; replace hc := hc.m [9, 7, 5, 3]; obtain rfl := sj hp; exact fz R11 M11 (k _ hc)
 · replace hp := gpos hp (of_decide_eq_true hb19); (iterate 3 refine r0 rfl ?_); refine au 2 rfl ?_; (iterate 3 refine r0 rfl ?_); refine au 2 rfl <| rn (qn (Wct rfl (Wseq (Wreg ?_)))); refine au 1 rfl <| rn (qn (Wret (br (qr ?_)))); replace hc := hc.m [8, 8]; replace hc := S_cache_Store.fd (x := x0) hc; replace hc := hc.m [9, 7, 5, 3]; obtain rfl := sj hp; exact fz R11 M11 (k _ hc)

def cache_Store_Get (x0 : S_cache_Store) (x1 : S_api_Spot) : Option ((List Int) × (List Int) × Bool) :=
  (some ((mget x0.m x1).getD (⟨[], []⟩ : S_cache_rows))).bind fun y9 =>
  (slices_Clone_s_int8_int8 y9.k).bind fun r20 =>
  (slices_Clone_s_int8_int8 y9.v).bind fun r26 =>
  some (r20, r26, (mget x0.m x1).isSome)

theorem cache_Store_Get_any {b0 : Nat} {x0 : S_cache_Store} {x1 : S_api_Spot} {Fr : List HP} {w : World} {r : (List Int) × (List Int) × Bool} {K : Value → World → Prop}  (hc : Ctx w (S_cache_Store.hp b0 x0 :: Fr)) (hp : cache_Store_Get x0 x1 = some r)
    (k : ∀ a32 n33 q34 a35 n36 q37 w', Ctx w' (Own (pInt .i8) 42 (.slice a32 n33 q34) r.1 :: Own (pInt .i8) 42 (.slice a35 n36 q37) r.2.1 :: S_cache_Store.hp b0 x0 :: Fr) → K (.tuple #[.slice a32 n33 q34, .slice a35 n36 q37, .bool r.2.2]) w') : Calls Try.prog 15 #[pt b0 0, .agg (S_api_Spot.cz x1).toArray] w (Ret K) := by
 unfold cache_Store_Get at hp; refine Center2 F15 M15 rfl rfl ?_; refine Wseq (Wreg ?_); refine rsE (Ctx.boxOp (cs := (S_api_Spot.cz x1)) (v := .agg (S_api_Spot.cz x1).toArray) hc rfl rfl) rfl ?_; clear hc; rintro _ w3 ⟨b1, rfl, hc⟩; refine au 3 rfl <| rn (qn (Wseq ?_)); replace hc := hc.m [2]; replace hc := S_cache_Store.uf hc; obtain ⟨v4, hc⟩ := hc; replace hc := Ctx.mpoF hc (i := 1) rfl rfl; obtain ⟨o5, hc⟩ := hc; replace hc : Ctx w3 (B b0 [.int .i64 x0.room, .map (some v4)] 63 :: MpO S_api_Spot.ek (HV vfA S_cache_rows.pr) v4 o5 x0.m :: B b1 (S_api_Spot.cz x1) 30 :: Fr) := hc; replace hc := hc.drew; refine Wdrw (fun j w' => (j = 3 → w'.cell? ⟨b0, 1, none⟩ = some (.map (some v4))) ∧ (j = 4 → ∀ j v, ((S_api_Spot.cz x1) : List Value)[j]? = some v → w'.cell? ((⟨b1, 0, none⟩ : Addr).add j) = some v) ∧ (j = 5 → w'.heap[v4]? = some o5) ∧ True) [0, 1, 3, 7, 0, 31, 63, 127, 127, 0, 767, 2047] 0 0 rfl (by kernel_rfl) (fun j hj => ⟨fun _ => hc.cell (k := 0) rfl rfl rfl, fun _ => Ctx.cells hc (k := 2) rfl rfl 0 (vs := (S_api_Spot.cz x1)) rfl, fun _ => Ctx.mpoPin hc (i := 1) rfl rfl, trivial⟩) ?_; generalize hw : World.drew w3 = w6 at *; clear hw; refine ad_ 2 rfl <| ds (v := pt b0 1) rfl (fun w' hF => fax 1 rfl U63 rfl Z61 rfl rfl rfl) rfl <| ds rfl (fun w' hF => ld rfl G61 ((hF.1 rfl))) rfl <| ds (v := .agg (S_api_Spot.cz x1).toArray) rfl (fun w' hF => ldg rfl G30 Z30 rfl (hF.2.1 rfl)) rfl ?_; replace hc := Ctx.mpoFact true S_api_Spot.keyL hc (i := 1) rfl rfl x1 U61 V66 (zcs := [.slice none 0 0, .slice none 0 0]) (x0 := (⟨[], []⟩ : S_cache_rows)) rfl (fun _ _ => ⟨([.slice none 0 0] : List Value), ([.slice none 0 0] : List Value), rfl, ⟨_, rfl, none, 0, rfl, Nat.le_refl _, fun i x hx => by simp at hx⟩, ⟨_, rfl, none, 0, rfl, Nat.le_refl _, fun i x hx => by simp at hx⟩⟩); obtain ⟨cs7, hc, hr8⟩ := hc; obtain ⟨y9, hy9, hp⟩ := bind_some hp; injection hy9 with hy9; rw [hy9] at hc; replace hc := S_cache_rows.op hc; obtain ⟨a11, q12, a13, q14, u10, hc⟩ := hc; subst u10; refine ds (v := .tuple #[.agg #[.slice a11 y9.k.length q12, .slice a13 y9.v.length q14], .bool ((mget x0.m x1).isSome)]) rfl (fun w' hF => hr8 ((hF.2.2.1 rfl)) rfl rfl) rfl <| ad_ 3 rfl ?_; refine deE (Ctx.allocOp (cs := [.slice none 0 0, .slice none 0 0]) hc V66 rfl) rfl rfl ?_; clear hc; rintro _ w17 ⟨b15, rfl, hc⟩; refine ⟨fun j hj hb => ⟨fun _ => hc.cell (k := 3) rfl rfl rfl, fun _ => Ctx.cells hc (k := 5) rfl rfl 0 (vs := (S_api_Spot.cz x1)) rfl, fun _ => Ctx.mpoPin hc (i := 4) rfl rfl, trivial⟩, ?_⟩; refine pad hc 0 Z66 ?_; clear hc; rintro w18 hc; refine ⟨fun j hj hb => ⟨fun e => nja hj e, fun e => nja hj e, fun e => nja hj e, trivial⟩, ?_⟩; refine ad_ 1 rfl ?_; replace hc := Ctx.mpoB hc (i := 4) rfl rfl rfl; replace hc : Ctx w18 (B b15 [.slice a11 y9.k.length q12, .slice a13 y9.v.length q14] 66 :: hR .i8 a11 q12 y9.k :: hR .i8 a13 q14 y9.v :: B b0 [.int .i64 x0.room, .map (some v4)] 63 :: Mp S_api_Spot.ek (HV vfA S_cache_rows.pr) v4 x0.m :: B b1 (S_api_Spot.cz x1) 30 :: Fr) := hc; refine dn (qn (Wseq ?_)); replace hc := hc.drew; refine Wdrw (fun j w' => (j = 4 → w'.cell? ⟨b15, 1, none⟩ = some (.slice a13 y9.v.length q14)) ∧ True) [0, 1, 3, 0, 8, 31, 0, 63, 191, 511] 0 2 rfl (by kernel_rfl) (fun j hj => ⟨fun _ => hc.cell (k := 0) rfl rfl rfl, trivial⟩) ?_; generalize hw : World.drew w18 = w19 at *; clear hw; refine ds (v := pt b15 0) rfl (fun w' hF => fax 0 rfl U66 rfl Z31 rfl rfl rfl) rfl <| dx rfl (ld rfl G31 (Ctx.cell hc (k := 0) rfl rfl rfl)) rfl rfl ?_; replace hc := hc.dz 1; obtain ⟨r20, hr20, hp⟩ := bind_some hp; refine dc (cl C29 rfl rfl) rfl rfl ?_; refine slices_Clone_s_int8_int8_any reads_ro hc hr20 ?_; clear hc; intro a21 n22 q23 w24 hc; obtain rfl := hc.rz 0 reads_own; refine ⟨fun j hj hb => ⟨fun _ => hc.cell (k := 2) rfl rfl rfl, trivial⟩, ?_⟩; refine ds (v := pt b15 1) rfl (fun w' hF => fax 1 rfl U66 rfl Z31 rfl rfl rfl) rfl <| ds rfl (fun w' hF => ld rfl G31 ((hF.1 rfl))) rfl ?_; replace hc := hc.dz 4; obtain ⟨r26, hr26, hp⟩ := bind_some hp; refine dc (cl C29 rfl rfl) rfl rfl ?_; refine slices_Clone_s_int8_int8_any reads_ro hc hr26 ?_; clear hc; intro a27 n28 q29 w30 hc; obtain rfl := hc.rz 0 reads_own; refine ⟨fun j hj hb => ⟨fun e => nja hj e, trivial⟩, ?_⟩; refine ad_ 4 rfl <| dn (qn (Wret ?_)); replace hc := hc.m [16, 16]; replace hc := S_cache_Store.fd (x := x0) hc; replace hc := hc.m [17, 15, 13, 11, 9, 5, 2, 4]; obtain rfl := sj hp; refine f3 (v := .slice a21 r20.length q23) (u := .slice a27 r26.length q29) (z := .bool ((mget x0.m x1).isSome)) R15 M15 rfl rfl rfl ?_; exact ⟨_, rfl, k _ _ _ _ _ _ _ hc⟩

theorem bd_30_0_1 {ρ : Operand → Value} {w : World} {dst : Option Nat} {ty : TypeId} {pos : String} {after : Array Edge} {g : Option (Nat × Bool)} {x0 x1 : Operand} {k0 : IntKind} {a0 : Int} {k1 : IntKind} {a1 : Int} (h0 : ρ x0 = (.int k0 a0)) (h1 : ρ x1 = (.int k1 a1)) :
    (execOp ρ ⟨dst, .build 30 #[(0, x0), (1, x1)], ty, pos, after, g⟩).run Try.prog w = .ok (.value (.agg #[(.int k0 a0), (.int k1 a1), (.int .i64 0)])) w := by
  simp [execOp, Instr.build, Instr.fill, Try.zeroValue30, Try.runUnderlying30, Try.sizeOf3, h0, h1, Value.cells]

def cache_Store_Line.L1 (x0 : S_cache_Store) (x1 : Int) (x2 : Int) : Nat → (List (List Int)) → (List (List Int)) → Int → Option ((List (List Int)) × (List (List Int)))
  | 0, _, _, _ => none
  | m1 + 1, j5, j9, j14 =>
    (cache_Store_Get x0 (⟨x1, x2, j14⟩ : S_api_Spot)).bind fun r18 =>
    if r18.2.2 = true then
      (app j5 ([r18.1])).bind fun z31 =>
      (app j9 ([r18.2.1])).bind fun z39 =>
      (cache_Store_Line.L1 x0 x1 x2 m1) z31 z39 (IntKind.i64.wrap (j14 + 1))
    else
      some (j5, j9)

def cache_Store_Line (N : Nat) (x0 : S_cache_Store) (x1 : Int) (x2 : Int) : Option ((List (List Int)) × (List (List Int))) :=
  cache_Store_Line.L1 x0 x1 x2 N ([]) ([]) 0

theorem cache_Store_Line_any {N b0 : Nat} {x0 : S_cache_Store} {x1 x2 : Int} {Fr : List HP} {w : World} {r : (List (List Int)) × (List (List Int))} {K : Value → World → Prop}  (hc : Ctx w (S_cache_Store.hp b0 x0 :: Fr)) (hp : cache_Store_Line N x0 x1 x2 = some r)
    (k : ∀ a50 n51 q52 a53 n54 q55 w', Ctx w' (OwnV (vOwn (pInt .i8) 42) 31 (.slice a50 n51 q52) r.1 :: OwnV (vOwn (pInt .i8) 42) 31 (.slice a53 n54 q55) r.2 :: S_cache_Store.hp b0 x0 :: Fr) → K (.tuple #[.slice a50 n51 q52, .slice a53 n54 q55]) w') : Calls Try.prog 12 #[pt b0 0, .int .i64 x1, .int .i64 x2] w (Ret K) := by
 unfold cache_Store_Line at hp; refine Center3 F12 M12 rfl rfl ?_; refine Wseq (Wreg ?_); refine au 2 rfl <| rn (qn (Wseq (Wreg ?_))); refine au 2 rfl <| rn (qn (Wseq (Wreg ?_))); refine au 2 rfl <| sz (v := .agg #[.int .i64 x1, .int .i64 x2, .int .i64 0]) (bd_30_0_1 rfl rfl) ?_; refine rsE (Ctx.allocOp (cs := [.int .i64 0, .int .i64 0, .int .i64 0]) hc V30 rfl) rfl ?_; clear hc; rintro _ w3 ⟨b1, rfl, hc⟩; refine pa hc 0 Z30 ?_; clear hc; rintro w4 hc; refine rn (qn (Wblk ?_)); replace hc := hc.nilOwnV (vOwn (pInt .i8) 42) 31; replace hc := hc.nilOwnV (vOwn (pInt .i8) 42) 31; replace hc := hc.m [4, 2, 4, 6]; refine Wloop (rg [6, 8, 17, 24]) [8, 9, 10] (fun m vs w' => ∃ j5 : (List (List Int)), ∃ j9 : (List (List Int)), ∃ j14 : Int, ∃ a6 n7, ∃ q8 a10, ∃ n11 q12, ∃ b13 : Nat, vs = [.slice a6 n7 q8, .slice a10 n11 q12, pt b13 0] ∧ cache_Store_Line.L1 x0 x1 x2 m j5 j9 j14 = some r ∧ Ctx w' (S_cache_Store.hp b0 x0 :: OwnV (vOwn (pInt .i8) 42) 31 (.slice a6 n7 q8) j5 :: OwnV (vOwn (pInt .i8) 42) 31 (.slice a10 n11 q12) j9 :: B b13 [.int .i64 x1, .int .i64 x2, .int .i64 j14] 30 :: Fr)) N ?_ ?_
 · exact ⟨[], [], 0, none, 0, 0, none, 0, 0, b1, rfl, hp, hc⟩
 · clear hp hc; intro m vs u w15 hJ; obtain ⟨j5, j9, j14, a6, n7, q8, a10, n11, q12, b13, rfl, hp, hc⟩ := hJ; have u16 := Ctx.ownVLen' hc (k := 1) rfl rfl; subst u16; have u17 := Ctx.ownVLen' hc (k := 2) rfl rfl; subst u17; rcases m with _ | m1
   · cases (show none = some r from hp)
   rw [cache_Store_Line.L1] at hp; refine Wseq (Wblk (Wseq (Wreg ?_))); refine au 1 rfl <| lg G30 Z30 hc 3 ?_; obtain ⟨r18, hr18, hp⟩ := bind_some hp; refine kz C15 ?_; refine cache_Store_Get_any (x1 := (⟨x1, x2, j14⟩ : S_api_Spot)) hc hr18 ?_; clear hc; intro a19 n20 q21 a22 n23 q24 w25 hc; obtain rfl := hc.rz 0 reads_own; obtain rfl := hc.rz 1 reads_own; refine au 7 rfl <| rn (qn (Wseq (Wseq (Wreg ?_)))); refine au 1 rfl ?_; cases hb28 : r18.2.2
   · replace hp := gneg hp (by rw [hb28]; exact Bool.false_ne_true); refine au 1 rfl <| rn (qn (Wct rfl (Wseq (Wreg ?_)))); refine au 4 rfl <| rn (qn (Wret (qr (br (qr (qr (br ?_))))))); replace hc := hc.m [11, 3, 1, 4, 4]; obtain rfl := sj hp; exact fz2 R12 M12 (k _ _ _ _ _ _ _ hc)
   · replace hp := gpos hp hb28; refine au 1 rfl <| rn (qn (Wcf rfl (Wskip (qn (Wreg ?_))))); refine au 2 rfl ?_; replace hc : Ctx w25 ((vOwn (pInt .i8) 42).r [.slice a19 r18.1.length q21] r18.1 :: oR .i8 42 a22 q24 r18.2.1 :: S_cache_Store.hp b0 x0 :: OwnV (vOwn (pInt .i8) 42) 31 (.slice a6 j5.length q8) j5 :: OwnV (vOwn (pInt .i8) 42) 31 (.slice a10 j9.length q12) j9 :: B b13 [.int .i64 x1, .int .i64 x2, .int .i64 j14] 30 :: Fr) := Ctx.exB _ _ (Ctx.sepB (Ctx.puB rfl hc)); replace hc := Ctx.anyB (m := 1) [.slice a19 r18.1.length q21] rfl rfl hc; refine rsE (Ctx.builtOp (css := [[.slice a19 r18.1.length q21]]) (xs := ([[.slice a19 r18.1.length q21]] : List (List Value))) (E := pAny 1) hc U37 Z31 V31 rfl rfl rfl rfl rfl rfl rfl rfl) rfl ?_; clear hc; rintro _ w30 ⟨a29, rfl, hc⟩; replace hc : Ctx w30 (OwnV (vOwn (pInt .i8) 42) 31 (.slice a29 1 1) ([r18.1]) :: oR .i8 42 a22 q24 r18.2.1 :: S_cache_Store.hp b0 x0 :: OwnV (vOwn (pInt .i8) 42) 31 (.slice a6 j5.length q8) j5 :: OwnV (vOwn (pInt .i8) 42) 31 (.slice a10 j9.length q12) j9 :: B b13 [.int .i64 x1, .int .i64 x2, .int .i64 j14] 30 :: Fr) := Ctx.ownV1 hc; obtain ⟨z31, hz31, hp⟩ := bind_some hp; obtain ⟨hg32, e33⟩ := app_some hz31; replace hc := hc.m [6]; refine rsE (Ctx.appendV hc U37 (i := Try.t31) rfl rfl rfl rfl rfl rfl rfl rfl hg32) rfl ?_; clear hc; rintro _ w36 ⟨a34, q35, rfl, hc⟩; rw [← e33] at hc ⊢; refine au 2 rfl ?_; replace hc := hc.m [2]; replace hc : Ctx w36 ((vOwn (pInt .i8) 42).r [.slice a22 r18.2.1.length q24] r18.2.1 :: OwnV (vOwn (pInt .i8) 42) 31 (.slice a34 z31.length q35) z31 :: S_cache_Store.hp b0 x0 :: OwnV (vOwn (pInt .i8) 42) 31 (.slice a10 j9.length q12) j9 :: B b13 [.int .i64 x1, .int .i64 x2, .int .i64 j14] 30 :: Fr) := Ctx.exB _ _ (Ctx.sepB (Ctx.puB rfl hc)); replace hc := Ctx.anyB (m := 1) [.slice a22 r18.2.1.length q24] rfl rfl hc; refine rsE (Ctx.builtOp (css := [[.slice a22 r18.2.1.length q24]]) (xs := ([[.slice a22 r18.2.1.length q24]] : List (List Value))) (E := pAny 1) hc U37 Z31 V31 rfl rfl rfl rfl rfl rfl rfl rfl) rfl ?_; clear hc; rintro _ w38 ⟨a37, rfl, hc⟩; replace hc : Ctx w38 (OwnV (vOwn (pInt .i8) 42) 31 (.slice a37 1 1) ([r18.2.1]) :: OwnV (vOwn (pInt .i8) 42) 31 (.slice a34 z31.length q35) z31 :: S_cache_Store.hp b0 x0 :: OwnV (vOwn (pInt .i8) 42) 31 (.slice a10 j9.length q12) j9 :: B b13 [.int .i64 x1, .int .i64 x2, .int .i64 j14] 30 :: Fr) := Ctx.ownV1 hc; obtain ⟨z39, hz39, hp⟩ := bind_some hp; obtain ⟨hg40, e41⟩ := app_some hz39; replace hc := hc.m [6]; refine rsE (Ctx.appendV hc U37 (i := Try.t31) rfl rfl rfl rfl rfl rfl rfl rfl hg40) rfl ?_; clear hc; rintro _ w44 ⟨a42, q43, rfl, hc⟩; rw [← e41] at hc ⊢; refine au 2 rfl <| rn (bn (qn (Wseq (Wseq (Wreg ?_))))); refine lg G30 Z30 hc 3 ?_; refine rn (qn (Wreg ?_)); refine rsE (Ctx.allocOp (cs := [.int .i64 0, .int .i64 0, .int .i64 0]) hc V30 rfl) rfl ?_; clear hc; rintro _ w47 ⟨b45, rfl, hc⟩; refine pa hc 0 Z30 ?_; clear hc; rintro w48 hc; refine rn (qn (Wreg ?_)); refine fq 2 U30 Z3 G3 hc 0 ?_; refine au 1 rfl <| sz (v := pt b45 2) (fax 2 rfl U30 rfl Z3 rfl rfl rfl) <| po hc 0 Z3 ?_; clear hc; rintro w49 hc; refine rn (qn ?_); replace hc := hc.m [9, 2, 4, 6]; exact ⟨m1, Nat.lt_succ_self _, ⟨z31, z39, (IntKind.i64.wrap (j14 + 1)), a34, z31.length, q35, a42, z39.length, q43, b45, rfl, hp, hc⟩, (kl rfl k0)⟩

theorem bd_30_0_1_2 {ρ : Operand → Value} {w : World} {dst : Option Nat} {ty : TypeId} {pos : String} {after : Array Edge} {g : Option (Nat × Bool)} {x0 x1 x2 : Operand} {k0 : IntKind} {a0 : Int} {k1 : IntKind} {a1 : Int} {k2 : IntKind} {a2 : Int} (h0 : ρ x0 = (.int k0 a0)) (h1 : ρ x1 = (.int k1 a1)) (h2 : ρ x2 = (.int k2 a2)) :
    (execOp ρ ⟨dst, .build 30 #[(0, x0), (1, x1), (2, x2)], ty, pos, after, g⟩).run Try.prog w = .ok (.value (.agg #[(.int k0 a0), (.int k1 a1), (.int k2 a2)])) w := by
  simp [execOp, Instr.build, Instr.fill, Try.zeroValue30, Try.runUnderlying30, Try.sizeOf3, h0, h1, h2, Value.cells]

def law12_spot (x0 : Int) (x1 : Int) (x2 : Int) : Option (S_api_Spot) :=
  some (⟨x0, x1, x2⟩ : S_api_Spot)

theorem law12_spot_any {x0 x1 x2 : Int} {Fr : List HP} {w : World} {r : S_api_Spot} {K : Value → World → Prop}  (hc : Ctx w (Fr)) (hp : law12_spot x0 x1 x2 = some r)
    (k : ∀ w', Ctx w' (Fr) → K (.agg (S_api_Spot.cz r).toArray) w') : Calls Try.prog 9 #[.int .i64 x0, .int .i64 x1, .int .i64 x2] w (Ret K) := by
 unfold law12_spot at hp; refine Center3 F9 M9 rfl rfl ?_; refine Wseq (Wreg ?_); refine rsE (Ctx.allocOp (cs := [.int .i64 0, .int .i64 0, .int .i64 0]) hc V30 rfl) rfl ?_; clear hc; rintro _ w3 ⟨b1, rfl, hc⟩; refine rn (qn (Wseq (Wreg ?_))); refine au 3 rfl <| sz (v := .agg #[.int .i64 x0, .int .i64 x1, .int .i64 x2]) (bd_30_0_1_2 rfl rfl rfl) <| pa hc 0 Z30 ?_; clear hc; rintro w4 hc; refine rn (qn (Wret ?_)); have hres := Ctx.cells hc (k := 0) rfl rfl 0 (vs := [.int .i64 x0, .int .i64 x1, .int .i64 x2]) rfl; replace hc := hc.m [1]; obtain rfl := sj hp; refine f1c (cs := [.int .i64 x0, .int .i64 x1, .int .i64 x2]) R9 M9 rfl G30 Z30 rfl hres ?_; exact ⟨_, rfl, k _ hc⟩

def cache_Store_Drop (N : Nat) (x0 : S_cache_Store) (x1 : (List Int)) : Option (Int × S_cache_Store) :=
  (maps_DeleteFunc_map_api_Spot_cache_rows_api_Spot_cache_rows N x0.m (fun (y6_ : S_api_Spot) (y7_ : S_cache_rows) =>
    (slices_Contains_s_int_int N x1 y6_.Request).bind fun r22_ =>
    some r22_)).bind fun r24 =>
  (some (IntKind.i64.wrap (((x0.m.length : Nat) : Int) - ((r24.length : Nat) : Int)))).bind fun e26 =>
  some (e26, (⟨x0.room, r24⟩ : S_cache_Store))

theorem cache_Store_Drop_any {N b0 nx1 qx1 : Nat} {x0 : S_cache_Store} {x1 : (List Int)} {ax1 : Option Addr} {P1 : HP} {Fr : List HP} {w : World} {r : Int × S_cache_Store} {K : Value → World → Prop} (hrd1 : Reads P1 (pInt .i64) (.slice ax1 nx1 qx1) x1) (hc : Ctx w (S_cache_Store.hp b0 x0 :: P1 :: Fr)) (hp : cache_Store_Drop N x0 x1 = some r)
    (k : ∀ w', Ctx w' (S_cache_Store.hp b0 r.2 :: P1 :: Fr) → K (.int .i64 r.1) w') : Calls Try.prog 10 #[pt b0 0, .slice ax1 nx1 qx1] w (Ret K) := by
 unfold cache_Store_Drop at hp; refine Center2 F10 M10 rfl rfl ?_; obtain ⟨hn1, _⟩ := Ctx.rdLen hc (k := 1) rfl rfl hrd1; subst hn1; refine Wseq (Wreg ?_); refine rsE (Ctx.boxOp (cs := [.slice ax1 x1.length qx1]) (v := .slice ax1 x1.length qx1) hc rfl rfl) rfl ?_; clear hc; rintro _ w3 ⟨b1, rfl, hc⟩; refine au 1 rfl <| rn (qn (Wseq (Wreg ?_))); refine au 2 rfl <| sz (v := pt b0 1) (fax 1 rfl U63 rfl Z61 rfl rfl rfl) ?_; replace hc := hc.m [2]; replace hc := S_cache_Store.uf hc; obtain ⟨v4, hc⟩ := hc; refine sz (ld rfl G61 (Ctx.cell hc (k := 0) rfl rfl rfl)) <| sz (v := .int .i64 ((x0.m.length : Nat) : Int)) (Ctx.mpLen hc (i := 1) rfl rfl U61 rfl) <| au 1 rfl <| rn (qn (Wseq (Wreg ?_))); refine au 2 rfl ?_; refine fq 1 U63 Z61 G61 hc 0 ?_; refine sz (v := .func (.func 25) #[] #[pt b1 0]) (mkf rfl rfl) ?_; replace hc := hc.m [2]; have hf5 : ∀ (y0 : S_api_Spot) (y1 : S_cache_rows) (a24 : Option Addr) (n25 : Nat) (q26 : Nat) (a27 : Option Addr) (n28 : Nat) (q29 : Nat) (Qs : List HP) (w : World) (r : Bool) (K : Value → World → Prop), Ctx w (Hold (pRo (pInt .i8)) [.slice a24 n25 q26] y1.k :: Hold (pRo (pInt .i8)) [.slice a27 n28 q29] y1.v :: (Qs ++ (B b0 [.int .i64 x0.room, .map (some v4)] 63 :: B b1 [.slice ax1 x1.length qx1] 47 :: P1 :: Fr))) → (fun (y6_ : S_api_Spot) (y7_ : S_cache_rows) =>
          (slices_Contains_s_int_int N x1 y6_.Request).bind fun r22_ =>
          some r22_) y0 y1 = some r → (∀ w', Ctx w' (Qs ++ (B b0 [.int .i64 x0.room, .map (some v4)] 63 :: B b1 [.slice ax1 x1.length qx1] 47 :: P1 :: Fr)) → K (.bool r) w') → Calls Try.prog 25 (([.agg (S_api_Spot.cz y0).toArray, .agg #[.slice a24 n25 q26, .slice a27 n28 q29]] : List Value) ++ ([pt b1 0] : List Value)).toArray w (Ret K) := by
  intro y6 y7 a8 n9 q10 a11 n12 q13 Qs w r K hc hp k; replace hc : Ctx w (B b0 [.int .i64 x0.room, .map (some v4)] 63 :: B b1 [.slice ax1 x1.length qx1] 47 :: P1 :: Hold (pRo (pInt .i8)) [.slice a8 n9 q10] y7.k :: Hold (pRo (pInt .i8)) [.slice a11 n12 q13] y7.v :: (Qs ++ Fr)) := Ctx.front (As := [B b0 [.int .i64 x0.room, .map (some v4)] 63, B b1 [.slice ax1 x1.length qx1] 47, P1]) (Qs := Hold (pRo (pInt .i8)) [.slice a8 n9 q10] y7.k :: Hold (pRo (pInt .i8)) [.slice a11 n12 q13] y7.v :: Qs) hc; refine Center (args := [.agg (S_api_Spot.cz y6).toArray, .agg #[.slice a8 n9 q10, .slice a11 n12 q13], pt b1 0]) (l := [(0, .agg (S_api_Spot.cz y6).toArray), (1, .agg #[.slice a8 n9 q10, .slice a11 n12 q13]), (2, pt b1 0)]) F25 M25 rfl rfl rfl ?_; obtain rfl := hc.rz 3 reads_ro; obtain rfl := hc.rz 4 reads_ro; refine Wseq (Wreg ?_); refine rsE (Ctx.boxOp (cs := (S_api_Spot.cz y6)) (v := .agg (S_api_Spot.cz y6).toArray) hc rfl rfl) rfl ?_; clear hc; rintro _ w18 ⟨b16, rfl, hc⟩; refine rsE (Ctx.boxOp (cs := [.slice a8 y7.k.length q10, .slice a11 y7.v.length q13]) (v := .agg #[.slice a8 y7.k.length q10, .slice a11 y7.v.length q13]) hc rfl rfl) rfl ?_; clear hc; rintro _ w21 ⟨b19, rfl, hc⟩; refine au 1 rfl <| rn (qn (Wseq (Wreg ?_))); refine sz (ld rfl G47 (Ctx.cell hc (k := 3) rfl rfl rfl)) ?_; refine fq 0 U30 Z3 G3 hc 1 ?_; obtain ⟨r22, hr22, hp⟩ := bind_some hp; replace hc := hc.m [8]; refine kz C26 ?_; refine slices_Contains_s_int_int_any hrd1 hc hr22 ?_; clear hc; intro w23 hc; refine au 1 rfl <| rn (qn (Wret ?_)); replace hc := hc.m [13, 11, 5, 3, 4, 4]; obtain rfl := sj hp; replace hc : Ctx w23 (Qs ++ (B b0 [.int .i64 x0.room, .map (some v4)] 63 :: B b1 [.slice ax1 x1.length qx1] 47 :: P1 :: Fr)) := Ctx.front (Qs := [B b0 [.int .i64 x0.room, .map (some v4)] 63, B b1 [.slice ax1 x1.length qx1] 47, P1]) (As := Qs) hc; exact fz R25 M25 (k _ hc)
 obtain ⟨r24, hr24, hp⟩ := bind_some hp; refine kz C24 ?_; refine maps_DeleteFunc_map_api_Spot_cache_rows_api_Spot_cache_rows_any C25 hf5 hc hr24 ?_; clear hc; intro w25 hc; refine rn (qn (Wseq (Wreg ?_))); refine au 3 rfl ?_; refine fq 1 U63 Z61 G61 hc 1 ?_; refine sz (v := .int .i64 ((r24.length : Nat) : Int)) (Ctx.mpLen hc (i := 0) rfl rfl U61 rfl) <| au 1 rfl ?_; obtain ⟨e26, he26, hp⟩ := bind_some hp; injection he26 with he26; refine sz (v := .int .i64 e26) (av (v := .int .i64 e26) (by rw [← he26]; rfl)) <| rn (qn (Wret ?_)); replace hc := hc.m [2]; replace hc := S_cache_Store.fd (x := (⟨x0.room, r24⟩ : S_cache_Store)) hc; replace hc := hc.m [3]; obtain rfl := sj hp; exact fz R10 M10 (k _ hc)

def law12_awake (N : Nat) : Option (Bool) :=
  (cache_New 2).bind fun r1 =>
  optc r1.1 (
    some false) fun y5 =>
  if r1.2 ≠ 0 then
    some false
  else
    (law12_spot 7 0 1).bind fun r12 =>
    (cache_Store_Put N y5 r12 ([1]) ([1])).bind fun r14 =>
    (law12_spot 7 0 0).bind fun r16 =>
    (cache_Store_Put N r14.2 r16 ([1]) ([1])).bind fun r18 =>
    (law12_spot 7 0 1).bind fun r20 =>
    (cache_Store_Put N r18.2 r20 ([1]) ([1])).bind fun r22 =>
    (law12_spot 7 1 0).bind fun r24 =>
    (cache_Store_Put N r22.2 r24 ([1]) ([1])).bind fun r26 =>
    (law12_spot 7 0 0).bind fun r28 =>
    (cache_Store_Put N r26.2 r28 ([1]) ([1])).bind fun r30 =>
    (law12_spot 7 0 0).bind fun r32 =>
    (cache_Store_Put N r30.2 r32 ([1]) ([2])).bind fun r36 =>
    if r14.1 = 120 then
      if r18.1 = 0 then
        if r22.1 = 0 then
          if r26.1 = 80 then
            if r30.1 = 0 then
              if r36.1 = 2 then
                (cache_Store_Drop N r36.2 ([7])).bind fun r46 =>
                some (decide (r46.1 = 2))
              else
                some false
            else
              some false
          else
            some false
        else
          some false
      else
        some false
    else
      some false

theorem law12_awake_any {N : Nat} {Fr : List HP} {w : World} {r : Bool} {K : Value → World → Prop}  (hc : Ctx w (Fr)) (hp : law12_awake N = some r)
    (k : ∀ w', Ctx w' (Fr) → K (.bool r) w') : Calls Try.prog 7 #[] w (Ret K) := by
 unfold law12_awake at hp; refine Center (args := []) (l := []) F7 M7 rfl rfl rfl ?_; refine Wseq (Wreg ?_); refine au 1 rfl <| rn (qn (Wseq (Wreg ?_))); obtain ⟨r1, hr1, hp⟩ := bind_some hp; refine kz C8 ?_; refine cache_New_any hc hr1 ?_; clear hc; intro v2 w3 hc; refine au 5 rfl <| rn (qn (Wseq (Wseq (Wreg ?_)))); refine au 1 rfl ?_; cases hb4 : r1.1
 · replace hp := optN hp hb4; rw [hb4] at hc; replace hc := Ctx.ptoN hc; obtain ⟨u6, hc⟩ := hc; subst u6; refine sz (v := .bool true) (ept U24 rfl rfl) <| au 1 rfl ?_; (iterate 2 refine r0 rfl ?_); refine au 1 rfl <| rn (qn (Wct rfl (Wseq (Wreg ?_)))); refine au 1 rfl <| rn (qn (Wret (qr ?_))); obtain rfl := sj hp; exact fz R7 M7 (k _ hc)
 · rename_i y5; replace hp := optS hp hb4; rw [hb4] at hc; replace hc := Ctx.ptoS hc; obtain ⟨b7, u8, hc⟩ := hc; subst u8; refine sz (v := .bool false) (epf U24 rfl rfl) <| au 4 rfl <| rn (qn ?_); refine Wif hp (fun _ hp => ?_) fun _ hp => ?_
   · refine Wskip (qn (Wseq (Wreg ?_))); refine rsE (oneI hc U31 Z42 V42) rfl ?_; clear hc; rintro _ w11 ⟨a10, rfl, hc⟩; refine au 1 rfl <| rn (qn (Wseq (Wreg ?_))); refine au 1 rfl ?_; obtain ⟨r12, hr12, hp⟩ := bind_some hp; refine kz C9 ?_; refine law12_spot_any hc hr12 ?_; clear hc; intro w13 hc; refine au 2 rfl ?_; replace hc := hc.freeze (k := 0) rfl rfl rfl; replace hc := Ctx.n0 hc; replace hc := hc.dz 0; replace hc := hc.dz 1; obtain ⟨r14, hr14, hp⟩ := bind_some hp; replace hc := hc.m [2, 6]; refine kz C11 ?_; refine cache_Store_Put_any reads_ro reads_ro hc hr14 ?_; clear hc; intro w15 hc; refine au 1 rfl ?_; obtain ⟨r16, hr16, hp⟩ := bind_some hp; refine kz C9 ?_; refine law12_spot_any hc hr16 ?_; clear hc; intro w17 hc; refine au 2 rfl ?_; replace hc := hc.dz 3; replace hc := hc.dz 4; obtain ⟨r18, hr18, hp⟩ := bind_some hp; replace hc := hc.m [2, 4]; refine kz C11 ?_; refine cache_Store_Put_any reads_ro reads_ro hc hr18 ?_; clear hc; intro w19 hc; refine au 1 rfl ?_; obtain ⟨r20, hr20, hp⟩ := bind_some hp; refine kz C9 ?_; refine law12_spot_any hc hr20 ?_; clear hc; intro w21 hc; refine au 2 rfl ?_; replace hc := hc.dz 5; replace hc := hc.dz 6; obtain ⟨r22, hr22, hp⟩ := bind_some hp; replace hc := hc.m [2, 4]; refine kz C11 ?_; refine cache_Store_Put_any reads_ro reads_ro hc hr22 ?_; clear hc; intro w23 hc; refine au 3 rfl <| rn (qn (Wseq (Wreg ?_))); refine au 1 rfl ?_; obtain ⟨r24, hr24, hp⟩ := bind_some hp; refine kz C9 ?_; refine law12_spot_any hc hr24 ?_; clear hc; intro w25 hc; refine au 2 rfl ?_; replace hc := hc.dz 7; replace hc := hc.dz 8; obtain ⟨r26, hr26, hp⟩ := bind_some hp; replace hc := hc.m [2, 4]; refine kz C11 ?_; refine cache_Store_Put_any reads_ro reads_ro hc hr26 ?_; clear hc; intro w27 hc; refine au 1 rfl ?_; obtain ⟨r28, hr28, hp⟩ := bind_some hp; refine kz C9 ?_; refine law12_spot_any hc hr28 ?_; clear hc; intro w29 hc; refine au 2 rfl ?_; replace hc := hc.dz 9; replace hc := hc.dz 10; obtain ⟨r30, hr30, hp⟩ := bind_some hp; replace hc := hc.m [2, 4]; refine kz C11 ?_; refine cache_Store_Put_any reads_ro reads_ro hc hr30 ?_; clear hc; intro w31 hc; refine au 1 rfl ?_; obtain ⟨r32, hr32, hp⟩ := bind_some hp; refine kz C9 ?_; refine law12_spot_any hc hr32 ?_; clear hc; intro w33 hc; refine au 1 rfl ?_; refine rsE (oneI hc U31 Z42 V42) rfl ?_; clear hc; rintro _ w35 ⟨a34, rfl, hc⟩; replace hc := hc.dz 12; obtain ⟨r36, hr36, hp⟩ := bind_some hp; replace hc := hc.m [2, 2, 4]; refine kz C11 ?_; refine cache_Store_Put_any reads_ro reads_own hc hr36 ?_; clear hc; intro w37 hc; refine au 3 rfl <| rn (qn (Wseq (Wreg ?_))); refine au 3 rfl ?_; cases hb38 : (decide (r14.1 = 120))
     · replace hp := gneg hp (of_decide_eq_false hb38); (iterate 2 refine r0 rfl ?_); refine au 2 rfl ?_; (iterate 2 refine r0 rfl ?_); refine au 2 rfl ?_; (iterate 2 refine r0 rfl ?_); refine au 2 rfl ?_; (iterate 2 refine r0 rfl ?_); refine au 2 rfl ?_; (iterate 2 refine r0 rfl ?_); refine au 2 rfl ?_; (iterate 4 refine r0 rfl ?_); refine au 2 rfl <| rn (qn (Wret ?_)); replace hc := hc.m [27, 25, 23, 21, 19, 17, 15, 13, 11, 9, 7, 5, 3, 1]; obtain rfl := sj hp; exact fz R7 M7 (k _ hc)
     · replace hp := gpos hp (of_decide_eq_true hb38); refine au 4 rfl ?_; cases hb39 : (decide (r18.1 = 0))
       · replace hp := gneg hp (of_decide_eq_false hb39); (iterate 2 refine r0 rfl ?_); refine au 2 rfl ?_; (iterate 2 refine r0 rfl ?_); refine au 2 rfl ?_; (iterate 2 refine r0 rfl ?_); refine au 2 rfl ?_; (iterate 2 refine r0 rfl ?_); refine au 2 rfl ?_; (iterate 4 refine r0 rfl ?_); refine au 2 rfl <| rn (qn (Wret ?_)); replace hc := hc.m [27, 25, 23, 21, 19, 17, 15, 13, 11, 9, 7, 5, 3, 1]; obtain rfl := sj hp; exact fz R7 M7 (k _ hc)
       · replace hp := gpos hp (of_decide_eq_true hb39); refine au 4 rfl ?_; cases hb40 : (decide (r22.1 = 0))
         · replace hp := gneg hp (of_decide_eq_false hb40); (iterate 2 refine r0 rfl ?_); refine au 2 rfl ?_; (iterate 2 refine r0 rfl ?_); refine au 2 rfl ?_; (iterate 2 refine r0 rfl ?_); refine au 2 rfl ?_; (iterate 4 refine r0 rfl ?_); refine au 2 rfl <| rn (qn (Wret ?_)); replace hc := hc.m [27, 25, 23, 21, 19, 17, 15, 13, 11, 9, 7, 5, 3, 1]; obtain rfl := sj hp; exact fz R7 M7 (k _ hc)
         · replace hp := gpos hp (of_decide_eq_true hb40); refine au 4 rfl ?_; cases hb41 : (decide (r26.1 = 80))
           · replace hp := gneg hp (of_decide_eq_false hb41); (iterate 2 refine r0 rfl ?_); refine au 2 rfl ?_; (iterate 2 refine r0 rfl ?_); refine au 2 rfl ?_; (iterate 4 refine r0 rfl ?_); refine au 2 rfl <| rn (qn (Wret ?_)); replace hc := hc.m [27, 25, 23, 21, 19, 17, 15, 13, 11, 9, 7, 5, 3, 1]; obtain rfl := sj hp; exact fz R7 M7 (k _ hc)
           · replace hp := gpos hp (of_decide_eq_true hb41); refine au 4 rfl ?_; cases hb42 : (decide (r30.1 = 0))
             · replace hp := gneg hp (of_decide_eq_false hb42); (iterate 2 refine r0 rfl ?_); refine au 2 rfl ?_; (iterate 4 refine r0 rfl ?_); refine au 2 rfl <| rn (qn (Wret ?_)); replace hc := hc.m [27, 25, 23, 21, 19, 17, 15, 13, 11, 9, 7, 5, 3, 1]; obtain rfl := sj hp; exact fz R7 M7 (k _ hc)
             · replace hp := gpos hp (of_decide_eq_true hb42); refine au 4 rfl ?_; cases hb43 : (decide (r36.1 = 2))
               · replace hp := gneg hp (of_decide_eq_false hb43); (iterate 4 refine r0 rfl ?_); refine au 2 rfl <| rn (qn (Wret ?_)); replace hc := hc.m [27, 25, 23, 21, 19, 17, 15, 13, 11, 9, 7, 5, 3, 1]; obtain rfl := sj hp; exact fz R7 M7 (k _ hc)
               · replace hp := gpos hp (of_decide_eq_true hb43); refine au 1 rfl ?_; refine rsE (oneI hc U47 Z3 V3) rfl ?_; clear hc; rintro _ w45 ⟨a44, rfl, hc⟩; obtain ⟨r46, hr46, hp⟩ := bind_some hp; replace hc := hc.m [2]; refine kz C10 ?_; refine cache_Store_Drop_any reads_own hc hr46 ?_; clear hc; intro w47 hc; refine au 3 rfl <| rn (qn (Wret ?_)); replace hc := hc.m [29, 27, 25, 23, 21, 19, 17, 15, 13, 11, 9, 7, 5, 3, 1]; obtain rfl := sj hp; exact fz R7 M7 (k _ hc)
   · refine Wseq (Wreg ?_); refine au 1 rfl <| rn (qn (Wret (qr ?_))); replace hc := hc.m [1]; obtain rfl := sj hp; exact fz R7 M7 (k _ hc)

def ref04_Bytes.L1 (x0 : (List Int)) (x1 : (List Int)) : Nat → Int → Option (Bool)
  | 0, _ => none
  | m1 + 1, j2 =>
    if j2 < ((x0.length : Nat) : Int) then
      (idx x0 j2).bind fun y6 =>
      (idx x1 j2).bind fun y15 =>
      if y6 ≠ y15 then
        some false
      else
        (ref04_Bytes.L1 x0 x1 m1) (IntKind.i64.wrap (j2 + 1))
    else
      some true

def ref04_Bytes (N : Nat) (x0 : (List Int)) (x1 : (List Int)) : Option (Bool) :=
  if ((x0.length : Nat) : Int) ≠ ((x1.length : Nat) : Int) then
    some false
  else
    ref04_Bytes.L1 x0 x1 N 0

def ref12_Store_Find.L1 (x0 : S_ref12_Store) (x1 : S_api_Spot) : Nat → Int → Option (Int)
  | 0, _ => none
  | m1 + 1, j4 =>
    if j4 < ((x0.L.length : Nat) : Int) then
      (idx x0.L j4).bind fun y10 =>
      if (⟨y10.At.Request, y10.At.Layer, y10.At.Place⟩ : S_api_Spot) = (⟨x1.Request, x1.Layer, x1.Place⟩ : S_api_Spot) then
        some j4
      else
        (ref12_Store_Find.L1 x0 x1 m1) (IntKind.i64.wrap (j4 + 1))
    else
      some (-1)

def ref12_Store_Find (N : Nat) (x0 : S_ref12_Store) (x1 : S_api_Spot) : Option (Int) :=
  ref12_Store_Find.L1 x0 x1 N 0

def ref12_Store_Put.J2 (j21 : S_ref12_Store) : Option (Int × S_ref12_Store) :=
  some (0, j21)

def ref12_Store_Put.J3 (x0 : S_ref12_Store) (j92 : Bool) : Option (Int × S_ref12_Store) :=
  if j92 = true then
    some (0, x0)
  else
    some (2, x0)

def ref12_Store_Put.J1 (N : Nat) (x0 : S_ref12_Store) (x1 : S_api_Spot) (x2 : (List Int)) (x3 : (List Int)) (j8 : Bool) : Option (Int × S_ref12_Store) :=
  if j8 = true then
    some (120, x0)
  else
    (ref12_Store_Find N x0 x1).bind fun r14 =>
    if r14 ≥ 0 then
      (idx x0.L r14).bind fun y95 =>
      (ref04_Bytes N y95.K x2).bind fun r108 =>
      if r108 = true then
        (idx x0.L r14).bind fun y111 =>
        (ref04_Bytes N y111.V x3).bind fun r124 =>
        ref12_Store_Put.J3 x0 r124
      else
        ref12_Store_Put.J3 x0 false
    else
      if ((x0.L.length : Nat) : Int) ≥ x0.Room then
        some (80, x0)
      else
        (app ([]) x2).bind fun z100013 =>
        (app ([]) x3).bind fun z100014 =>
        (app x0.L ([(⟨x1, z100013, z100014⟩ : S_ref12_Row)])).bind fun z100015 =>
        ref12_Store_Put.J2 (⟨x0.Room, z100015⟩ : S_ref12_Store)

def ref12_Store_Put (N : Nat) (x0 : S_ref12_Store) (x1 : S_api_Spot) (x2 : (List Int)) (x3 : (List Int)) : Option (Int × S_ref12_Store) :=
  if x1.Request < 0 then
    some (2, x0)
  else
    if x1.Layer < 0 then
      some (2, x0)
    else
      if x1.Place < 0 then
        some (2, x0)
      else
        if ((x2.length : Nat) : Int) ≠ ((x3.length : Nat) : Int) then
          some (30, x0)
        else
          if x1.Place > 0 then
            (ref12_Store_Find N x0 (⟨x1.Request, x1.Layer, (IntKind.i64.wrap (x1.Place - 1))⟩ : S_api_Spot)).bind fun r10 =>
            ref12_Store_Put.J1 N x0 x1 x2 x3 (decide (r10 < 0))
          else
            ref12_Store_Put.J1 N x0 x1 x2 x3 false

def cache_Store_Len (x0 : S_cache_Store) : Option (Int) :=
  some ((x0.m.length : Nat) : Int)

theorem cache_Store_Len_any {b0 : Nat} {x0 : S_cache_Store} {Fr : List HP} {w : World} {r : Int} {K : Value → World → Prop}  (hc : Ctx w (S_cache_Store.hp b0 x0 :: Fr)) (hp : cache_Store_Len x0 = some r)
    (k : ∀ w', Ctx w' (S_cache_Store.hp b0 x0 :: Fr) → K (.int .i64 r) w') : Calls Try.prog 13 #[pt b0 0] w (Ret K) := by
 unfold cache_Store_Len at hp; refine Center1 F13 M13 rfl rfl ?_; refine Wseq (Wreg ?_); refine au 1 rfl <| rn (qn (Wseq (Wreg ?_))); refine au 2 rfl <| sz (v := pt b0 1) (fax 1 rfl U63 rfl Z61 rfl rfl rfl) ?_; replace hc := S_cache_Store.uf hc; obtain ⟨v1, hc⟩ := hc; refine sz (ld rfl G61 (Ctx.cell hc (k := 0) rfl rfl rfl)) <| sz (v := .int .i64 ((x0.m.length : Nat) : Int)) (Ctx.mpLen hc (i := 1) rfl rfl U61 rfl) <| au 1 rfl <| rn (qn (Wret ?_)); replace hc := hc.m [2, 2]; replace hc := S_cache_Store.fd (x := x0) hc; obtain rfl := sj hp; exact fz R13 M13 (k _ hc)

end Go.Proofs.Ytdalpckomnkilaa
end
section
namespace Go.Proofs.Ytdalpckomnkilaa
open Go Go.RowKit Go.Hp
set_option linter.unusedVariables false
set_option linter.unusedSimpArgs false
set_option maxRecDepth 100000
set_option maxHeartbeats 8000000

def law12_CacheApart.L3 (j24 : S_cache_Store) (j25 : (List S_cache_Store)) : Nat → Int → Int → Option (Bool)
  | 0, _, _ => none
  | m3 + 1, j29, j30 =>
    if j30 < 6 then
      (idx j25 j30).bind fun y35 =>
      (cache_Store_Len y35).bind fun r47 =>
      (law12_CacheApart.L3 j24 j25 m3) (IntKind.i64.wrap (j29 + r47)) (IntKind.i64.wrap (j30 + 1))
    else
      (cache_Store_Len j24).bind fun r33 =>
      some (decide (r33 = j29))

def law12_CacheApart.J4 (N : Nat) (j24 : S_cache_Store) (j26 : Int) (y49 : S_law12_Act) (k2 : S_cache_Store → (List S_cache_Store) → Int → Option (Bool)) (j115 : S_cache_Store) (j116 : (List S_cache_Store)) (j117 : Int) : Option (Bool) :=
  (idx j116 (IntKind.i64.wrap ((IntKind.i64.wrap (2 * (Int.tmod (IntKind.i64.wrap ((Int.tmod y49.At.Request 3) + 3)) 3))) + (Int.tmod (IntKind.i64.wrap ((Int.tmod y49.At.Layer 2) + 2)) 2)))).bind fun y269 =>
  (cache_Store_Drop N j24 ([(Int.tmod (IntKind.i64.wrap ((Int.tmod y49.At.Request 3) + 3)) 3)])).bind fun r272 =>
  if r272.1 ≠ j117 then
    some false
  else
    (cache_Store_Line N r272.2 (Int.tmod (IntKind.i64.wrap ((Int.tmod y49.At.Request 3) + 3)) 3) (Int.tmod (IntKind.i64.wrap ((Int.tmod y49.At.Layer 2) + 2)) 2)).bind fun r275 =>
    (cache_Store_Line N j115 (Int.tmod (IntKind.i64.wrap ((Int.tmod y49.At.Request 3) + 3)) 3) (Int.tmod (IntKind.i64.wrap ((Int.tmod y49.At.Layer 2) + 2)) 2)).bind fun r285 =>
    if ((r275.1.length : Nat) : Int) ≠ ((r285.1.length : Nat) : Int) then
      some false
    else
      k2 r272.2 (j116.set ((IntKind.i64.wrap ((IntKind.i64.wrap (2 * (Int.tmod (IntKind.i64.wrap ((Int.tmod y49.At.Request 3) + 3)) 3))) + (Int.tmod (IntKind.i64.wrap ((Int.tmod y49.At.Layer 2) + 2)) 2)))).toNat j115) (IntKind.i64.wrap (j26 + 1))

def law12_CacheApart.L2 (N : Nat) (x0 : (List S_law12_Act)) : Nat → S_cache_Store → (List S_cache_Store) → Int → Option (Bool)
  | 0, _, _, _ => none
  | m2 + 1, j24, j25, j26 =>
    if j26 < ((x0.length : Nat) : Int) then
      (idx x0 j26).bind fun y49 =>
      if ((y49.K.length : Nat) : Int) > 100 then
        some true
      else
        if ((y49.V.length : Nat) : Int) > 100 then
          some true
        else
          (law12_spot (Int.tmod (IntKind.i64.wrap ((Int.tmod y49.At.Request 3) + 3)) 3) (Int.tmod (IntKind.i64.wrap ((Int.tmod y49.At.Layer 2) + 2)) 2) y49.At.Place).bind fun r69 =>
          (idx j25 (IntKind.i64.wrap ((IntKind.i64.wrap (2 * (Int.tmod (IntKind.i64.wrap ((Int.tmod y49.At.Request 3) + 3)) 3))) + (Int.tmod (IntKind.i64.wrap ((Int.tmod y49.At.Layer 2) + 2)) 2)))).bind fun y75 =>
          if y49.Kind = 1 then
            (idx j25 (IntKind.i64.wrap (2 * (Int.tmod (IntKind.i64.wrap ((Int.tmod y49.At.Request 3) + 3)) 3)))).bind fun y100294 =>
            (cache_Store_Drop N y100294 ([(Int.tmod (IntKind.i64.wrap ((Int.tmod y49.At.Request 3) + 3)) 3)])).bind fun r100295 =>
            (idx (j25.set ((IntKind.i64.wrap (2 * (Int.tmod (IntKind.i64.wrap ((Int.tmod y49.At.Request 3) + 3)) 3)))).toNat r100295.2) (IntKind.i64.wrap ((IntKind.i64.wrap (2 * (Int.tmod (IntKind.i64.wrap ((Int.tmod y49.At.Request 3) + 3)) 3))) + 1))).bind fun y100296 =>
            (cache_Store_Drop N y100296 ([(Int.tmod (IntKind.i64.wrap ((Int.tmod y49.At.Request 3) + 3)) 3)])).bind fun r100297 =>
            (idx j25 (IntKind.i64.wrap ((IntKind.i64.wrap (2 * (Int.tmod (IntKind.i64.wrap ((Int.tmod y49.At.Request 3) + 3)) 3))) + 1))).bind fun y100298 =>
            (idx ((j25.set ((IntKind.i64.wrap (2 * (Int.tmod (IntKind.i64.wrap ((Int.tmod y49.At.Request 3) + 3)) 3)))).toNat r100295.2).set ((IntKind.i64.wrap ((IntKind.i64.wrap (2 * (Int.tmod (IntKind.i64.wrap ((Int.tmod y49.At.Request 3) + 3)) 3))) + 1))).toNat r100297.2) (IntKind.i64.wrap ((IntKind.i64.wrap (2 * (Int.tmod (IntKind.i64.wrap ((Int.tmod y49.At.Request 3) + 3)) 3))) + (Int.tmod (IntKind.i64.wrap ((Int.tmod y49.At.Layer 2) + 2)) 2)))).bind fun y100299 =>
            law12_CacheApart.J4 N j24 j26 y49 (law12_CacheApart.L2 N x0 m2) y100299 ((j25.set ((IntKind.i64.wrap (2 * (Int.tmod (IntKind.i64.wrap ((Int.tmod y49.At.Request 3) + 3)) 3)))).toNat r100295.2).set ((IntKind.i64.wrap ((IntKind.i64.wrap (2 * (Int.tmod (IntKind.i64.wrap ((Int.tmod y49.At.Request 3) + 3)) 3))) + 1))).toNat r100297.2) (IntKind.i64.wrap (r100295.1 + r100297.1))
          else
            (cache_Store_Put N j24 (⟨r69.Request, r69.Layer, r69.Place⟩ : S_api_Spot) y49.K y49.V).bind fun r89 =>
            (cache_Store_Put N y75 (⟨r69.Request, r69.Layer, r69.Place⟩ : S_api_Spot) y49.K y49.V).bind fun r91 =>
            if r89.1 ≠ r91.1 then
              some false
            else
              (cache_Store_Line N r89.2 (Int.tmod (IntKind.i64.wrap ((Int.tmod y49.At.Request 3) + 3)) 3) (Int.tmod (IntKind.i64.wrap ((Int.tmod y49.At.Layer 2) + 2)) 2)).bind fun r94 =>
              (cache_Store_Line N r91.2 (Int.tmod (IntKind.i64.wrap ((Int.tmod y49.At.Request 3) + 3)) 3) (Int.tmod (IntKind.i64.wrap ((Int.tmod y49.At.Layer 2) + 2)) 2)).bind fun r104 =>
              if ((r94.1.length : Nat) : Int) ≠ ((r104.1.length : Nat) : Int) then
                some false
              else
                (law12_CacheApart.L2 N x0 m2) r89.2 (j25.set ((IntKind.i64.wrap ((IntKind.i64.wrap (2 * (Int.tmod (IntKind.i64.wrap ((Int.tmod y49.At.Request 3) + 3)) 3))) + (Int.tmod (IntKind.i64.wrap ((Int.tmod y49.At.Layer 2) + 2)) 2)))).toNat r91.2) (IntKind.i64.wrap (j26 + 1))
    else
      law12_CacheApart.L3 j24 j25 N 0 0

def law12_CacheApart.L1 (N : Nat) (x0 : (List S_law12_Act)) (y11 : S_cache_Store) : Nat → (List S_cache_Store) → Int → Option (Bool)
  | 0, _, _ => none
  | m1 + 1, j16, j20 =>
    if j20 < 6 then
      (cache_New 1000).bind fun r296 =>
      optc r296.1 (
        some false) fun y300 =>
      if r296.2 ≠ 0 then
        some false
      else
        (app j16 ([y300])).bind fun z307 =>
        (law12_CacheApart.L1 N x0 y11 m1) z307 (IntKind.i64.wrap (j20 + 1))
    else
      law12_CacheApart.L2 N x0 N y11 j16 0

def law12_CacheApart (N : Nat) (x0 : (List S_law12_Act)) : Option (Bool) :=
  (law12_awake N).bind fun r1 =>
  if r1 = true then
    if ((x0.length : Nat) : Int) > 60 then
      (law12_awake N).bind fun r313 =>
      some r313
    else
      (cache_New 1000).bind fun r7 =>
      optc r7.1 (
        some false) fun y11 =>
      if r7.2 ≠ 0 then
        some false
      else
        law12_CacheApart.L1 N x0 y11 N ([]) 0
  else
    (law12_awake N).bind fun r4 =>
    some r4

theorem law12_CacheApart_any {N nx0 qx0 : Nat} {x0 : (List S_law12_Act)} {ax0 : Option Addr} {P0 : HP} {Fr : List HP} {w : World} {r : Bool} {K : Value → World → Prop} (hrd0 : Reads P0 S_law12_Act.pr (.slice ax0 nx0 qx0) x0) (hc : Ctx w (P0 :: Fr)) (hp : law12_CacheApart N x0 = some r)
    (k : ∀ w', Ctx w' (P0 :: Fr) → K (.bool r) w') : Calls Try.prog 3 #[.slice ax0 nx0 qx0] w (Ret K) := by
 unfold law12_CacheApart at hp; refine Center1 F3 M3 rfl rfl ?_; obtain ⟨hn0, _⟩ := Ctx.rdLen hc (k := 0) rfl rfl hrd0; subst hn0; refine Wseq (Wreg ?_); refine au 1 rfl <| rn (qn (Wseq (Wseq (Wreg ?_)))); replace hp := bind_some hp; obtain ⟨r1, hr1, hp⟩ := hp; refine kz C7 ?_; refine law12_awake_any hc hr1 ?_; clear hc; intro w2 hc; cases hb3 : r1
 · replace hp := gneg hp (by rw [hb3]; exact Bool.false_ne_true); subst hb3; refine au 2 rfl ?_; (iterate 3 refine r0 rfl ?_); refine au 1 rfl <| rn (qn (Wct rfl (Wseq (Wreg ?_)))); replace hp := bind_some hp; obtain ⟨r4, hr4, hp⟩ := hp; refine kz C7 ?_; refine law12_awake_any hc hr4 ?_; clear hc; intro w5 hc; refine au 1 rfl <| rn (qn (Wret (qr ?_))); obtain rfl := sj hp; exact fz R3 M3 (k _ hc)
 · replace hp := gpos hp hb3; subst hb3; refine au 3 rfl <| sz (ln rfl U22) <| au 2 rfl <| rn (qn ?_); refine Wif hp (fun _ h => ?_) fun _ h => ?_
   · replace hp := h; clear h; refine Wskip (qn (Wseq (Wreg ?_))); replace hp := bind_some hp; obtain ⟨r7, hr7, hp⟩ := hp; refine kz C8 ?_; refine cache_New_any hc hr7 ?_; clear hc; intro v8 w9 hc; refine au 5 rfl <| rn (qn (Wseq (Wseq (Wreg ?_)))); refine au 1 rfl ?_; cases hb10 : r7.1
     · replace hp := optN hp hb10; rw [hb10] at hc; replace hc := Ctx.ptoN hc; obtain ⟨u12, hc⟩ := hc; subst u12; refine sz (v := .bool true) (ept U24 rfl rfl) <| au 1 rfl ?_; (iterate 2 refine r0 rfl ?_); refine au 1 rfl <| rn (qn (Wct rfl (Wseq (Wreg ?_)))); refine au 1 rfl <| rn (qn (Wret (qr ?_))); obtain rfl := sj hp; exact fz R3 M3 (k _ hc)
     · rename_i y11; replace hp := optS hp hb10; rw [hb10] at hc; replace hc := Ctx.ptoS hc; obtain ⟨b13, u14, hc⟩ := hc; subst u14; refine sz (v := .bool false) (epf U24 rfl rfl) <| au 4 rfl <| rn (qn ?_); refine Wif hp (fun _ h => ?_) fun _ h => ?_
       · replace hp := h; clear h; refine Wskip (qn (Wseq (Wreg ?_))); refine au 1 rfl <| rn (qn (Wseq (Wseq (Wreg ?_)))); refine au 1 rfl <| rn (qn (Wblk ?_)); replace hc := hc.nilOwnV (vPt S_cache_Store.hp) 24; replace hc := hc.m [4, 4]; refine Wloop (rg [2, 1, 5, 4, 40, 18]) [5, 6] (fun m vs w' => ∃ j16 : (List S_cache_Store), ∃ j20 : Int, ∃ a17 n18 q19, vs = [.slice a17 n18 q19, .int .i64 j20] ∧ law12_CacheApart.L1 N x0 y11 m j16 j20 = some r ∧ Ctx w' (S_cache_Store.hp b13 y11 :: P0 :: OwnV (vPt S_cache_Store.hp) 24 (.slice a17 n18 q19) j16 :: Fr)) N ?_ ?_
         · exact ⟨[], 0, none, 0, 0, rfl, hp, hc⟩
         · clear hp hc; intro m vs u w21 hJ; obtain ⟨j16, j20, a17, n18, q19, rfl, hp, hc⟩ := hJ; have u22 := Ctx.ownVLen' hc (k := 2) rfl rfl; subst u22; rcases m with _ | m1
           · cases (show none = some r from hp)
           rw [law12_CacheApart.L1] at hp; refine Wseq (Wseq (Wreg ?_)); refine au 2 rfl <| rn (qn ?_); refine Wif hp (fun _ h => ?_) fun _ h => ?_
           · replace hp := h; clear h; refine Wexit (qx (qx (be (qn (Wseq (Wseq (Wreg ?_))))))); refine au 1 rfl <| rn (qn (Wblk ?_)); refine Wloop (rg [2, 1, 9, 11, 58, 106]) [9] (fun m vs w' => ∃ j24 : S_cache_Store, ∃ j25 : (List S_cache_Store), ∃ j26 : Int, vs = [.int .i64 j26] ∧ law12_CacheApart.L2 N x0 m j24 j25 j26 = some r ∧ Ctx w' (S_cache_Store.hp b13 j24 :: P0 :: OwnV (vPt S_cache_Store.hp) 24 (.slice a17 j16.length q19) j25 :: Fr)) N ?_ ?_
             · exact ⟨y11, j16, 0, rfl, hp, hc⟩
             · clear hp hc; intro m vs u w27 hJ; obtain ⟨j24, j25, j26, rfl, hp, hc⟩ := hJ; rcases m with _ | m2
               · cases (show none = some r from hp)
               rw [law12_CacheApart.L2] at hp; refine Wseq (Wseq (Wreg ?_)); refine au 2 rfl <| sz (ln rfl U22) <| au 1 rfl <| rn (qn ?_); refine Wif hp (fun _ h => ?_) fun _ h => ?_
               · replace hp := h; clear h; refine Wexit (qx (qx (be (qn (Wseq (Wreg ?_)))))); refine au 1 rfl <| rn (qn (Wseq (Wseq (Wreg ?_)))); refine au 1 rfl <| rn (qn (Wblk ?_)); refine Wloop (rg [20, 2, 164, 11]) [20, 21] (fun m vs w' => ∃ j29 : Int, ∃ j30 : Int, vs = [.int .i64 j29, .int .i64 j30] ∧ law12_CacheApart.L3 j24 j25 m j29 j30 = some r ∧ Ctx w' (S_cache_Store.hp b13 j24 :: P0 :: OwnV (vPt S_cache_Store.hp) 24 (.slice a17 j16.length q19) j25 :: Fr)) N ?_ ?_
                 · exact ⟨0, 0, rfl, hp, hc⟩
                 · clear hp hc; intro m vs u w31 hJ; obtain ⟨j29, j30, rfl, hp, hc⟩ := hJ; rcases m with _ | m3
                   · cases (show none = some r from hp)
                   rw [law12_CacheApart.L3] at hp; refine Wseq (Wseq (Wreg ?_)); refine au 2 rfl <| rn (qn ?_); refine Wif hp (fun _ h => ?_) fun _ h => ?_
                   · replace hp := h; clear h; refine Wexit (qx (qx (be (qn (Wseq (Wreg ?_)))))); refine au 1 rfl ?_; replace hp := bind_some hp; obtain ⟨r33, hr33, hp⟩ := hp; refine kz C13 ?_; refine cache_Store_Len_any hc hr33 ?_; clear hc; intro w34 hc; refine au 3 rfl <| rn (qn (Wret ?_)); replace hc := hc.m [5, 1]; obtain rfl := sj hp; exact fz R3 M3 (k _ hc)
                   · replace hp := h; clear h; refine Wskip (qn (Wseq (Wblk (Wreg ?_)))); refine au 3 rfl ?_; replace hp := bind_some hp; obtain ⟨y35, hy35, hp⟩ := hp; replace hc := hc.m [4]; replace hc := Ctx.ownVF hc; obtain ⟨hs36, hl39, hc⟩ := hc; replace hc := Ctx.bigF hc.swap hy35; obtain ⟨a38, ha37, hc⟩ := hc; replace hc := Ctx.exF hc; obtain ⟨b41, hc⟩ := hc; replace hc := Ctx.sepF hc; replace hc := Ctx.puF hc; obtain ⟨u40, hc⟩ := hc; subst u40; have hln := Ctx.rdLen hc (k := 2) rfl rfl reads_own; obtain ⟨b44, o45, u46, hi42, hi43⟩ := Ctx.rdAt hc (k := 2) rfl rfl reads_own ha37; clear hln; subst u46; refine sz (ixx rfl rfl U28 Z24 hi42 hi43 rfl) <| sz (ld rfl G24 (Ctx.rdAny hc (k := 2) rfl rfl ha37 0 _ rfl)) ?_; replace hp := bind_some hp; obtain ⟨r47, hr47, hp⟩ := hp; refine kz C13 ?_; refine cache_Store_Len_any hc hr47 ?_; clear hc; intro w48 hc; refine au 2 rfl <| rn (bn (qn (Wreg ?_))); refine au 3 rfl <| rn (qn ?_); replace hc : Ctx w48 ((vPt S_cache_Store.hp).r [pt b41 0] y35 :: BigH (vPt S_cache_Store.hp).r hs36 j25 j30 :: Own (pAny 1) 24 (.slice (some ⟨b44, o45, none⟩) j16.length q19) hs36 :: S_cache_Store.hp b13 j24 :: P0 :: Fr) := Ctx.exB _ _ (Ctx.sepB (Ctx.puB rfl hc)); replace hc := hc.m [4, 4, 4]; replace hc := Ctx.bigB0 hc ha37 hy35; replace hc : Ctx w48 (OwnV (vPt S_cache_Store.hp) 24 (.slice (some ⟨b44, o45, none⟩) j16.length q19) j25 :: S_cache_Store.hp b13 j24 :: P0 :: Fr) := Ctx.ownVB hc.swap; replace hc := hc.m [4, 4]; exact ⟨m3, Nat.lt_succ_self _, ⟨(IntKind.i64.wrap (j29 + r47)), (IntKind.i64.wrap (j30 + 1)), rfl, hp, hc⟩, (kl rfl k0)⟩
               · replace hp := h; clear h; refine Wskip (qn (Wseq (Wblk (Wseq (Wreg ?_))))); refine au 2 rfl ?_; replace hp := bind_some hp; obtain ⟨y49, hy49, hp⟩ := hp; obtain ⟨b52, o53, rfl, hi50, hi51⟩ := hc.ra 1 hrd0 hy49; refine sz (ixx rfl rfl U22 Z33 hi50 hi51 rfl) ?_; replace hc := Ctx.rdCell hc (k := 1) rfl rfl hrd0 hy49; obtain ⟨cs55, hc, hcell56⟩ := hc; replace hc := S_law12_Act.op hc; obtain ⟨a58, q59, a60, q61, u57, hc⟩ := hc; subst u57; refine sz (v := .agg (S_law12_Act.cz y49 a58 q59 a60 q61).toArray) (ldg rfl G33 Z33 rfl (elCells hcell56 0 (vs := (S_law12_Act.cz y49 a58 q59 a60 q61)) rfl)) ?_; refine rsE (Ctx.allocOp (cs := [.int .i64 0, .int .i64 0, .int .i64 0, .int .i64 0, .slice none 0 0, .slice none 0 0]) hc V33 rfl) rfl ?_; clear hc; rintro _ w64 ⟨b62, rfl, hc⟩; refine pa hc 0 Z33 ?_; clear hc; rintro w65 hc; refine rn (qn (Wseq (Wseq (Wreg ?_)))); refine fq 4 U33 Z31 G31 hc 0 ?_; refine sz (ln rfl U31) <| au 2 rfl ?_; cases hb66 : (decide (((y49.K.length : Nat) : Int) > 100))
                 · replace hp := gneg hp (of_decide_eq_false hb66); refine fq 5 U33 Z31 G31 hc 0 ?_; refine sz (ln rfl U31) <| au 2 rfl <| rn (qn ?_); refine Wif hp (fun _ h => ?_) fun _ h => ?_
                   · replace hp := h; clear h; refine Wskip (qn (Wseq ?_)); replace hc := hc.drew; refine Wdrw (fun _ w' => w' = World.drew w65) [0, 1, 3, 7, 15, 31, 0, 64, 192, 448, 960, 1984, 63, 8191] 0 0 rfl (by kernel_rfl) (fun _ _ => rfl) ?_; generalize hw : World.drew w65 = w68 at *; clear hw; refine dE (v := pt b62 1) (fax 1 rfl U33 rfl Z30 rfl rfl rfl) rfl rfl <| dE (v := pt b62 1) (fax 0 rfl U30 rfl Z3 rfl rfl rfl) rfl rfl <| dE (ld rfl G3 (Ctx.cell hc (k := 0) rfl rfl rfl)) rfl rfl <| dE (rm rfl rfl (by decide)) rfl rfl <| ad_ 1 rfl <| dE (rm rfl rfl (by decide)) rfl rfl <| dE (v := pt b62 1) (fax 1 rfl U33 rfl Z30 rfl rfl rfl) rfl rfl <| dE (v := pt b62 2) (fax 1 rfl U30 rfl Z3 rfl rfl rfl) rfl rfl <| dE (ld rfl G3 (Ctx.cell hc (k := 0) rfl rfl rfl)) rfl rfl <| dE (rm rfl rfl (by decide)) rfl rfl <| ad_ 1 rfl <| dE (rm rfl rfl (by decide)) rfl rfl <| ad_ 2 rfl <| dn (qn (Wseq (Wreg ?_))); refine au 2 rfl <| sz (v := pt b62 1) (fax 1 rfl U33 rfl Z30 rfl rfl rfl) ?_; refine fq 2 U30 Z3 G3 hc 0 ?_; replace hp := bind_some hp; obtain ⟨r69, hr69, hp⟩ := hp; refine kz C9 ?_; refine law12_spot_any hc hr69 ?_; clear hc; intro w70 hc; refine rsE (Ctx.allocOp (cs := [.int .i64 0, .int .i64 0, .int .i64 0]) hc V30 rfl) rfl ?_; clear hc; rintro _ w73 ⟨b71, rfl, hc⟩; refine pa hc 0 Z30 ?_; clear hc; rintro w74 hc; refine rn (qn (Wseq (Wreg ?_))); refine au 5 rfl ?_; replace hp := bind_some hp; obtain ⟨y75, hy75, hp⟩ := hp; replace hc := hc.m [12]; replace hc := Ctx.ownVF hc; obtain ⟨hs76, hl79, hc⟩ := hc; replace hc := Ctx.bigF hc.swap hy75; obtain ⟨a78, ha77, hc⟩ := hc; replace hc := Ctx.exF hc; obtain ⟨b81, hc⟩ := hc; replace hc := Ctx.sepF hc; replace hc := Ctx.puF hc; obtain ⟨u80, hc⟩ := hc; subst u80; have hln := Ctx.rdLen hc (k := 2) rfl rfl reads_own; obtain ⟨b84, o85, u86, hi82, hi83⟩ := Ctx.rdAt hc (k := 2) rfl rfl reads_own ha77; clear hln; subst u86; refine sz (ixx rfl rfl U28 Z24 hi82 hi83 rfl) <| sz (ld rfl G24 (Ctx.rdAny hc (k := 2) rfl rfl ha77 0 _ rfl)) <| au 1 rfl <| rn (qn (Wseq (Wseq (Wreg ?_)))); refine fq 0 U33 Z3 G3 hc 4 ?_; refine au 1 rfl <| rn (qn ?_); cases hb87 : (decide (y49.Kind = 1))
                     · replace hp := gneg hp (of_decide_eq_false hb87); refine Wcf rfl (Wseq ?_); replace hc := hc.drew; refine Wdrw (fun j w' => (j = 8 → ∀ j v, ((S_api_Spot.cz r69) : List Value)[j]? = some v → w'.cell? ((⟨b71, 0, none⟩ : Addr).add j) = some v) ∧ (j = 10 → w'.cell? ⟨b62, 4, none⟩ = some (.slice a58 y49.K.length q59)) ∧ (j = 12 → w'.cell? ⟨b62, 5, none⟩ = some (.slice a60 y49.V.length q61)) ∧ True) [0, 0, 0, 4, 0, 16, 63, 0, 0, 0, 512, 0, 2048, 8191, 16383] 0 42 rfl (by kernel_rfl) (fun j hj => ⟨fun _ => Ctx.cells hc (k := 3) rfl rfl 0 (vs := (S_api_Spot.cz r69)) rfl, fun _ => hc.cell (k := 4) rfl rfl rfl, fun _ => hc.cell (k := 4) rfl rfl rfl, trivial⟩) ?_; generalize hw : World.drew w74 = w88 at *; clear hw; refine ad_ 1 rfl <| dx (v := .agg (S_api_Spot.cz r69).toArray) rfl (ldg rfl G30 Z30 rfl (Ctx.cells hc (k := 3) rfl rfl 0 (vs := (S_api_Spot.cz r69)) rfl)) rfl rfl <| ds (v := pt b62 4) rfl (fun w' hF => fax 4 rfl U33 rfl Z31 rfl rfl rfl) rfl <| dx rfl (ld rfl G31 (Ctx.cell hc (k := 4) rfl rfl rfl)) rfl rfl <| ds (v := pt b62 5) rfl (fun w' hF => fax 5 rfl U33 rfl Z31 rfl rfl rfl) rfl <| dx rfl (ld rfl G31 (Ctx.cell hc (k := 4) rfl rfl rfl)) rfl rfl ?_; replace hc := hc.dz 5; replace hc := hc.dz 7; replace hp := bind_some hp; obtain ⟨r89, hr89, hp⟩ := hp; replace hc := hc.m [2, 18]; refine dc (cl C11 rfl rfl) rfl rfl ?_; refine cache_Store_Put_any (x1 := r69) reads_ro reads_ro hc hr89 ?_; clear hc; intro w90 hc; refine ⟨fun j hj hb => ⟨fun _ => Ctx.cells hc (k := 6) rfl rfl 0 (vs := (S_api_Spot.cz r69)) rfl, fun _ => hc.cell (k := 7) rfl rfl rfl, fun _ => hc.cell (k := 7) rfl rfl rfl, trivial⟩, ?_⟩; refine ad_ 1 rfl <| ds (v := .agg (S_api_Spot.cz r69).toArray) rfl (fun w' hF => ldg rfl G30 Z30 rfl (hF.1 rfl)) rfl <| ds (v := pt b62 4) rfl (fun w' hF => fax 4 rfl U33 rfl Z31 rfl rfl rfl) rfl <| ds rfl (fun w' hF => ld rfl G31 ((hF.2.1 rfl))) rfl <| ds (v := pt b62 5) rfl (fun w' hF => fax 5 rfl U33 rfl Z31 rfl rfl rfl) rfl <| ds rfl (fun w' hF => ld rfl G31 ((hF.2.2.1 rfl))) rfl ?_; replace hc := hc.dz 8; replace hc := hc.dz 10; replace hp := bind_some hp; obtain ⟨r91, hr91, hp⟩ := hp; replace hc := hc.m [2, 10]; refine dc (cl C11 rfl rfl) rfl rfl ?_; refine cache_Store_Put_any (x1 := r69) reads_ro reads_ro hc hr91 ?_; clear hc; intro w92 hc; refine ⟨fun j hj hb => ⟨fun e => nja hj e, fun e => nja hj e, fun e => nja hj e, trivial⟩, ?_⟩; refine ad_ 1 rfl <| dn (qn ?_); refine Wif hp (fun _ h => ?_) fun _ h => ?_
                       · replace hp := h; clear h; refine Wskip (qn (Wseq (Wreg ?_))); refine au 3 rfl ?_; replace hp := bind_some hp; obtain ⟨r94, hr94, hp⟩ := hp; replace hc := hc.m [6]; refine kz C12 ?_; refine cache_Store_Line_any hc hr94 ?_; clear hc; intro a95 n96 q97 a98 n99 q100 w101 hc; have u102 := Ctx.ownVLen' hc (k := 0) rfl rfl; subst u102; have u103 := Ctx.ownVLen' hc (k := 1) rfl rfl; subst u103; refine au 5 rfl <| rn (qn (Wseq (Wreg ?_))); refine au 3 rfl ?_; replace hp := bind_some hp; obtain ⟨r104, hr104, hp⟩ := hp; replace hc := hc.m [6]; refine kz C12 ?_; refine cache_Store_Line_any hc hr104 ?_; clear hc; intro a105 n106 q107 a108 n109 q110 w111 hc; have u112 := Ctx.ownVLen' hc (k := 0) rfl rfl; subst u112; have u113 := Ctx.ownVLen' hc (k := 1) rfl rfl; subst u113; refine au 5 rfl <| rn (qn (Wseq (Wreg ?_))); refine au 1 rfl <| sz (ln rfl U37) <| au 1 rfl <| sz (ln rfl U37) <| au 1 rfl <| rn (qn ?_); refine Wif hp (fun _ h => ?_) fun _ h => ?_
                         · replace hp := h; clear h; refine Wskip (bn (qn (Wreg ?_))); refine au 3 rfl <| rn (qn ?_); replace hc := hc.m [4]; replace hc : Ctx w111 ((vPt S_cache_Store.hp).r [pt b81 0] r91.2 :: OwnV (vOwn (pInt .i8) 42) 31 (.slice a105 r104.1.length q107) r104.1 :: OwnV (vOwn (pInt .i8) 42) 31 (.slice a108 r104.2.length q110) r104.2 :: OwnV (vOwn (pInt .i8) 42) 31 (.slice a95 r94.1.length q97) r94.1 :: OwnV (vOwn (pInt .i8) 42) 31 (.slice a98 r94.2.length q100) r94.2 :: S_cache_Store.hp b13 r89.2 :: hR .i8 a58 q59 y49.K :: hR .i8 a60 q61 y49.V :: hR .i8 a58 q59 y49.K :: hR .i8 a60 q61 y49.V :: BigH (vPt S_cache_Store.hp).r hs76 j25 (IntKind.i64.wrap ((IntKind.i64.wrap (2 * (Int.tmod (IntKind.i64.wrap ((Int.tmod y49.At.Request 3) + 3)) 3))) + (Int.tmod (IntKind.i64.wrap ((Int.tmod y49.At.Layer 2) + 2)) 2))) :: Own (pAny 1) 24 (.slice (some ⟨b84, o85, none⟩) j16.length q19) hs76 :: B b71 (S_api_Spot.cz r69) 30 :: B b62 (S_law12_Act.cz y49 a58 q59 a60 q61) 33 :: hR .i8 a58 q59 y49.K :: hR .i8 a60 q61 y49.V :: P0 :: Fr) := Ctx.exB _ _ (Ctx.sepB (Ctx.puB rfl hc)); replace hc := hc.m [22, 22, 4]; replace hc := Ctx.bigB1 hc ha77 hy75; replace hc : Ctx w111 (OwnV (vPt S_cache_Store.hp) 24 (.slice (some ⟨b84, o85, none⟩) j16.length q19) (j25.set ((IntKind.i64.wrap ((IntKind.i64.wrap (2 * (Int.tmod (IntKind.i64.wrap ((Int.tmod y49.At.Request 3) + 3)) 3))) + (Int.tmod (IntKind.i64.wrap ((Int.tmod y49.At.Layer 2) + 2)) 2)))).toNat r91.2) :: OwnV (vOwn (pInt .i8) 42) 31 (.slice a105 r104.1.length q107) r104.1 :: OwnV (vOwn (pInt .i8) 42) 31 (.slice a108 r104.2.length q110) r104.2 :: OwnV (vOwn (pInt .i8) 42) 31 (.slice a95 r94.1.length q97) r94.1 :: OwnV (vOwn (pInt .i8) 42) 31 (.slice a98 r94.2.length q100) r94.2 :: S_cache_Store.hp b13 r89.2 :: hR .i8 a58 q59 y49.K :: hR .i8 a60 q61 y49.V :: hR .i8 a58 q59 y49.K :: hR .i8 a60 q61 y49.V :: B b71 (S_api_Spot.cz r69) 30 :: B b62 (S_law12_Act.cz y49 a58 q59 a60 q61) 33 :: hR .i8 a58 q59 y49.K :: hR .i8 a60 q61 y49.V :: P0 :: Fr) := Ctx.ownVB hc.swap; replace hc := hc.m [27, 25, 23, 21, 19, 17, 15, 13, 9, 7, 5, 3, 4, 4]; exact ⟨m2, Nat.lt_succ_self _, ⟨r89.2, (j25.set ((IntKind.i64.wrap ((IntKind.i64.wrap (2 * (Int.tmod (IntKind.i64.wrap ((Int.tmod y49.At.Request 3) + 3)) 3))) + (Int.tmod (IntKind.i64.wrap ((Int.tmod y49.At.Layer 2) + 2)) 2)))).toNat r91.2), (IntKind.i64.wrap (j26 + 1)), rfl, hp, hc⟩, (kl rfl k0)⟩
                         · replace hp := h; clear h; refine Wseq (Wreg ?_); refine au 1 rfl <| rn (qn (Wret (br (qr (qr (br (qr ?_))))))); replace hc := hc.m [31, 29, 27, 25, 23, 21, 19, 17, 15, 13, 11, 9, 7, 5, 3, 1]; obtain rfl := sj hp; exact fz R3 M3 (k _ hc)
                       · replace hp := h; clear h; refine Wseq (Wreg ?_); refine au 1 rfl <| rn (qn (Wret (qr (br (qr (qr (br (qr ?_)))))))); replace hc := hc.m [23, 21, 19, 17, 15, 13, 11, 9, 7, 5, 3, 1]; obtain rfl := sj hp; exact fz R3 M3 (k _ hc)
                     · replace hp := gpos hp (of_decide_eq_true hb87); refine Wct rfl ?_; refine Wseqm (rg [15, 1, 106, 18]) [15] (fun vs w' => ∃ j115 : S_cache_Store, ∃ j116 : (List S_cache_Store), ∃ j117 : Int, vs = [.int .i64 j117] ∧ law12_CacheApart.J4 N j24 j26 y49 (law12_CacheApart.L2 N x0 m2) j115 j116 j117 = some r ∧ Ctx w' (S_cache_Store.hp b81 j115 :: BigH (vPt S_cache_Store.hp).r hs76 j116 (IntKind.i64.wrap ((IntKind.i64.wrap (2 * (Int.tmod (IntKind.i64.wrap ((Int.tmod y49.At.Request 3) + 3)) 3))) + (Int.tmod (IntKind.i64.wrap ((Int.tmod y49.At.Layer 2) + 2)) 2))) :: Own (pAny 1) 24 (.slice (some ⟨b84, o85, none⟩) j16.length q19) hs76 :: S_cache_Store.hp b13 j24 :: P0 :: Fr)) ?_ ?_
                       · replace hp := bind_some hp; obtain ⟨y100294, hy100294, hp⟩ := hp; replace hp := bind_some hp; obtain ⟨r100295, hr100295, hp⟩ := hp; replace hp := bind_some hp; obtain ⟨y100296, hy100296, hp⟩ := hp; replace hp := bind_some hp; obtain ⟨r100297, hr100297, hp⟩ := hp; replace hp := bind_some hp; obtain ⟨y100298, hy100298, hp⟩ := hp; replace hp := bind_some hp; obtain ⟨y100299, hy100299, hp⟩ := hp; refine Wrg rfl ?_; refine RGsplit 6 15 rfl ?_ ?_
                         · refine RGsplit 7 15 rfl ?_ ?_
                           · replace hc : Ctx w74 ((vPt S_cache_Store.hp).r [pt b81 0] y75 :: BigH (vPt S_cache_Store.hp).r hs76 j25 (IntKind.i64.wrap ((IntKind.i64.wrap (2 * (Int.tmod (IntKind.i64.wrap ((Int.tmod y49.At.Request 3) + 3)) 3))) + (Int.tmod (IntKind.i64.wrap ((Int.tmod y49.At.Layer 2) + 2)) 2))) :: Own (pAny 1) 24 (.slice (some ⟨b84, o85, none⟩) j16.length q19) hs76 :: B b71 (S_api_Spot.cz r69) 30 :: B b62 (S_law12_Act.cz y49 a58 q59 a60 q61) 33 :: hR .i8 a58 q59 y49.K :: hR .i8 a60 q61 y49.V :: S_cache_Store.hp b13 j24 :: P0 :: Fr) := Ctx.exB _ _ (Ctx.sepB (Ctx.puB rfl hc)); replace hc := hc.m [4, 4, 4]; replace hc := Ctx.bigB0 hc ha77 hy75; replace hc := Ctx.bigF hc hy100294; obtain ⟨a118, ha119, hc⟩ := hc; replace hc := Ctx.exF hc; obtain ⟨b121, hc⟩ := hc; replace hc := Ctx.sepF hc; replace hc := Ctx.puF hc; obtain ⟨u120, hc⟩ := hc; subst u120; replace hc : Ctx w74 ((vPt S_cache_Store.hp).r [pt b121 0] y100294 :: BigH (vPt S_cache_Store.hp).r hs76 j25 (IntKind.i64.wrap (2 * (Int.tmod (IntKind.i64.wrap ((Int.tmod y49.At.Request 3) + 3)) 3))) :: Own (pAny 1) 24 (.slice (some ⟨b84, o85, none⟩) j16.length q19) hs76 :: B b71 (S_api_Spot.cz r69) 30 :: B b62 (S_law12_Act.cz y49 a58 q59 a60 q61) 33 :: hR .i8 a58 q59 y49.K :: hR .i8 a60 q61 y49.V :: S_cache_Store.hp b13 j24 :: P0 :: Fr) := Ctx.exB _ _ (Ctx.sepB (Ctx.puB rfl hc)); replace hc := hc.m [4, 4, 4]; replace hc := Ctx.bigB0 hc ha119 hy100294; replace hc := Ctx.bigF hc hy75; obtain ⟨a122, ha123, hc⟩ := hc; replace hc := Ctx.exF hc; obtain ⟨b125, hc⟩ := hc; replace hc := Ctx.sepF hc; replace hc := Ctx.puF hc; obtain ⟨u124, hc⟩ := hc; subst u124; have e126 := ptr_inj ha77 ha123; subst e126; replace hc : Ctx w74 (S_cache_Store.hp b81 y75 :: BigH (vPt S_cache_Store.hp).r hs76 j25 (IntKind.i64.wrap ((IntKind.i64.wrap (2 * (Int.tmod (IntKind.i64.wrap ((Int.tmod y49.At.Request 3) + 3)) 3))) + (Int.tmod (IntKind.i64.wrap ((Int.tmod y49.At.Layer 2) + 2)) 2))) :: Own (pAny 1) 24 (.slice (some ⟨b84, o85, none⟩) j16.length q19) hs76 :: B b71 (S_api_Spot.cz r69) 30 :: B b62 (S_law12_Act.cz y49 a58 q59 a60 q61) 33 :: hR .i8 a58 q59 y49.K :: hR .i8 a60 q61 y49.V :: S_cache_Store.hp b13 j24 :: P0 :: Fr) := hc; replace hc : Ctx w74 ((vPt S_cache_Store.hp).r [pt b81 0] y75 :: BigH (vPt S_cache_Store.hp).r hs76 j25 (IntKind.i64.wrap ((IntKind.i64.wrap (2 * (Int.tmod (IntKind.i64.wrap ((Int.tmod y49.At.Request 3) + 3)) 3))) + (Int.tmod (IntKind.i64.wrap ((Int.tmod y49.At.Layer 2) + 2)) 2))) :: Own (pAny 1) 24 (.slice (some ⟨b84, o85, none⟩) j16.length q19) hs76 :: B b71 (S_api_Spot.cz r69) 30 :: B b62 (S_law12_Act.cz y49 a58 q59 a60 q61) 33 :: hR .i8 a58 q59 y49.K :: hR .i8 a60 q61 y49.V :: S_cache_Store.hp b13 j24 :: P0 :: Fr) := Ctx.exB _ _ (Ctx.sepB (Ctx.puB rfl hc)); replace hc := hc.m [4, 4, 4]; replace hc := Ctx.bigB0 hc ha123 hy75; replace hc := Ctx.bigF hc hy100298; obtain ⟨a127, ha128, hc⟩ := hc; replace hc := Ctx.exF hc; obtain ⟨b130, hc⟩ := hc; replace hc := Ctx.sepF hc; replace hc := Ctx.puF hc; obtain ⟨u129, hc⟩ := hc; subst u129; replace hc : Ctx w74 ((vPt S_cache_Store.hp).r [pt b130 0] y100298 :: BigH (vPt S_cache_Store.hp).r hs76 j25 (IntKind.i64.wrap ((IntKind.i64.wrap (2 * (Int.tmod (IntKind.i64.wrap ((Int.tmod y49.At.Request 3) + 3)) 3))) + 1)) :: Own (pAny 1) 24 (.slice (some ⟨b84, o85, none⟩) j16.length q19) hs76 :: B b71 (S_api_Spot.cz r69) 30 :: B b62 (S_law12_Act.cz y49 a58 q59 a60 q61) 33 :: hR .i8 a58 q59 y49.K :: hR .i8 a60 q61 y49.V :: S_cache_Store.hp b13 j24 :: P0 :: Fr) := Ctx.exB _ _ (Ctx.sepB (Ctx.puB rfl hc)); replace hc := hc.m [4, 4, 4]; replace hc := Ctx.bigB0 hc ha128 hy100298; replace hc := Ctx.bigF hc hy75; obtain ⟨a131, ha132, hc⟩ := hc; replace hc := Ctx.exF hc; obtain ⟨b134, hc⟩ := hc; replace hc := Ctx.sepF hc; replace hc := Ctx.puF hc; obtain ⟨u133, hc⟩ := hc; subst u133; have e135 := ptr_inj ha123 ha132; subst e135; replace hc : Ctx w74 (S_cache_Store.hp b81 y75 :: BigH (vPt S_cache_Store.hp).r hs76 j25 (IntKind.i64.wrap ((IntKind.i64.wrap (2 * (Int.tmod (IntKind.i64.wrap ((Int.tmod y49.At.Request 3) + 3)) 3))) + (Int.tmod (IntKind.i64.wrap ((Int.tmod y49.At.Layer 2) + 2)) 2))) :: Own (pAny 1) 24 (.slice (some ⟨b84, o85, none⟩) j16.length q19) hs76 :: B b71 (S_api_Spot.cz r69) 30 :: B b62 (S_law12_Act.cz y49 a58 q59 a60 q61) 33 :: hR .i8 a58 q59 y49.K :: hR .i8 a60 q61 y49.V :: S_cache_Store.hp b13 j24 :: P0 :: Fr) := hc; replace hc := hc.drew; refine RGleaf [0, 1, 2, 3, 4, 5, 6, 7, 8, 9, 10, 11, 12, 13, 14, 15, 16, 17, 18] (fun j w' => (j = 4 → w'.cell? ⟨b84, o85 + ((IntKind.i64.wrap (2 * (Int.tmod (IntKind.i64.wrap ((Int.tmod y49.At.Request 3) + 3)) 3)))).toNat * 1 + 0, none⟩ = some (pt b121 0)) ∧ (j = 13 → w'.cell? ⟨b84, o85 + ((IntKind.i64.wrap ((IntKind.i64.wrap (2 * (Int.tmod (IntKind.i64.wrap ((Int.tmod y49.At.Request 3) + 3)) 3))) + 1))).toNat * 1 + 0, none⟩ = some (pt b130 0)) ∧ True) [0, 0, 2, 7, 15, 0, 32, 127, 0, 0, 512, 1536, 3840, 7936, 0, 16639, 65535, 131071, 262143] 0 0 (by kernel_rfl) (by kernel_rfl) (fun j hj => ⟨fun _ => Ctx.rdAny hc (k := 2) rfl rfl ha119 0 _ rfl, fun _ => Ctx.rdAny hc (k := 2) rfl rfl ha128 0 _ rfl, trivial⟩) ?_; generalize hw : World.drew w74 = w136 at *; clear hw; refine ad_ 3 rfl ?_; have hln := Ctx.rdLen hc (k := 2) rfl rfl reads_own; obtain ⟨b139, o140, u141, hi137, hi138⟩ := Ctx.rdAt hc (k := 2) rfl rfl reads_own ha119; clear hln; clear u141; refine ds rfl (fun w' hF => ixx rfl rfl U28 Z24 hi137 hi138 rfl) rfl <| ds rfl (fun w' hF => ld rfl G24 ((hF.1 rfl))) rfl <| ad_ 1 rfl ?_; refine deE (oneI hc U47 Z3 V3) rfl rfl ?_; clear hc; rintro _ w143 ⟨a142, rfl, hc⟩; refine ⟨fun j hj hb => ⟨fun _ => Ctx.rdAny hc (k := 3) rfl rfl ha119 0 _ rfl, fun _ => Ctx.rdAny hc (k := 3) rfl rfl ha128 0 _ rfl, trivial⟩, ?_⟩; replace hc := hc.m [2]; replace hc : Ctx w143 ((vPt S_cache_Store.hp).r [pt b81 0] y75 :: Own (pInt .i64) 3 (.slice a142 1 1) ([(Int.tmod (IntKind.i64.wrap ((Int.tmod y49.At.Request 3) + 3)) 3)]) :: BigH (vPt S_cache_Store.hp).r hs76 j25 (IntKind.i64.wrap ((IntKind.i64.wrap (2 * (Int.tmod (IntKind.i64.wrap ((Int.tmod y49.At.Request 3) + 3)) 3))) + (Int.tmod (IntKind.i64.wrap ((Int.tmod y49.At.Layer 2) + 2)) 2))) :: Own (pAny 1) 24 (.slice (some ⟨b84, o85, none⟩) j16.length q19) hs76 :: B b71 (S_api_Spot.cz r69) 30 :: B b62 (S_law12_Act.cz y49 a58 q59 a60 q61) 33 :: hR .i8 a58 q59 y49.K :: hR .i8 a60 q61 y49.V :: S_cache_Store.hp b13 j24 :: P0 :: Fr) := Ctx.exB _ _ (Ctx.sepB (Ctx.puB rfl hc)); replace hc := hc.m [6, 6, 4]; replace hc := Ctx.bigB0 hc ha132 hy75; replace hc := Ctx.bigF hc hy100294; obtain ⟨a144, ha145, hc⟩ := hc; replace hc := Ctx.exF hc; obtain ⟨b147, hc⟩ := hc; replace hc := Ctx.sepF hc; replace hc := Ctx.puF hc; obtain ⟨u146, hc⟩ := hc; subst u146; have e148 := ptr_inj ha119 ha145; subst e148; replace hc : Ctx w143 (S_cache_Store.hp b121 y100294 :: BigH (vPt S_cache_Store.hp).r hs76 j25 (IntKind.i64.wrap (2 * (Int.tmod (IntKind.i64.wrap ((Int.tmod y49.At.Request 3) + 3)) 3))) :: Own (pAny 1) 24 (.slice (some ⟨b84, o85, none⟩) j16.length q19) hs76 :: Own (pInt .i64) 3 (.slice a142 1 1) ([(Int.tmod (IntKind.i64.wrap ((Int.tmod y49.At.Request 3) + 3)) 3)]) :: B b71 (S_api_Spot.cz r69) 30 :: B b62 (S_law12_Act.cz y49 a58 q59 a60 q61) 33 :: hR .i8 a58 q59 y49.K :: hR .i8 a60 q61 y49.V :: S_cache_Store.hp b13 j24 :: P0 :: Fr) := hc; replace hc := hc.m [6, 2]; refine dc (cl C10 rfl rfl) rfl rfl ?_; refine cache_Store_Drop_any reads_own hc hr100295 ?_; clear hc; intro w149 hc; refine ⟨fun j hj hb => ⟨fun e => nja hj e, fun _ => Ctx.rdAny hc (k := 3) rfl rfl ha128 0 _ rfl, trivial⟩, ?_⟩; refine ad_ 4 rfl ?_; have hln := Ctx.rdLen hc (k := 3) rfl rfl reads_own; obtain ⟨b152, o153, u154, hi150, hi151⟩ := Ctx.rdAt hc (k := 3) rfl rfl reads_own ha128; clear hln; clear u154; refine ds rfl (fun w' hF => ixx rfl rfl U28 Z24 hi150 hi151 rfl) rfl <| ds rfl (fun w' hF => ld rfl G24 ((hF.2.1 rfl))) rfl <| ad_ 1 rfl ?_; refine deE (oneI hc U47 Z3 V3) rfl rfl ?_; clear hc; rintro _ w156 ⟨a155, rfl, hc⟩; refine ⟨fun j hj hb => ⟨fun e => nja hj e, fun _ => Ctx.rdAny hc (k := 4) rfl rfl ha128 0 _ rfl, trivial⟩, ?_⟩; replace hc := hc.m [2]; replace hc : Ctx w156 ((vPt S_cache_Store.hp).r [pt b121 0] r100295.2 :: Own (pInt .i64) 3 (.slice a155 1 1) ([(Int.tmod (IntKind.i64.wrap ((Int.tmod y49.At.Request 3) + 3)) 3)]) :: Own (pInt .i64) 3 (.slice a142 1 1) ([(Int.tmod (IntKind.i64.wrap ((Int.tmod y49.At.Request 3) + 3)) 3)]) :: BigH (vPt S_cache_Store.hp).r hs76 j25 (IntKind.i64.wrap (2 * (Int.tmod (IntKind.i64.wrap ((Int.tmod y49.At.Request 3) + 3)) 3))) :: Own (pAny 1) 24 (.slice (some ⟨b84, o85, none⟩) j16.length q19) hs76 :: B b71 (S_api_Spot.cz r69) 30 :: B b62 (S_law12_Act.cz y49 a58 q59 a60 q61) 33 :: hR .i8 a58 q59 y49.K :: hR .i8 a60 q61 y49.V :: S_cache_Store.hp b13 j24 :: P0 :: Fr) := Ctx.exB _ _ (Ctx.sepB (Ctx.puB rfl hc)); replace hc := hc.m [8, 8, 4]; replace hc := Ctx.bigB1 hc ha145 hy100294; replace hc := Ctx.bigF hc hy100296; obtain ⟨a157, ha158, hc⟩ := hc; replace hc := Ctx.exF hc; obtain ⟨b160, hc⟩ := hc; replace hc := Ctx.sepF hc; replace hc := Ctx.puF hc; obtain ⟨u159, hc⟩ := hc; subst u159; have e161 := ptr_inj ha128 ha158; subst e161; replace hc : Ctx w156 (S_cache_Store.hp b130 y100296 :: BigH (vPt S_cache_Store.hp).r hs76 (j25.set ((IntKind.i64.wrap (2 * (Int.tmod (IntKind.i64.wrap ((Int.tmod y49.At.Request 3) + 3)) 3)))).toNat r100295.2) (IntKind.i64.wrap ((IntKind.i64.wrap (2 * (Int.tmod (IntKind.i64.wrap ((Int.tmod y49.At.Request 3) + 3)) 3))) + 1)) :: Own (pAny 1) 24 (.slice (some ⟨b84, o85, none⟩) j16.length q19) hs76 :: Own (pInt .i64) 3 (.slice a155 1 1) ([(Int.tmod (IntKind.i64.wrap ((Int.tmod y49.At.Request 3) + 3)) 3)]) :: Own (pInt .i64) 3 (.slice a142 1 1) ([(Int.tmod (IntKind.i64.wrap ((Int.tmod y49.At.Request 3) + 3)) 3)]) :: B b71 (S_api_Spot.cz r69) 30 :: B b62 (S_law12_Act.cz y49 a58 q59 a60 q61) 33 :: hR .i8 a58 q59 y49.K :: hR .i8 a60 q61 y49.V :: S_cache_Store.hp b13 j24 :: P0 :: Fr) := hc; replace hc := hc.m [6, 2]; refine dc (cl C10 rfl rfl) rfl rfl ?_; refine cache_Store_Drop_any reads_own hc hr100297 ?_; clear hc; intro w162 hc; refine ⟨fun j hj hb => ⟨fun e => nja hj e, fun e => nja hj e, trivial⟩, ?_⟩; refine ad_ 2 rfl ?_; replace hc : Ctx w162 ((vPt S_cache_Store.hp).r [pt b130 0] r100297.2 :: Own (pInt .i64) 3 (.slice a155 1 1) ([(Int.tmod (IntKind.i64.wrap ((Int.tmod y49.At.Request 3) + 3)) 3)]) :: BigH (vPt S_cache_Store.hp).r hs76 (j25.set ((IntKind.i64.wrap (2 * (Int.tmod (IntKind.i64.wrap ((Int.tmod y49.At.Request 3) + 3)) 3)))).toNat r100295.2) (IntKind.i64.wrap ((IntKind.i64.wrap (2 * (Int.tmod (IntKind.i64.wrap ((Int.tmod y49.At.Request 3) + 3)) 3))) + 1)) :: Own (pAny 1) 24 (.slice (some ⟨b84, o85, none⟩) j16.length q19) hs76 :: Own (pInt .i64) 3 (.slice a142 1 1) ([(Int.tmod (IntKind.i64.wrap ((Int.tmod y49.At.Request 3) + 3)) 3)]) :: B b71 (S_api_Spot.cz r69) 30 :: B b62 (S_law12_Act.cz y49 a58 q59 a60 q61) 33 :: hR .i8 a58 q59 y49.K :: hR .i8 a60 q61 y49.V :: S_cache_Store.hp b13 j24 :: P0 :: Fr) := Ctx.exB _ _ (Ctx.sepB (Ctx.puB rfl hc)); replace hc := hc.m [6, 6, 4]; replace hc := Ctx.bigB1 hc ha158 hy100296; replace hc := Ctx.bigF hc hy100299; obtain ⟨a163, ha164, hc⟩ := hc; replace hc := Ctx.exF hc; obtain ⟨b166, hc⟩ := hc; replace hc := Ctx.sepF hc; replace hc := Ctx.puF hc; obtain ⟨u165, hc⟩ := hc; subst u165; have e167 := ptr_inj ha123 ha164; subst e167; replace hc : Ctx w162 (S_cache_Store.hp b81 y100299 :: BigH (vPt S_cache_Store.hp).r hs76 ((j25.set ((IntKind.i64.wrap (2 * (Int.tmod (IntKind.i64.wrap ((Int.tmod y49.At.Request 3) + 3)) 3)))).toNat r100295.2).set ((IntKind.i64.wrap ((IntKind.i64.wrap (2 * (Int.tmod (IntKind.i64.wrap ((Int.tmod y49.At.Request 3) + 3)) 3))) + 1))).toNat r100297.2) (IntKind.i64.wrap ((IntKind.i64.wrap (2 * (Int.tmod (IntKind.i64.wrap ((Int.tmod y49.At.Request 3) + 3)) 3))) + (Int.tmod (IntKind.i64.wrap ((Int.tmod y49.At.Layer 2) + 2)) 2))) :: Own (pAny 1) 24 (.slice (some ⟨b84, o85, none⟩) j16.length q19) hs76 :: Own (pInt .i64) 3 (.slice a155 1 1) ([(Int.tmod (IntKind.i64.wrap ((Int.tmod y49.At.Request 3) + 3)) 3)]) :: Own (pInt .i64) 3 (.slice a142 1 1) ([(Int.tmod (IntKind.i64.wrap ((Int.tmod y49.At.Request 3) + 3)) 3)]) :: B b71 (S_api_Spot.cz r69) 30 :: B b62 (S_law12_Act.cz y49 a58 q59 a60 q61) 33 :: hR .i8 a58 q59 y49.K :: hR .i8 a60 q61 y49.V :: S_cache_Store.hp b13 j24 :: P0 :: Fr) := hc; refine dn (qn ?_); replace hc := hc.m [17, 15, 13, 11, 9, 7]; exact ⟨⟨y100299, ((j25.set ((IntKind.i64.wrap (2 * (Int.tmod (IntKind.i64.wrap ((Int.tmod y49.At.Request 3) + 3)) 3)))).toNat r100295.2).set ((IntKind.i64.wrap ((IntKind.i64.wrap (2 * (Int.tmod (IntKind.i64.wrap ((Int.tmod y49.At.Request 3) + 3)) 3))) + 1))).toNat r100297.2), (IntKind.i64.wrap (r100295.1 + r100297.1)), rfl, hp, hc⟩, (kl rfl kb)⟩
                           · replace hc : Ctx w74 ((vPt S_cache_Store.hp).r [pt b81 0] y75 :: BigH (vPt S_cache_Store.hp).r hs76 j25 (IntKind.i64.wrap ((IntKind.i64.wrap (2 * (Int.tmod (IntKind.i64.wrap ((Int.tmod y49.At.Request 3) + 3)) 3))) + (Int.tmod (IntKind.i64.wrap ((Int.tmod y49.At.Layer 2) + 2)) 2))) :: Own (pAny 1) 24 (.slice (some ⟨b84, o85, none⟩) j16.length q19) hs76 :: B b71 (S_api_Spot.cz r69) 30 :: B b62 (S_law12_Act.cz y49 a58 q59 a60 q61) 33 :: hR .i8 a58 q59 y49.K :: hR .i8 a60 q61 y49.V :: S_cache_Store.hp b13 j24 :: P0 :: Fr) := Ctx.exB _ _ (Ctx.sepB (Ctx.puB rfl hc)); replace hc := hc.m [4, 4, 4]; replace hc := Ctx.bigB0 hc ha77 hy75; replace hc := Ctx.bigF hc hy100294; obtain ⟨a168, ha169, hc⟩ := hc; replace hc := Ctx.exF hc; obtain ⟨b171, hc⟩ := hc; replace hc := Ctx.sepF hc; replace hc := Ctx.puF hc; obtain ⟨u170, hc⟩ := hc; subst u170; replace hc : Ctx w74 ((vPt S_cache_Store.hp).r [pt b171 0] y100294 :: BigH (vPt S_cache_Store.hp).r hs76 j25 (IntKind.i64.wrap (2 * (Int.tmod (IntKind.i64.wrap ((Int.tmod y49.At.Request 3) + 3)) 3))) :: Own (pAny 1) 24 (.slice (some ⟨b84, o85, none⟩) j16.length q19) hs76 :: B b71 (S_api_Spot.cz r69) 30 :: B b62 (S_law12_Act.cz y49 a58 q59 a60 q61) 33 :: hR .i8 a58 q59 y49.K :: hR .i8 a60 q61 y49.V :: S_cache_Store.hp b13 j24 :: P0 :: Fr) := Ctx.exB _ _ (Ctx.sepB (Ctx.puB rfl hc)); replace hc := hc.m [4, 4, 4]; replace hc := Ctx.bigB0 hc ha169 hy100294; replace hc := Ctx.bigF hc hy75; obtain ⟨a172, ha173, hc⟩ := hc; replace hc := Ctx.exF hc; obtain ⟨b175, hc⟩ := hc; replace hc := Ctx.sepF hc; replace hc := Ctx.puF hc; obtain ⟨u174, hc⟩ := hc; subst u174; have e176 := ptr_inj ha77 ha173; subst e176; replace hc : Ctx w74 (S_cache_Store.hp b81 y75 :: BigH (vPt S_cache_Store.hp).r hs76 j25 (IntKind.i64.wrap ((IntKind.i64.wrap (2 * (Int.tmod (IntKind.i64.wrap ((Int.tmod y49.At.Request 3) + 3)) 3))) + (Int.tmod (IntKind.i64.wrap ((Int.tmod y49.At.Layer 2) + 2)) 2))) :: Own (pAny 1) 24 (.slice (some ⟨b84, o85, none⟩) j16.length q19) hs76 :: B b71 (S_api_Spot.cz r69) 30 :: B b62 (S_law12_Act.cz y49 a58 q59 a60 q61) 33 :: hR .i8 a58 q59 y49.K :: hR .i8 a60 q61 y49.V :: S_cache_Store.hp b13 j24 :: P0 :: Fr) := hc; replace hc : Ctx w74 ((vPt S_cache_Store.hp).r [pt b81 0] y75 :: BigH (vPt S_cache_Store.hp).r hs76 j25 (IntKind.i64.wrap ((IntKind.i64.wrap (2 * (Int.tmod (IntKind.i64.wrap ((Int.tmod y49.At.Request 3) + 3)) 3))) + (Int.tmod (IntKind.i64.wrap ((Int.tmod y49.At.Layer 2) + 2)) 2))) :: Own (pAny 1) 24 (.slice (some ⟨b84, o85, none⟩) j16.length q19) hs76 :: B b71 (S_api_Spot.cz r69) 30 :: B b62 (S_law12_Act.cz y49 a58 q59 a60 q61) 33 :: hR .i8 a58 q59 y49.K :: hR .i8 a60 q61 y49.V :: S_cache_Store.hp b13 j24 :: P0 :: Fr) := Ctx.exB _ _ (Ctx.sepB (Ctx.puB rfl hc)); replace hc := hc.m [4, 4, 4]; replace hc := Ctx.bigB0 hc ha173 hy75; replace hc := Ctx.bigF hc hy100298; obtain ⟨a177, ha178, hc⟩ := hc; replace hc := Ctx.exF hc; obtain ⟨b180, hc⟩ := hc; replace hc := Ctx.sepF hc; replace hc := Ctx.puF hc; obtain ⟨u179, hc⟩ := hc; subst u179; replace hc : Ctx w74 ((vPt S_cache_Store.hp).r [pt b180 0] y100298 :: BigH (vPt S_cache_Store.hp).r hs76 j25 (IntKind.i64.wrap ((IntKind.i64.wrap (2 * (Int.tmod (IntKind.i64.wrap ((Int.tmod y49.At.Request 3) + 3)) 3))) + 1)) :: Own (pAny 1) 24 (.slice (some ⟨b84, o85, none⟩) j16.length q19) hs76 :: B b71 (S_api_Spot.cz r69) 30 :: B b62 (S_law12_Act.cz y49 a58 q59 a60 q61) 33 :: hR .i8 a58 q59 y49.K :: hR .i8 a60 q61 y49.V :: S_cache_Store.hp b13 j24 :: P0 :: Fr) := Ctx.exB _ _ (Ctx.sepB (Ctx.puB rfl hc)); replace hc := hc.m [4, 4, 4]; replace hc := Ctx.bigB0 hc ha178 hy100298; replace hc := Ctx.bigF hc hy75; obtain ⟨a181, ha182, hc⟩ := hc; replace hc := Ctx.exF hc; obtain ⟨b184, hc⟩ := hc; replace hc := Ctx.sepF hc; replace hc := Ctx.puF hc; obtain ⟨u183, hc⟩ := hc; subst u183; have e185 := ptr_inj ha173 ha182; subst e185; replace hc : Ctx w74 (S_cache_Store.hp b81 y75 :: BigH (vPt S_cache_Store.hp).r hs76 j25 (IntKind.i64.wrap ((IntKind.i64.wrap (2 * (Int.tmod (IntKind.i64.wrap ((Int.tmod y49.At.Request 3) + 3)) 3))) + (Int.tmod (IntKind.i64.wrap ((Int.tmod y49.At.Layer 2) + 2)) 2))) :: Own (pAny 1) 24 (.slice (some ⟨b84, o85, none⟩) j16.length q19) hs76 :: B b71 (S_api_Spot.cz r69) 30 :: B b62 (S_law12_Act.cz y49 a58 q59 a60 q61) 33 :: hR .i8 a58 q59 y49.K :: hR .i8 a60 q61 y49.V :: S_cache_Store.hp b13 j24 :: P0 :: Fr) := hc; replace hc := hc.drew; refine RGleaf [0, 1, 2, 3, 4, 5, 6, 8, 9, 10, 11, 12, 13, 14, 15, 7, 16, 17, 18] (fun j w' => (j = 4 → w'.cell? ⟨b84, o85 + ((IntKind.i64.wrap (2 * (Int.tmod (IntKind.i64.wrap ((Int.tmod y49.At.Request 3) + 3)) 3)))).toNat * 1 + 0, none⟩ = some (pt b171 0)) ∧ (j = 12 → w'.cell? ⟨b84, o85 + ((IntKind.i64.wrap ((IntKind.i64.wrap (2 * (Int.tmod (IntKind.i64.wrap ((Int.tmod y49.At.Request 3) + 3)) 3))) + 1))).toNat * 1 + 0, none⟩ = some (pt b180 0)) ∧ True) [0, 0, 2, 7, 15, 0, 32, 0, 0, 256, 768, 1920, 3968, 0, 8288, 24703, 65535, 131071, 262143] 0 0 (by kernel_rfl) (by kernel_rfl) (fun j hj => ⟨fun _ => Ctx.rdAny hc (k := 2) rfl rfl ha169 0 _ rfl, fun _ => Ctx.rdAny hc (k := 2) rfl rfl ha178 0 _ rfl, trivial⟩) ?_; generalize hw : World.drew w74 = w186 at *; clear hw; refine ad_ 3 rfl ?_; have hln := Ctx.rdLen hc (k := 2) rfl rfl reads_own; obtain ⟨b189, o190, u191, hi187, hi188⟩ := Ctx.rdAt hc (k := 2) rfl rfl reads_own ha169; clear hln; clear u191; refine ds rfl (fun w' hF => ixx rfl rfl U28 Z24 hi187 hi188 rfl) rfl <| ds rfl (fun w' hF => ld rfl G24 ((hF.1 rfl))) rfl <| ad_ 1 rfl ?_; refine deE (oneI hc U47 Z3 V3) rfl rfl ?_; clear hc; rintro _ w193 ⟨a192, rfl, hc⟩; refine ⟨fun j hj hb => ⟨fun _ => Ctx.rdAny hc (k := 3) rfl rfl ha169 0 _ rfl, fun _ => Ctx.rdAny hc (k := 3) rfl rfl ha178 0 _ rfl, trivial⟩, ?_⟩; refine ad_ 4 rfl ?_; have hln := Ctx.rdLen hc (k := 3) rfl rfl reads_own; obtain ⟨b196, o197, u198, hi194, hi195⟩ := Ctx.rdAt hc (k := 3) rfl rfl reads_own ha178; clear hln; clear u198; refine ds rfl (fun w' hF => ixx rfl rfl U28 Z24 hi194 hi195 rfl) rfl <| ds rfl (fun w' hF => ld rfl G24 ((hF.2.1 rfl))) rfl <| ad_ 1 rfl ?_; refine deE (oneI hc U47 Z3 V3) rfl rfl ?_; clear hc; rintro _ w200 ⟨a199, rfl, hc⟩; refine ⟨fun j hj hb => ⟨fun _ => Ctx.rdAny hc (k := 4) rfl rfl ha169 0 _ rfl, fun _ => Ctx.rdAny hc (k := 4) rfl rfl ha178 0 _ rfl, trivial⟩, ?_⟩; replace hc := hc.m [4]; replace hc : Ctx w200 ((vPt S_cache_Store.hp).r [pt b81 0] y75 :: Own (pInt .i64) 3 (.slice a199 1 1) ([(Int.tmod (IntKind.i64.wrap ((Int.tmod y49.At.Request 3) + 3)) 3)]) :: Own (pInt .i64) 3 (.slice a192 1 1) ([(Int.tmod (IntKind.i64.wrap ((Int.tmod y49.At.Request 3) + 3)) 3)]) :: BigH (vPt S_cache_Store.hp).r hs76 j25 (IntKind.i64.wrap ((IntKind.i64.wrap (2 * (Int.tmod (IntKind.i64.wrap ((Int.tmod y49.At.Request 3) + 3)) 3))) + (Int.tmod (IntKind.i64.wrap ((Int.tmod y49.At.Layer 2) + 2)) 2))) :: Own (pAny 1) 24 (.slice (some ⟨b84, o85, none⟩) j16.length q19) hs76 :: B b71 (S_api_Spot.cz r69) 30 :: B b62 (S_law12_Act.cz y49 a58 q59 a60 q61) 33 :: hR .i8 a58 q59 y49.K :: hR .i8 a60 q61 y49.V :: S_cache_Store.hp b13 j24 :: P0 :: Fr) := Ctx.exB _ _ (Ctx.sepB (Ctx.puB rfl hc)); replace hc := hc.m [8, 8, 4]; replace hc := Ctx.bigB0 hc ha182 hy75; replace hc := Ctx.bigF hc hy100294; obtain ⟨a201, ha202, hc⟩ := hc; replace hc := Ctx.exF hc; obtain ⟨b204, hc⟩ := hc; replace hc := Ctx.sepF hc; replace hc := Ctx.puF hc; obtain ⟨u203, hc⟩ := hc; subst u203; have e205 := ptr_inj ha169 ha202; subst e205; replace hc : Ctx w200 (S_cache_Store.hp b171 y100294 :: BigH (vPt S_cache_Store.hp).r hs76 j25 (IntKind.i64.wrap (2 * (Int.tmod (IntKind.i64.wrap ((Int.tmod y49.At.Request 3) + 3)) 3))) :: Own (pAny 1) 24 (.slice (some ⟨b84, o85, none⟩) j16.length q19) hs76 :: Own (pInt .i64) 3 (.slice a199 1 1) ([(Int.tmod (IntKind.i64.wrap ((Int.tmod y49.At.Request 3) + 3)) 3)]) :: Own (pInt .i64) 3 (.slice a192 1 1) ([(Int.tmod (IntKind.i64.wrap ((Int.tmod y49.At.Request 3) + 3)) 3)]) :: B b71 (S_api_Spot.cz r69) 30 :: B b62 (S_law12_Act.cz y49 a58 q59 a60 q61) 33 :: hR .i8 a58 q59 y49.K :: hR .i8 a60 q61 y49.V :: S_cache_Store.hp b13 j24 :: P0 :: Fr) := hc; replace hc := hc.m [8, 2]; refine dc (cl C10 rfl rfl) rfl rfl ?_; refine cache_Store_Drop_any reads_own hc hr100295 ?_; clear hc; intro w206 hc; refine ⟨fun j hj hb => ⟨fun e => nja hj e, fun _ => Ctx.rdAny hc (k := 3) rfl rfl ha178 0 _ rfl, trivial⟩, ?_⟩; replace hc : Ctx w206 ((vPt S_cache_Store.hp).r [pt b171 0] r100295.2 :: Own (pInt .i64) 3 (.slice a192 1 1) ([(Int.tmod (IntKind.i64.wrap ((Int.tmod y49.At.Request 3) + 3)) 3)]) :: BigH (vPt S_cache_Store.hp).r hs76 j25 (IntKind.i64.wrap (2 * (Int.tmod (IntKind.i64.wrap ((Int.tmod y49.At.Request 3) + 3)) 3))) :: Own (pAny 1) 24 (.slice (some ⟨b84, o85, none⟩) j16.length q19) hs76 :: Own (pInt .i64) 3 (.slice a199 1 1) ([(Int.tmod (IntKind.i64.wrap ((Int.tmod y49.At.Request 3) + 3)) 3)]) :: B b71 (S_api_Spot.cz r69) 30 :: B b62 (S_law12_Act.cz y49 a58 q59 a60 q61) 33 :: hR .i8 a58 q59 y49.K :: hR .i8 a60 q61 y49.V :: S_cache_Store.hp b13 j24 :: P0 :: Fr) := Ctx.exB _ _ (Ctx.sepB (Ctx.puB rfl hc)); replace hc := hc.m [6, 6, 4]; replace hc := Ctx.bigB1 hc ha202 hy100294; replace hc := Ctx.bigF hc hy100296; obtain ⟨a207, ha208, hc⟩ := hc; replace hc := Ctx.exF hc; obtain ⟨b210, hc⟩ := hc; replace hc := Ctx.sepF hc; replace hc := Ctx.puF hc; obtain ⟨u209, hc⟩ := hc; subst u209; have e211 := ptr_inj ha178 ha208; subst e211; replace hc : Ctx w206 (S_cache_Store.hp b180 y100296 :: BigH (vPt S_cache_Store.hp).r hs76 (j25.set ((IntKind.i64.wrap (2 * (Int.tmod (IntKind.i64.wrap ((Int.tmod y49.At.Request 3) + 3)) 3)))).toNat r100295.2) (IntKind.i64.wrap ((IntKind.i64.wrap (2 * (Int.tmod (IntKind.i64.wrap ((Int.tmod y49.At.Request 3) + 3)) 3))) + 1)) :: Own (pAny 1) 24 (.slice (some ⟨b84, o85, none⟩) j16.length q19) hs76 :: Own (pInt .i64) 3 (.slice a192 1 1) ([(Int.tmod (IntKind.i64.wrap ((Int.tmod y49.At.Request 3) + 3)) 3)]) :: Own (pInt .i64) 3 (.slice a199 1 1) ([(Int.tmod (IntKind.i64.wrap ((Int.tmod y49.At.Request 3) + 3)) 3)]) :: B b71 (S_api_Spot.cz r69) 30 :: B b62 (S_law12_Act.cz y49 a58 q59 a60 q61) 33 :: hR .i8 a58 q59 y49.K :: hR .i8 a60 q61 y49.V :: S_cache_Store.hp b13 j24 :: P0 :: Fr) := hc; replace hc := hc.m [8, 2]; refine dc (cl C10 rfl rfl) rfl rfl ?_; refine cache_Store_Drop_any reads_own hc hr100297 ?_; clear hc; intro w212 hc; refine ⟨fun j hj hb => ⟨fun e => nja hj e, fun e => nja hj e, trivial⟩, ?_⟩; refine ad_ 2 rfl ?_; replace hc : Ctx w212 ((vPt S_cache_Store.hp).r [pt b180 0] r100297.2 :: Own (pInt .i64) 3 (.slice a199 1 1) ([(Int.tmod (IntKind.i64.wrap ((Int.tmod y49.At.Request 3) + 3)) 3)]) :: BigH (vPt S_cache_Store.hp).r hs76 (j25.set ((IntKind.i64.wrap (2 * (Int.tmod (IntKind.i64.wrap ((Int.tmod y49.At.Request 3) + 3)) 3)))).toNat r100295.2) (IntKind.i64.wrap ((IntKind.i64.wrap (2 * (Int.tmod (IntKind.i64.wrap ((Int.tmod y49.At.Request 3) + 3)) 3))) + 1)) :: Own (pAny 1) 24 (.slice (some ⟨b84, o85, none⟩) j16.length q19) hs76 :: Own (pInt .i64) 3 (.slice a192 1 1) ([(Int.tmod (IntKind.i64.wrap ((Int.tmod y49.At.Request 3) + 3)) 3)]) :: B b71 (S_api_Spot.cz r69) 30 :: B b62 (S_law12_Act.cz y49 a58 q59 a60 q61) 33 :: hR .i8 a58 q59 y49.K :: hR .i8 a60 q61 y49.V :: S_cache_Store.hp b13 j24 :: P0 :: Fr) := Ctx.exB _ _ (Ctx.sepB (Ctx.puB rfl hc)); replace hc := hc.m [6, 6, 4]; replace hc := Ctx.bigB1 hc ha208 hy100296; replace hc := Ctx.bigF hc hy100299; obtain ⟨a213, ha214, hc⟩ := hc; replace hc := Ctx.exF hc; obtain ⟨b216, hc⟩ := hc; replace hc := Ctx.sepF hc; replace hc := Ctx.puF hc; obtain ⟨u215, hc⟩ := hc; subst u215; have e217 := ptr_inj ha173 ha214; subst e217; replace hc : Ctx w212 (S_cache_Store.hp b81 y100299 :: BigH (vPt S_cache_Store.hp).r hs76 ((j25.set ((IntKind.i64.wrap (2 * (Int.tmod (IntKind.i64.wrap ((Int.tmod y49.At.Request 3) + 3)) 3)))).toNat r100295.2).set ((IntKind.i64.wrap ((IntKind.i64.wrap (2 * (Int.tmod (IntKind.i64.wrap ((Int.tmod y49.At.Request 3) + 3)) 3))) + 1))).toNat r100297.2) (IntKind.i64.wrap ((IntKind.i64.wrap (2 * (Int.tmod (IntKind.i64.wrap ((Int.tmod y49.At.Request 3) + 3)) 3))) + (Int.tmod (IntKind.i64.wrap ((Int.tmod y49.At.Layer 2) + 2)) 2))) :: Own (pAny 1) 24 (.slice (some ⟨b84, o85, none⟩) j16.length q19) hs76 :: Own (pInt .i64) 3 (.slice a199 1 1) ([(Int.tmod (IntKind.i64.wrap ((Int.tmod y49.At.Request 3) + 3)) 3)]) :: Own (pInt .i64) 3 (.slice a192 1 1) ([(Int.tmod (IntKind.i64.wrap ((Int.tmod y49.At.Request 3) + 3)) 3)]) :: B b71 (S_api_Spot.cz r69) 30 :: B b62 (S_law12_Act.cz y49 a58 q59 a60 q61) 33 :: hR .i8 a58 q59 y49.K :: hR .i8 a60 q61 y49.V :: S_cache_Store.hp b13 j24 :: P0 :: Fr) := hc; refine dn (qn ?_); replace hc := hc.m [17, 15, 13, 11, 9, 7]; exact ⟨⟨y100299, ((j25.set ((IntKind.i64.wrap (2 * (Int.tmod (IntKind.i64.wrap ((Int.tmod y49.At.Request 3) + 3)) 3)))).toNat r100295.2).set ((IntKind.i64.wrap ((IntKind.i64.wrap (2 * (Int.tmod (IntKind.i64.wrap ((Int.tmod y49.At.Request 3) + 3)) 3))) + 1))).toNat r100297.2), (IntKind.i64.wrap (r100295.1 + r100297.1)), rfl, hp, hc⟩, (kl rfl kb)⟩
                         · replace hc : Ctx w74 ((vPt S_cache_Store.hp).r [pt b81 0] y75 :: BigH (vPt S_cache_Store.hp).r hs76 j25 (IntKind.i64.wrap ((IntKind.i64.wrap (2 * (Int.tmod (IntKind.i64.wrap ((Int.tmod y49.At.Request 3) + 3)) 3))) + (Int.tmod (IntKind.i64.wrap ((Int.tmod y49.At.Layer 2) + 2)) 2))) :: Own (pAny 1) 24 (.slice (some ⟨b84, o85, none⟩) j16.length q19) hs76 :: B b71 (S_api_Spot.cz r69) 30 :: B b62 (S_law12_Act.cz y49 a58 q59 a60 q61) 33 :: hR .i8 a58 q59 y49.K :: hR .i8 a60 q61 y49.V :: S_cache_Store.hp b13 j24 :: P0 :: Fr) := Ctx.exB _ _ (Ctx.sepB (Ctx.puB rfl hc)); replace hc := hc.m [4, 4, 4]; replace hc := Ctx.bigB0 hc ha77 hy75; replace hc := Ctx.bigF hc hy100294; obtain ⟨a218, ha219, hc⟩ := hc; replace hc := Ctx.exF hc; obtain ⟨b221, hc⟩ := hc; replace hc := Ctx.sepF hc; replace hc := Ctx.puF hc; obtain ⟨u220, hc⟩ := hc; subst u220; replace hc : Ctx w74 ((vPt S_cache_Store.hp).r [pt b221 0] y100294 :: BigH (vPt S_cache_Store.hp).r hs76 j25 (IntKind.i64.wrap (2 * (Int.tmod (IntKind.i64.wrap ((Int.tmod y49.At.Request 3) + 3)) 3))) :: Own (pAny 1) 24 (.slice (some ⟨b84, o85, none⟩) j16.length q19) hs76 :: B b71 (S_api_Spot.cz r69) 30 :: B b62 (S_law12_Act.cz y49 a58 q59 a60 q61) 33 :: hR .i8 a58 q59 y49.K :: hR .i8 a60 q61 y49.V :: S_cache_Store.hp b13 j24 :: P0 :: Fr) := Ctx.exB _ _ (Ctx.sepB (Ctx.puB rfl hc)); replace hc := hc.m [4, 4, 4]; replace hc := Ctx.bigB0 hc ha219 hy100294; replace hc := Ctx.bigF hc hy75; obtain ⟨a222, ha223, hc⟩ := hc; replace hc := Ctx.exF hc; obtain ⟨b225, hc⟩ := hc; replace hc := Ctx.sepF hc; replace hc := Ctx.puF hc; obtain ⟨u224, hc⟩ := hc; subst u224; have e226 := ptr_inj ha77 ha223; subst e226; replace hc : Ctx w74 (S_cache_Store.hp b81 y75 :: BigH (vPt S_cache_Store.hp).r hs76 j25 (IntKind.i64.wrap ((IntKind.i64.wrap (2 * (Int.tmod (IntKind.i64.wrap ((Int.tmod y49.At.Request 3) + 3)) 3))) + (Int.tmod (IntKind.i64.wrap ((Int.tmod y49.At.Layer 2) + 2)) 2))) :: Own (pAny 1) 24 (.slice (some ⟨b84, o85, none⟩) j16.length q19) hs76 :: B b71 (S_api_Spot.cz r69) 30 :: B b62 (S_law12_Act.cz y49 a58 q59 a60 q61) 33 :: hR .i8 a58 q59 y49.K :: hR .i8 a60 q61 y49.V :: S_cache_Store.hp b13 j24 :: P0 :: Fr) := hc; replace hc : Ctx w74 ((vPt S_cache_Store.hp).r [pt b81 0] y75 :: BigH (vPt S_cache_Store.hp).r hs76 j25 (IntKind.i64.wrap ((IntKind.i64.wrap (2 * (Int.tmod (IntKind.i64.wrap ((Int.tmod y49.At.Request 3) + 3)) 3))) + (Int.tmod (IntKind.i64.wrap ((Int.tmod y49.At.Layer 2) + 2)) 2))) :: Own (pAny 1) 24 (.slice (some ⟨b84, o85, none⟩) j16.length q19) hs76 :: B b71 (S_api_Spot.cz r69) 30 :: B b62 (S_law12_Act.cz y49 a58 q59 a60 q61) 33 :: hR .i8 a58 q59 y49.K :: hR .i8 a60 q61 y49.V :: S_cache_Store.hp b13 j24 :: P0 :: Fr) := Ctx.exB _ _ (Ctx.sepB (Ctx.puB rfl hc)); replace hc := hc.m [4, 4, 4]; replace hc := Ctx.bigB0 hc ha223 hy75; replace hc := Ctx.bigF hc hy100298; obtain ⟨a227, ha228, hc⟩ := hc; replace hc := Ctx.exF hc; obtain ⟨b230, hc⟩ := hc; replace hc := Ctx.sepF hc; replace hc := Ctx.puF hc; obtain ⟨u229, hc⟩ := hc; subst u229; replace hc : Ctx w74 ((vPt S_cache_Store.hp).r [pt b230 0] y100298 :: BigH (vPt S_cache_Store.hp).r hs76 j25 (IntKind.i64.wrap ((IntKind.i64.wrap (2 * (Int.tmod (IntKind.i64.wrap ((Int.tmod y49.At.Request 3) + 3)) 3))) + 1)) :: Own (pAny 1) 24 (.slice (some ⟨b84, o85, none⟩) j16.length q19) hs76 :: B b71 (S_api_Spot.cz r69) 30 :: B b62 (S_law12_Act.cz y49 a58 q59 a60 q61) 33 :: hR .i8 a58 q59 y49.K :: hR .i8 a60 q61 y49.V :: S_cache_Store.hp b13 j24 :: P0 :: Fr) := Ctx.exB _ _ (Ctx.sepB (Ctx.puB rfl hc)); replace hc := hc.m [4, 4, 4]; replace hc := Ctx.bigB0 hc ha228 hy100298; replace hc := Ctx.bigF hc hy75; obtain ⟨a231, ha232, hc⟩ := hc; replace hc := Ctx.exF hc; obtain ⟨b234, hc⟩ := hc; replace hc := Ctx.sepF hc; replace hc := Ctx.puF hc; obtain ⟨u233, hc⟩ := hc; subst u233; have e235 := ptr_inj ha223 ha232; subst e235; replace hc : Ctx w74 (S_cache_Store.hp b81 y75 :: BigH (vPt S_cache_Store.hp).r hs76 j25 (IntKind.i64.wrap ((IntKind.i64.wrap (2 * (Int.tmod (IntKind.i64.wrap ((Int.tmod y49.At.Request 3) + 3)) 3))) + (Int.tmod (IntKind.i64.wrap ((Int.tmod y49.At.Layer 2) + 2)) 2))) :: Own (pAny 1) 24 (.slice (some ⟨b84, o85, none⟩) j16.length q19) hs76 :: B b71 (S_api_Spot.cz r69) 30 :: B b62 (S_law12_Act.cz y49 a58 q59 a60 q61) 33 :: hR .i8 a58 q59 y49.K :: hR .i8 a60 q61 y49.V :: S_cache_Store.hp b13 j24 :: P0 :: Fr) := hc; replace hc := hc.drew; refine RGleaf [0, 1, 2, 3, 4, 5, 8, 9, 10, 11, 12, 13, 14, 15, 6, 7, 16, 17, 18] (fun j w' => (j = 4 → w'.cell? ⟨b84, o85 + ((IntKind.i64.wrap (2 * (Int.tmod (IntKind.i64.wrap ((Int.tmod y49.At.Request 3) + 3)) 3)))).toNat * 1 + 0, none⟩ = some (pt b221 0)) ∧ (j = 11 → w'.cell? ⟨b84, o85 + ((IntKind.i64.wrap ((IntKind.i64.wrap (2 * (Int.tmod (IntKind.i64.wrap ((Int.tmod y49.At.Request 3) + 3)) 3))) + 1))).toNat * 1 + 0, none⟩ = some (pt b230 0)) ∧ True) [0, 0, 2, 7, 15, 0, 0, 0, 128, 384, 960, 1984, 0, 4096, 12320, 28735, 65535, 131071, 262143] 0 0 (by kernel_rfl) (by kernel_rfl) (fun j hj => ⟨fun _ => Ctx.rdAny hc (k := 2) rfl rfl ha219 0 _ rfl, fun _ => Ctx.rdAny hc (k := 2) rfl rfl ha228 0 _ rfl, trivial⟩) ?_; generalize hw : World.drew w74 = w236 at *; clear hw; refine ad_ 3 rfl ?_; have hln := Ctx.rdLen hc (k := 2) rfl rfl reads_own; obtain ⟨b239, o240, u241, hi237, hi238⟩ := Ctx.rdAt hc (k := 2) rfl rfl reads_own ha219; clear hln; clear u241; refine ds rfl (fun w' hF => ixx rfl rfl U28 Z24 hi237 hi238 rfl) rfl <| ds rfl (fun w' hF => ld rfl G24 ((hF.1 rfl))) rfl <| ad_ 5 rfl ?_; have hln := Ctx.rdLen hc (k := 2) rfl rfl reads_own; obtain ⟨b244, o245, u246, hi242, hi243⟩ := Ctx.rdAt hc (k := 2) rfl rfl reads_own ha228; clear hln; clear u246; refine ds rfl (fun w' hF => ixx rfl rfl U28 Z24 hi242 hi243 rfl) rfl <| ds rfl (fun w' hF => ld rfl G24 ((hF.2.1 rfl))) rfl <| ad_ 1 rfl ?_; refine deE (oneI hc U47 Z3 V3) rfl rfl ?_; clear hc; rintro _ w248 ⟨a247, rfl, hc⟩; refine ⟨fun j hj hb => ⟨fun _ => Ctx.rdAny hc (k := 3) rfl rfl ha219 0 _ rfl, fun _ => Ctx.rdAny hc (k := 3) rfl rfl ha228 0 _ rfl, trivial⟩, ?_⟩; refine deE (oneI hc U47 Z3 V3) rfl rfl ?_; clear hc; rintro _ w250 ⟨a249, rfl, hc⟩; refine ⟨fun j hj hb => ⟨fun _ => Ctx.rdAny hc (k := 4) rfl rfl ha219 0 _ rfl, fun _ => Ctx.rdAny hc (k := 4) rfl rfl ha228 0 _ rfl, trivial⟩, ?_⟩; replace hc := hc.m [4]; replace hc : Ctx w250 ((vPt S_cache_Store.hp).r [pt b81 0] y75 :: Own (pInt .i64) 3 (.slice a249 1 1) ([(Int.tmod (IntKind.i64.wrap ((Int.tmod y49.At.Request 3) + 3)) 3)]) :: Own (pInt .i64) 3 (.slice a247 1 1) ([(Int.tmod (IntKind.i64.wrap ((Int.tmod y49.At.Request 3) + 3)) 3)]) :: BigH (vPt S_cache_Store.hp).r hs76 j25 (IntKind.i64.wrap ((IntKind.i64.wrap (2 * (Int.tmod (IntKind.i64.wrap ((Int.tmod y49.At.Request 3) + 3)) 3))) + (Int.tmod (IntKind.i64.wrap ((Int.tmod y49.At.Layer 2) + 2)) 2))) :: Own (pAny 1) 24 (.slice (some ⟨b84, o85, none⟩) j16.length q19) hs76 :: B b71 (S_api_Spot.cz r69) 30 :: B b62 (S_law12_Act.cz y49 a58 q59 a60 q61) 33 :: hR .i8 a58 q59 y49.K :: hR .i8 a60 q61 y49.V :: S_cache_Store.hp b13 j24 :: P0 :: Fr) := Ctx.exB _ _ (Ctx.sepB (Ctx.puB rfl hc)); replace hc := hc.m [8, 8, 4]; replace hc := Ctx.bigB0 hc ha232 hy75; replace hc := Ctx.bigF hc hy100294; obtain ⟨a251, ha252, hc⟩ := hc; replace hc := Ctx.exF hc; obtain ⟨b254, hc⟩ := hc; replace hc := Ctx.sepF hc; replace hc := Ctx.puF hc; obtain ⟨u253, hc⟩ := hc; subst u253; have e255 := ptr_inj ha219 ha252; subst e255; replace hc : Ctx w250 (S_cache_Store.hp b221 y100294 :: BigH (vPt S_cache_Store.hp).r hs76 j25 (IntKind.i64.wrap (2 * (Int.tmod (IntKind.i64.wrap ((Int.tmod y49.At.Request 3) + 3)) 3))) :: Own (pAny 1) 24 (.slice (some ⟨b84, o85, none⟩) j16.length q19) hs76 :: Own (pInt .i64) 3 (.slice a249 1 1) ([(Int.tmod (IntKind.i64.wrap ((Int.tmod y49.At.Request 3) + 3)) 3)]) :: Own (pInt .i64) 3 (.slice a247 1 1) ([(Int.tmod (IntKind.i64.wrap ((Int.tmod y49.At.Request 3) + 3)) 3)]) :: B b71 (S_api_Spot.cz r69) 30 :: B b62 (S_law12_Act.cz y49 a58 q59 a60 q61) 33 :: hR .i8 a58 q59 y49.K :: hR .i8 a60 q61 y49.V :: S_cache_Store.hp b13 j24 :: P0 :: Fr) := hc; replace hc := hc.m [6, 2]; refine dc (cl C10 rfl rfl) rfl rfl ?_; refine cache_Store_Drop_any reads_own hc hr100295 ?_; clear hc; intro w256 hc; refine ⟨fun j hj hb => ⟨fun e => nja hj e, fun _ => Ctx.rdAny hc (k := 3) rfl rfl ha228 0 _ rfl, trivial⟩, ?_⟩; replace hc : Ctx w256 ((vPt S_cache_Store.hp).r [pt b221 0] r100295.2 :: Own (pInt .i64) 3 (.slice a249 1 1) ([(Int.tmod (IntKind.i64.wrap ((Int.tmod y49.At.Request 3) + 3)) 3)]) :: BigH (vPt S_cache_Store.hp).r hs76 j25 (IntKind.i64.wrap (2 * (Int.tmod (IntKind.i64.wrap ((Int.tmod y49.At.Request 3) + 3)) 3))) :: Own (pAny 1) 24 (.slice (some ⟨b84, o85, none⟩) j16.length q19) hs76 :: Own (pInt .i64) 3 (.slice a247 1 1) ([(Int.tmod (IntKind.i64.wrap ((Int.tmod y49.At.Request 3) + 3)) 3)]) :: B b71 (S_api_Spot.cz r69) 30 :: B b62 (S_law12_Act.cz y49 a58 q59 a60 q61) 33 :: hR .i8 a58 q59 y49.K :: hR .i8 a60 q61 y49.V :: S_cache_Store.hp b13 j24 :: P0 :: Fr) := Ctx.exB _ _ (Ctx.sepB (Ctx.puB rfl hc)); replace hc := hc.m [6, 6, 4]; replace hc := Ctx.bigB1 hc ha252 hy100294; replace hc := Ctx.bigF hc hy100296; obtain ⟨a257, ha258, hc⟩ := hc; replace hc := Ctx.exF hc; obtain ⟨b260, hc⟩ := hc; replace hc := Ctx.sepF hc; replace hc := Ctx.puF hc; obtain ⟨u259, hc⟩ := hc; subst u259; have e261 := ptr_inj ha228 ha258; subst e261; replace hc : Ctx w256 (S_cache_Store.hp b230 y100296 :: BigH (vPt S_cache_Store.hp).r hs76 (j25.set ((IntKind.i64.wrap (2 * (Int.tmod (IntKind.i64.wrap ((Int.tmod y49.At.Request 3) + 3)) 3)))).toNat r100295.2) (IntKind.i64.wrap ((IntKind.i64.wrap (2 * (Int.tmod (IntKind.i64.wrap ((Int.tmod y49.At.Request 3) + 3)) 3))) + 1)) :: Own (pAny 1) 24 (.slice (some ⟨b84, o85, none⟩) j16.length q19) hs76 :: Own (pInt .i64) 3 (.slice a249 1 1) ([(Int.tmod (IntKind.i64.wrap ((Int.tmod y49.At.Request 3) + 3)) 3)]) :: Own (pInt .i64) 3 (.slice a247 1 1) ([(Int.tmod (IntKind.i64.wrap ((Int.tmod y49.At.Request 3) + 3)) 3)]) :: B b71 (S_api_Spot.cz r69) 30 :: B b62 (S_law12_Act.cz y49 a58 q59 a60 q61) 33 :: hR .i8 a58 q59 y49.K :: hR .i8 a60 q61 y49.V :: S_cache_Store.hp b13 j24 :: P0 :: Fr) := hc; replace hc := hc.m [8, 2]; refine dc (cl C10 rfl rfl) rfl rfl ?_; refine cache_Store_Drop_any reads_own hc hr100297 ?_; clear hc; intro w262 hc; refine ⟨fun j hj hb => ⟨fun e => nja hj e, fun e => nja hj e, trivial⟩, ?_⟩; refine ad_ 2 rfl ?_; replace hc : Ctx w262 ((vPt S_cache_Store.hp).r [pt b230 0] r100297.2 :: Own (pInt .i64) 3 (.slice a247 1 1) ([(Int.tmod (IntKind.i64.wrap ((Int.tmod y49.At.Request 3) + 3)) 3)]) :: BigH (vPt S_cache_Store.hp).r hs76 (j25.set ((IntKind.i64.wrap (2 * (Int.tmod (IntKind.i64.wrap ((Int.tmod y49.At.Request 3) + 3)) 3)))).toNat r100295.2) (IntKind.i64.wrap ((IntKind.i64.wrap (2 * (Int.tmod (IntKind.i64.wrap ((Int.tmod y49.At.Request 3) + 3)) 3))) + 1)) :: Own (pAny 1) 24 (.slice (some ⟨b84, o85, none⟩) j16.length q19) hs76 :: Own (pInt .i64) 3 (.slice a249 1 1) ([(Int.tmod (IntKind.i64.wrap ((Int.tmod y49.At.Request 3) + 3)) 3)]) :: B b71 (S_api_Spot.cz r69) 30 :: B b62 (S_law12_Act.cz y49 a58 q59 a60 q61) 33 :: hR .i8 a58 q59 y49.K :: hR .i8 a60 q61 y49.V :: S_cache_Store.hp b13 j24 :: P0 :: Fr) := Ctx.exB _ _ (Ctx.sepB (Ctx.puB rfl hc)); replace hc := hc.m [6, 6, 4]; replace hc := Ctx.bigB1 hc ha258 hy100296; replace hc := Ctx.bigF hc hy100299; obtain ⟨a263, ha264, hc⟩ := hc; replace hc := Ctx.exF hc; obtain ⟨b266, hc⟩ := hc; replace hc := Ctx.sepF hc; replace hc := Ctx.puF hc; obtain ⟨u265, hc⟩ := hc; subst u265; have e267 := ptr_inj ha223 ha264; subst e267; replace hc : Ctx w262 (S_cache_Store.hp b81 y100299 :: BigH (vPt S_cache_Store.hp).r hs76 ((j25.set ((IntKind.i64.wrap (2 * (Int.tmod (IntKind.i64.wrap ((Int.tmod y49.At.Request 3) + 3)) 3)))).toNat r100295.2).set ((IntKind.i64.wrap ((IntKind.i64.wrap (2 * (Int.tmod (IntKind.i64.wrap ((Int.tmod y49.At.Request 3) + 3)) 3))) + 1))).toNat r100297.2) (IntKind.i64.wrap ((IntKind.i64.wrap (2 * (Int.tmod (IntKind.i64.wrap ((Int.tmod y49.At.Request 3) + 3)) 3))) + (Int.tmod (IntKind.i64.wrap ((Int.tmod y49.At.Layer 2) + 2)) 2))) :: Own (pAny 1) 24 (.slice (some ⟨b84, o85, none⟩) j16.length q19) hs76 :: Own (pInt .i64) 3 (.slice a247 1 1) ([(Int.tmod (IntKind.i64.wrap ((Int.tmod y49.At.Request 3) + 3)) 3)]) :: Own (pInt .i64) 3 (.slice a249 1 1) ([(Int.tmod (IntKind.i64.wrap ((Int.tmod y49.At.Request 3) + 3)) 3)]) :: B b71 (S_api_Spot.cz r69) 30 :: B b62 (S_law12_Act.cz y49 a58 q59 a60 q61) 33 :: hR .i8 a58 q59 y49.K :: hR .i8 a60 q61 y49.V :: S_cache_Store.hp b13 j24 :: P0 :: Fr) := hc; refine dn (qn ?_); replace hc := hc.m [17, 15, 13, 11, 9, 7]; exact ⟨⟨y100299, ((j25.set ((IntKind.i64.wrap (2 * (Int.tmod (IntKind.i64.wrap ((Int.tmod y49.At.Request 3) + 3)) 3)))).toNat r100295.2).set ((IntKind.i64.wrap ((IntKind.i64.wrap (2 * (Int.tmod (IntKind.i64.wrap ((Int.tmod y49.At.Request 3) + 3)) 3))) + 1))).toNat r100297.2), (IntKind.i64.wrap (r100295.1 + r100297.1)), rfl, hp, hc⟩, (kl rfl kb)⟩
                       · clear hp hc; intro vs u w268 hJ; obtain ⟨j115, j116, j117, rfl, hp, hc⟩ := hJ; unfold law12_CacheApart.J4 at hp; replace hp := bind_some hp; obtain ⟨y269, hy269, hp⟩ := hp; refine Wseq (Wreg ?_); refine au 2 rfl ?_; refine rsE (oneI hc U47 Z3 V3) rfl ?_; clear hc; rintro _ w271 ⟨a270, rfl, hc⟩; replace hp := bind_some hp; obtain ⟨r272, hr272, hp⟩ := hp; replace hc := hc.m [8]; refine kz C10 ?_; refine cache_Store_Drop_any reads_own hc hr272 ?_; clear hc; intro w273 hc; refine au 2 rfl <| rn (qn ?_); refine Wif hp (fun _ h => ?_) fun _ h => ?_
                         · replace hp := h; clear h; refine Wskip (qn (Wseq (Wreg ?_))); refine au 3 rfl ?_; replace hp := bind_some hp; obtain ⟨r275, hr275, hp⟩ := hp; refine kz C12 ?_; refine cache_Store_Line_any hc hr275 ?_; clear hc; intro a276 n277 q278 a279 n280 q281 w282 hc; have u283 := Ctx.ownVLen' hc (k := 0) rfl rfl; subst u283; have u284 := Ctx.ownVLen' hc (k := 1) rfl rfl; subst u284; refine au 5 rfl <| rn (qn (Wseq (Wreg ?_))); refine au 3 rfl ?_; replace hp := bind_some hp; obtain ⟨r285, hr285, hp⟩ := hp; replace hc := hc.m [8]; refine kz C12 ?_; refine cache_Store_Line_any hc hr285 ?_; clear hc; intro a286 n287 q288 a289 n290 q291 w292 hc; have u293 := Ctx.ownVLen' hc (k := 0) rfl rfl; subst u293; have u294 := Ctx.ownVLen' hc (k := 1) rfl rfl; subst u294; refine au 5 rfl <| rn (qn (Wseq (Wreg ?_))); refine au 1 rfl <| sz (ln rfl U37) <| au 1 rfl <| sz (ln rfl U37) <| au 1 rfl <| rn (qn ?_); refine Wif hp (fun _ h => ?_) fun _ h => ?_
                           · replace hp := h; clear h; refine Wskip (bn (qn (Wreg ?_))); refine au 3 rfl <| rn (qn ?_); replace hc := hc.m [4]; replace hc : Ctx w292 ((vPt S_cache_Store.hp).r [pt b81 0] j115 :: OwnV (vOwn (pInt .i8) 42) 31 (.slice a286 r285.1.length q288) r285.1 :: OwnV (vOwn (pInt .i8) 42) 31 (.slice a289 r285.2.length q291) r285.2 :: OwnV (vOwn (pInt .i8) 42) 31 (.slice a276 r275.1.length q278) r275.1 :: OwnV (vOwn (pInt .i8) 42) 31 (.slice a279 r275.2.length q281) r275.2 :: S_cache_Store.hp b13 r272.2 :: Own (pInt .i64) 3 (.slice a270 1 1) ([(Int.tmod (IntKind.i64.wrap ((Int.tmod y49.At.Request 3) + 3)) 3)]) :: BigH (vPt S_cache_Store.hp).r hs76 j116 (IntKind.i64.wrap ((IntKind.i64.wrap (2 * (Int.tmod (IntKind.i64.wrap ((Int.tmod y49.At.Request 3) + 3)) 3))) + (Int.tmod (IntKind.i64.wrap ((Int.tmod y49.At.Layer 2) + 2)) 2))) :: Own (pAny 1) 24 (.slice (some ⟨b84, o85, none⟩) j16.length q19) hs76 :: P0 :: Fr) := Ctx.exB _ _ (Ctx.sepB (Ctx.puB rfl hc)); replace hc := hc.m [16, 16, 4]; replace hc := Ctx.bigB1 hc ha77 hy269; replace hc : Ctx w292 (OwnV (vPt S_cache_Store.hp) 24 (.slice (some ⟨b84, o85, none⟩) j16.length q19) (j116.set ((IntKind.i64.wrap ((IntKind.i64.wrap (2 * (Int.tmod (IntKind.i64.wrap ((Int.tmod y49.At.Request 3) + 3)) 3))) + (Int.tmod (IntKind.i64.wrap ((Int.tmod y49.At.Layer 2) + 2)) 2)))).toNat j115) :: OwnV (vOwn (pInt .i8) 42) 31 (.slice a286 r285.1.length q288) r285.1 :: OwnV (vOwn (pInt .i8) 42) 31 (.slice a289 r285.2.length q291) r285.2 :: OwnV (vOwn (pInt .i8) 42) 31 (.slice a276 r275.1.length q278) r275.1 :: OwnV (vOwn (pInt .i8) 42) 31 (.slice a279 r275.2.length q281) r275.2 :: S_cache_Store.hp b13 r272.2 :: Own (pInt .i64) 3 (.slice a270 1 1) ([(Int.tmod (IntKind.i64.wrap ((Int.tmod y49.At.Request 3) + 3)) 3)]) :: P0 :: Fr) := Ctx.ownVB hc.swap; replace hc := hc.m [13, 9, 7, 5, 3, 4, 4]; exact ⟨m2, Nat.lt_succ_self _, ⟨r272.2, (j116.set ((IntKind.i64.wrap ((IntKind.i64.wrap (2 * (Int.tmod (IntKind.i64.wrap ((Int.tmod y49.At.Request 3) + 3)) 3))) + (Int.tmod (IntKind.i64.wrap ((Int.tmod y49.At.Layer 2) + 2)) 2)))).toNat j115), (IntKind.i64.wrap (j26 + 1)), rfl, hp, hc⟩, (kl rfl (km rfl (kl rfl k0)))⟩
                           · replace hp := h; clear h; refine Wseq (Wreg ?_); refine au 1 rfl <| rn (qn (Wret (br (qr (qr (br (qr ?_))))))); replace hc := hc.m [17, 15, 13, 11, 9, 7, 5, 3, 1]; obtain rfl := sj hp; exact fz R3 M3 (k _ hc)
                         · replace hp := h; clear h; refine Wseq (Wreg ?_); refine au 1 rfl <| rn (qn (Wret (qr (br (qr (qr (br (qr ?_)))))))); replace hc := hc.m [9, 7, 5, 3, 1]; obtain rfl := sj hp; exact fz R3 M3 (k _ hc)
                   · replace hp := h; clear h; refine Wseq (Wreg ?_); refine au 1 rfl <| rn (qn (Wret (qr (br (qr (qr (br (qr ?_)))))))); replace hc := hc.m [11, 7, 5, 3, 1]; obtain rfl := sj hp; exact fz R3 M3 (k _ hc)
                 · replace hp := gpos hp (of_decide_eq_true hb66); (iterate 4 refine r0 rfl ?_); refine au 1 rfl <| rn (qn (Wct rfl (Wseq (Wreg ?_)))); refine au 1 rfl <| rn (qn (Wret (qr (br (qr (qr (br (qr ?_)))))))); replace hc := hc.m [11, 7, 5, 3, 1]; obtain rfl := sj hp; exact fz R3 M3 (k _ hc)
           · replace hp := h; clear h; refine Wskip (qn (Wseq (Wblk (Wseq (Wreg ?_))))); replace hp := bind_some hp; obtain ⟨r296, hr296, hp⟩ := hp; refine kz C8 ?_; refine cache_New_any hc hr296 ?_; clear hc; intro v297 w298 hc; refine au 5 rfl <| rn (qn (Wseq (Wseq (Wreg ?_)))); refine au 1 rfl ?_; cases hb299 : r296.1
             · replace hp := optN hp hb299; rw [hb299] at hc; replace hc := Ctx.ptoN hc; obtain ⟨u301, hc⟩ := hc; subst u301; refine sz (v := .bool true) (ept U24 rfl rfl) <| au 1 rfl ?_; (iterate 2 refine r0 rfl ?_); refine au 1 rfl <| rn (qn (Wct rfl (Wseq (Wreg ?_)))); refine au 1 rfl <| rn (qn (Wret (qr (br (qr (qr (br (qr ?_)))))))); replace hc := hc.m [5, 1]; obtain rfl := sj hp; exact fz R3 M3 (k _ hc)
             · rename_i y300; replace hp := optS hp hb299; rw [hb299] at hc; replace hc := Ctx.ptoS hc; obtain ⟨b302, u303, hc⟩ := hc; subst u303; refine sz (v := .bool false) (epf U24 rfl rfl) <| au 4 rfl <| rn (qn ?_); refine Wif hp (fun _ h => ?_) fun _ h => ?_
               · replace hp := h; clear h; refine Wskip (qn (Wreg ?_)); refine au 2 rfl ?_; replace hc : Ctx w298 ((vPt S_cache_Store.hp).r [pt b302 0] y300 :: S_cache_Store.hp b13 y11 :: P0 :: OwnV (vPt S_cache_Store.hp) 24 (.slice a17 j16.length q19) j16 :: Fr) := Ctx.exB _ _ (Ctx.sepB (Ctx.puB rfl hc)); replace hc := Ctx.anyB (m := 1) [pt b302 0] rfl rfl hc; refine rsE (Ctx.builtOp (css := [[pt b302 0]]) (xs := ([[pt b302 0]] : List (List Value))) (E := pAny 1) hc U28 Z24 V24 rfl rfl rfl rfl rfl rfl rfl rfl) rfl ?_; clear hc; rintro _ w306 ⟨a305, rfl, hc⟩; replace hc : Ctx w306 (OwnV (vPt S_cache_Store.hp) 24 (.slice a305 1 1) ([y300]) :: S_cache_Store.hp b13 y11 :: P0 :: OwnV (vPt S_cache_Store.hp) 24 (.slice a17 j16.length q19) j16 :: Fr) := Ctx.ownV1 hc; replace hp := bind_some hp; obtain ⟨z307, hz307, hp⟩ := hp; obtain ⟨hg308, e309⟩ := app_some hz307; replace hc := hc.m [6]; refine rsE (Ctx.appendV hc U28 (i := Try.t24) rfl rfl rfl rfl rfl rfl rfl rfl hg308) rfl ?_; clear hc; rintro _ w312 ⟨a310, q311, rfl, hc⟩; rw [← e309] at hc ⊢; refine au 1 rfl <| rn (bn (qn (Wreg ?_))); refine au 3 rfl <| rn (qn ?_); replace hc := hc.m [4, 4]; exact ⟨m1, Nat.lt_succ_self _, ⟨z307, (IntKind.i64.wrap (j20 + 1)), a310, z307.length, q311, rfl, hp, hc⟩, (kl rfl k0)⟩
               · replace hp := h; clear h; refine Wseq (Wreg ?_); refine au 1 rfl <| rn (qn (Wret (qr (br (qr (qr (br (qr ?_)))))))); replace hc := hc.m [7, 3, 1]; obtain rfl := sj hp; exact fz R3 M3 (k _ hc)
       · replace hp := h; clear h; refine Wseq (Wreg ?_); refine au 1 rfl <| rn (qn (Wret (qr ?_))); replace hc := hc.m [1]; obtain rfl := sj hp; exact fz R3 M3 (k _ hc)
   · replace hp := h; clear h; refine Wseq (Wreg ?_); replace hp := bind_some hp; obtain ⟨r313, hr313, hp⟩ := hp; refine kz C7 ?_; refine law12_awake_any hc hr313 ?_; clear hc; intro w314 hc; refine au 1 rfl <| rn (qn (Wret (qr ?_))); obtain rfl := sj hp; exact fz R3 M3 (k _ hc)

end Go.Proofs.Ytdalpckomnkilaa
end
section
namespace Go.Hp
open Go
theorem W_in {x : Int} (h : -9223372036854775808 ≤ x ∧ x ≤ 9223372036854775807) : IntKind.i64.wrap x = x := IntWalk.i64_in x h
theorem W_succ (k : Nat) (h : k < 4611686018427387904) : IntKind.i64.wrap ((k : Int) + 1) = ((k + 1 : Nat) : Int) := by rw [W_in (by omega)]; rfl
theorem W_rest (x : Int) (n : Int) (hn : 0 < n) (hb : n ≤ 1099511627776) : Int.tmod (IntKind.i64.wrap (Int.tmod x n + n)) n = x % n := by
  have a := Int.tmod_lt_of_pos x hn
  have b := Int.lt_tmod_of_pos x hn
  rw [W_in (by omega), Int.tmod_eq_emod_of_nonneg (by omega)]
  have h := Int.tmod_add_mul_tdiv x n
  rw [Int.add_emod_right]
  conv => rhs; rw [← h]
  rw [Int.add_mul_emod_self_left]
theorem W_restN (x : Int) (n : Nat) (hn : 0 < n) (hb : n ≤ 1099511627776) : ∃ k : Nat, k < n ∧ Int.tmod (IntKind.i64.wrap (Int.tmod x n + n)) n = k := by
  rw [W_rest x n (by omega) (by omega)]
  have h1 := Int.emod_nonneg x (show (n : Int) ≠ 0 by omega)
  have h2 := Int.emod_lt_of_pos x (show (0 : Int) < n by omega)
  exact ⟨(x % n).toNat, by omega, by omega⟩
theorem idx_nat {α : Type} (xs : List α) (k : Nat) : idx xs (k : Int) = xs[k]? := by simp [idx]
theorem idx_get {α : Type} (xs : List α) (k : Nat) (h : k < xs.length) : idx xs (k : Int) = some xs[k] := by rw [idx_nat, List.getElem?_eq_getElem h]
theorem app_ok {α : Type} (xs ys : List α) (h : xs.length + ys.length ≤ 4294967296) : app xs ys = some (xs ++ ys) := by unfold app; rw [if_pos h]
theorem chk_ok {α : Type} {p : Prop} [Decidable p] (x : Option α) (h : p) : chk p x = x := by unfold chk; rw [if_pos h]
def sel {α : Type} (p : α → Bool) : List α → Nat → List Int
  | [], _ => []
  | o :: l, i => if p o then (i : Int) :: sel p l (i + 1) else sel p l (i + 1)
end Go.Hp
namespace Go.Hp
def tabl {α : Type} (n : Nat) (f : Nat → α) : List α := (List.range n).map f
theorem tabl_len {α : Type} (n : Nat) (f : Nat → α) : (tabl n f).length = n := by simp [tabl]
end Go.Hp
end
section
namespace Go.Hp
open Go
set_option linter.unusedVariables false
set_option linter.unusedSimpArgs false
set_option linter.unusedSectionVars false
theorem optc_some {α β : Type} (x : α) (a : Option β) (f : α → Option β) : optc (some x) a f = f x := rfl
section
variable {κ β : Type} [DecidableEq κ]
theorem mget_mset (l : List (κ × β)) (k q : κ) (x : β) : mget (mset l k x) q = if q = k then some x else mget l q := by
  induction l with
  | nil => simp only [mset, mget]; by_cases h : q = k
           · subst h; simp
           · rw [if_neg (fun e => h e.symm), if_neg h]
  | cons p l ih =>
    obtain ⟨k', x'⟩ := p
    simp only [mset]
    by_cases hk : k' = k
    · subst hk
      simp only [if_true, mget]
      by_cases h : q = k'
      · subst h; simp
      · rw [if_neg (fun e => h e.symm), if_neg h, if_neg (fun e => h e.symm)]
    · simp only [hk, if_false, mget, ih]
      by_cases h : k' = q
      · subst h; simp [hk]
      · simp [h]
theorem mget_none {l : List (κ × β)} {k : κ} : mget l k = none ↔ k ∉ l.map Prod.fst := by
  induction l with
  | nil => simp [mget]
  | cons p l ih =>
    obtain ⟨k', x'⟩ := p
    simp only [mget]
    by_cases hk : k' = k
    · subst hk; simp
    · simp only [hk, if_false, ih, List.map_cons, List.mem_cons, not_or]
      exact ⟨fun h => ⟨fun e => hk e.symm, h⟩, fun h => h.2⟩
theorem mget_mem {l : List (κ × β)} {k : κ} {x : β} (h : mget l k = some x) : (k, x) ∈ l := by
  induction l with
  | nil => simp [mget] at h
  | cons p l ih =>
    obtain ⟨k', x'⟩ := p
    simp only [mget] at h
    by_cases hk : k' = k
    · subst hk; simp at h; subst h; simp
    · simp only [hk, if_false] at h; simp [ih h]
theorem mget_of_mem {l : List (κ × β)} (hn : (l.map Prod.fst).Nodup) {k : κ} {x : β} (h : (k, x) ∈ l) : mget l k = some x := by
  obtain ⟨j, hj⟩ := List.getElem?_of_mem h
  exact mget_at hn hj
theorem keys_mset (l : List (κ × β)) (k : κ) (x : β) : (mset l k x).map Prod.fst = if k ∈ l.map Prod.fst then l.map Prod.fst else l.map Prod.fst ++ [k] := by
  induction l with
  | nil => simp [mset]
  | cons p l ih =>
    obtain ⟨k', x'⟩ := p
    simp only [mset]
    by_cases hk : k' = k
    · subst hk; simp
    · simp only [hk, if_false, List.map_cons, ih, List.mem_cons]
      by_cases h : k ∈ l.map Prod.fst
      · rw [if_pos h, if_pos (.inr h)]
      · rw [if_neg h, if_neg (fun q => q.elim (fun e => hk e.symm) h)]; rfl
theorem nodup_mset {l : List (κ × β)} (h : (l.map Prod.fst).Nodup) (k : κ) (x : β) : ((mset l k x).map Prod.fst).Nodup := by
  rw [keys_mset]
  split
  · exact h
  · rename_i hk
    rw [List.nodup_append]
    exact ⟨h, by simp, fun a ha b hb e => by simp at hb; subst hb; subst e; exact hk ha⟩
theorem len_mset (l : List (κ × β)) (k : κ) (x : β) : (mset l k x).length = if k ∈ l.map Prod.fst then l.length else l.length + 1 := by
  have := congrArg List.length (keys_mset l k x)
  rw [List.length_map] at this
  rw [this]
  split <;> simp
theorem remK_len (l : List (κ × β)) (seen : List κ) (hn : (l.map Prod.fst).Nodup) {k : κ} (hk : k ∈ remK l seen) : (remK l (k :: seen)).length < (remK l seen).length := by
  have h1 : remK l (k :: seen) = (remK l seen).filter (fun q => decide (q ≠ k)) := by
    unfold remK
    rw [List.filter_filter]
    apply List.filter_congr
    intro q _
    simp [List.mem_cons, not_or, and_comm]
  rw [h1]
  have := List.length_filter_lt_length_iff_exists (l := remK l seen) (p := fun q => decide (q ≠ k))
  rw [this]
  exact ⟨k, hk, by simp⟩
theorem remK_all (l : List (κ × β)) : remK l [] = l.map Prod.fst := by simp [remK]
end
end Go.Hp
end
section
namespace Go.Proofs.Ytdalpckomnkilaa
open Go Go.Hp
set_option linter.unusedVariables false
set_option linter.unusedSimpArgs false
theorem awake12 : law12_awake 1000 = some true := by decide +kernel
theorem index_loop (xs : List Int) (v : Int) (hx : xs.length < 1000) : ∀ (d m k : Nat), k + d = xs.length → d < m → ∃ r, slices_Index_s_int_int.L1 xs v m (k : Int) = some r ∧ (0 ≤ r ↔ v ∈ xs.drop k) := by
  intro d
  induction d with
  | zero =>
    intro m k hk hm
    obtain ⟨m, rfl⟩ : ∃ q, m = q + 1 := ⟨m - 1, by omega⟩
    rw [slices_Index_s_int_int.L1, if_neg (by omega), List.drop_of_length_le (by omega)]
    exact ⟨_, rfl, by simp⟩
  | succ d ih =>
    intro m k hk hm
    obtain ⟨m, rfl⟩ : ∃ q, m = q + 1 := ⟨m - 1, by omega⟩
    have hlt : k < xs.length := by omega
    obtain ⟨r, h1, h2⟩ := ih m (k + 1) (by omega) (by omega)
    rw [slices_Index_s_int_int.L1, if_pos (by omega), idx_get _ _ hlt, List.drop_eq_getElem_cons hlt]
    simp only [Option.bind_some]
    by_cases e : v = xs[k]
    · rw [if_pos e]; exact ⟨(k : Int), rfl, ⟨fun _ => by rw [e]; exact List.mem_cons_self, fun _ => by omega⟩⟩
    · rw [if_neg e, W_succ k (by omega)]
      refine ⟨r, h1, ?_⟩
      rw [h2, List.mem_cons]
      exact ⟨.inr, fun h => h.resolve_left e⟩
theorem contains_eq (xs : List Int) (v : Int) (hx : xs.length < 1000) : slices_Contains_s_int_int 1000 xs v = some (decide (v ∈ xs)) := by
  obtain ⟨r, h1, h2⟩ := index_loop xs v hx xs.length 1000 0 (by omega) (by omega)
  rw [slices_Contains_s_int_int, slices_Index_s_int_int, show (0 : Int) = ((0 : Nat) : Int) from rfl, h1]
  simp only [Option.bind_some, ge_iff_le, List.drop_zero] at h2 ⊢
  congr 1
  exact decide_eq_decide.2 h2
theorem clone_eq (xs : List Int) (hx : xs.length ≤ 4294967296) : slices_Clone_s_int8_int8 xs = some xs := by
  rw [slices_Clone_s_int8_int8, app_ok _ _ (by simpa using hx)]; rfl
def aheadB (x : S_cache_Store) (at_ : S_api_Spot) : Bool := if at_.Place = 0 then true else (mget x.m ⟨at_.Request, at_.Layer, IntKind.i64.wrap (at_.Place - 1)⟩).isSome
def putF (x : S_cache_Store) (at_ : S_api_Spot) (k v : List Int) : Int × S_cache_Store :=
  if at_.Request < 0 ∨ at_.Layer < 0 ∨ at_.Place < 0 then (2, x)
  else if k.length ≠ v.length then (30, x)
  else if aheadB x at_ = false then (120, x)
  else match mget x.m at_ with
    | some o => if o.k = k ∧ o.v = v then (0, x) else (2, x)
    | none => if ((x.m.length : Nat) : Int) ≥ x.room then (80, x) else (0, ⟨x.room, mset x.m at_ ⟨k, v⟩⟩)
theorem get_eq (x : S_cache_Store) (at_ : S_api_Spot) (hs : ∀ p ∈ x.m, p.2.k.length < 1000 ∧ p.2.v.length < 1000) : cache_Store_Get x at_ = some (match mget x.m at_ with | some o => (o.k, o.v, true) | none => ([], [], false)) := by
  have heta : (⟨at_.Request, at_.Layer, at_.Place⟩ : S_api_Spot) = at_ := rfl
  rw [cache_Store_Get]
  simp only [heta, Option.bind_some]
  cases h6 : mget x.m at_ with
  | none => simp [clone_eq]
  | some o =>
    have hm := hs _ (mget_mem h6)
    have hm1 : o.k.length < 1000 := hm.1
    have hm2 : o.v.length < 1000 := hm.2
    simp only [Option.getD_some, clone_eq o.k (by omega), clone_eq o.v (by omega), Option.bind_some, Option.isSome_some]
def LineN (x : S_cache_Store) (r l : Int) (n : Nat) : Prop := (∀ j : Nat, j < n → (mget x.m ⟨r, l, (j : Int)⟩).isSome = true) ∧ mget x.m ⟨r, l, (n : Int)⟩ = none
def rowAt (x : S_cache_Store) (r l : Int) (j : Nat) : S_cache_rows := (mget x.m ⟨r, l, (j : Int)⟩).getD ⟨[], []⟩
theorem line_loop (x : S_cache_Store) (r l : Int) (hs : ∀ p ∈ x.m, p.2.k.length < 1000 ∧ p.2.v.length < 1000) (n : Nat) (hn : n < 1000) (hL : LineN x r l n) : ∀ (d m j : Nat), j + d = n → d < m →
    cache_Store_Line.L1 x r l m (tabl j fun q => (rowAt x r l q).k) (tabl j fun q => (rowAt x r l q).v) (j : Int) = some (tabl n fun q => (rowAt x r l q).k, tabl n fun q => (rowAt x r l q).v) := by
  intro d
  induction d with
  | zero =>
    intro m j hj hm
    obtain ⟨m, rfl⟩ : ∃ q, m = q + 1 := ⟨m - 1, by omega⟩
    have : j = n := by omega
    subst this
    rw [cache_Store_Line.L1, get_eq _ _ hs, hL.2]
    simp
  | succ d ih =>
    intro m j hj hm
    obtain ⟨m, rfl⟩ : ∃ q, m = q + 1 := ⟨m - 1, by omega⟩
    have h1 := hL.1 j (by omega)
    obtain ⟨o, ho⟩ := Option.isSome_iff_exists.1 h1
    have hr : rowAt x r l j = o := by simp [rowAt, ho]
    rw [cache_Store_Line.L1, get_eq _ _ hs, ho]
    simp only [Option.bind_some, if_true]
    have ht : ∀ (f : Nat → List Int), tabl (j + 1) f = tabl j f ++ [f j] := fun f => by simp [tabl, List.range_succ]
    rw [app_ok _ _ (by simp [tabl]; omega), app_ok _ _ (by simp [tabl]; omega)]
    simp only [Option.bind_some, W_succ j (by omega)]
    have := ih m (j + 1) (by omega) (by omega)
    rw [ht, ht, hr] at this
    exact this
theorem line_eq (x : S_cache_Store) (r l : Int) (hs : ∀ p ∈ x.m, p.2.k.length < 1000 ∧ p.2.v.length < 1000) (n : Nat) (hn : n < 1000) (hL : LineN x r l n) : cache_Store_Line 1000 x r l = some (tabl n fun q => (rowAt x r l q).k, tabl n fun q => (rowAt x r l q).v) :=
  line_loop x r l hs n hn hL n 1000 0 (by omega) hn
theorem nodup_len {α : Type} [DecidableEq α] : ∀ {l1 l2 : List α}, l1.Nodup → (∀ a ∈ l1, a ∈ l2) → l1.length ≤ l2.length
  | [], _, _, _ => by simp
  | a :: l1, l2, hn, hs => by
    have ha := hs a (by simp)
    have h1 := List.length_erase_of_mem ha
    have h2 := List.length_pos_of_mem ha
    have h3 := nodup_len (l1 := l1) (l2 := l2.erase a) (List.nodup_cons.1 hn).2 fun b hb => (List.mem_erase_of_ne (show b ≠ a from fun e => (List.nodup_cons.1 hn).1 (by rw [← e]; exact hb))).2 (hs b (by simp [hb]))
    simp only [List.length_cons]
    omega
theorem line_ex (x : S_cache_Store) (r l : Int) : ∃ n, n ≤ x.m.length ∧ LineN x r l n := by
  -- else there would be more keys than entries
  have key : ∀ n : Nat, (∀ j : Nat, j < n → (mget x.m ⟨r, l, (j : Int)⟩).isSome = true) → n ≤ x.m.length := by
    intro n h
    have hsub : ((List.range n).map fun j : Nat => (⟨r, l, (j : Int)⟩ : S_api_Spot)).Nodup := by
      rw [List.Nodup, List.pairwise_map]
      have himp : ∀ {a b : Nat}, a ≠ b → (⟨r, l, (a : Int)⟩ : S_api_Spot) ≠ ⟨r, l, (b : Int)⟩ := fun {a b} hab e => hab (by injection e with _ _ e; omega)
      exact List.Pairwise.imp himp (List.nodup_range (n := n))
    have h2 := nodup_len hsub (l2 := x.m.map Prod.fst) (fun k hk => by
      obtain ⟨j, hj, rfl⟩ := List.mem_map.1 hk
      obtain ⟨o, ho⟩ := Option.isSome_iff_exists.1 (h j (List.mem_range.1 hj))
      exact List.mem_map.2 ⟨_, mget_mem ho, rfl⟩)
    simpa using h2
  -- the least one
  have least : ∀ (d n : Nat), n + d = x.m.length + 1 → (∀ j : Nat, j < n → (mget x.m ⟨r, l, (j : Int)⟩).isSome = true) → ∃ n, n ≤ x.m.length ∧ LineN x r l n := by
    intro d
    induction d with
    | zero => intro n hn h; have := key n h; omega
    | succ d ih =>
      intro n hn h
      cases hg : mget x.m ⟨r, l, (n : Int)⟩ with
      | none => exact ⟨n, key n h, h, hg⟩
      | some o =>
        refine ih (n + 1) (by omega) (fun j hj => ?_)
        by_cases hjn : j = n
        · rw [hjn, hg]; rfl
        · exact h j (by omega)
  exact least (x.m.length + 1) 0 (by omega) (fun j hj => by omega)
theorem mdel_filter {κ β : Type} [DecidableEq κ] {l : List (κ × β)} (hn : (l.map Prod.fst).Nodup) (k : κ) : mdel l k = l.filter fun p => decide (p.1 ≠ k) := by
  induction l with
  | nil => rfl
  | cons p l ih =>
    obtain ⟨k', x'⟩ := p
    simp only [List.map_cons, List.nodup_cons] at hn
    by_cases hk : k' = k
    · subst hk
      simp only [mdel, if_true, List.filter_cons, ne_eq, not_true_eq_false, decide_false, Bool.false_eq_true, if_false]
      symm
      apply List.filter_eq_self.2
      intro p hp
      have : p.1 ≠ k' := fun e => hn.1 (by rw [← e]; exact List.mem_map.2 ⟨p, hp, rfl⟩)
      simp [this]
    · simp only [mdel, hk, if_false, List.filter_cons, ne_eq, not_false_eq_true, decide_true, if_true, ih hn.2]
theorem delf_loop (l0 : List (S_api_Spot × S_cache_rows)) (hn : (l0.map Prod.fst).Nodup) (g : S_api_Spot → S_cache_rows → Option Bool) (f : S_api_Spot → Bool) (hg : ∀ k v, g k v = some (f k)) : ∀ (d m : Nat) (seen : List S_api_Spot), (remK l0 seen).length ≤ d → d < m →
    maps_DeleteFunc_map_api_Spot_cache_rows_api_Spot_cache_rows.L1 g m (l0.filter fun p => !(decide (p.1 ∈ seen) && f p.1)) seen = some (l0.filter fun p => !f p.1) := by
  have hnf : ∀ q : S_api_Spot × S_cache_rows → Bool, ((l0.filter q).map Prod.fst).Nodup := fun q => hn.sublist ((List.filter_sublist (l := l0)).map _)
  have hrem : ∀ seen : List S_api_Spot, remK (l0.filter fun p => !(decide (p.1 ∈ seen) && f p.1)) seen = remK l0 seen := by
    intro seen
    unfold remK
    rw [List.filter_map, List.filter_map, List.filter_filter]
    congr 1
    apply List.filter_congr
    intro p _
    simp only [Function.comp]
    by_cases h : p.1 ∈ seen <;> simp [h]
  have hdone : ∀ seen : List S_api_Spot, remK l0 seen = [] → (l0.filter fun p => !(decide (p.1 ∈ seen) && f p.1)) = l0.filter fun p => !f p.1 := by
    intro seen h
    apply List.filter_congr
    intro p hp
    have : p.1 ∈ seen := by
      apply Classical.byContradiction
      intro hc
      have : p.1 ∈ remK l0 seen := mem_remK.2 ⟨List.mem_map.2 ⟨p, hp, rfl⟩, hc⟩
      rw [h] at this; cases this
    simp [this]
  intro d
  induction d with
  | zero =>
    intro m seen hd hm
    obtain ⟨m, rfl⟩ : ∃ q, m = q + 1 := ⟨m - 1, by omega⟩
    have h0 : remK l0 seen = [] := List.eq_nil_of_length_eq_zero (by omega)
    rw [maps_DeleteFunc_map_api_Spot_cache_rows_api_Spot_cache_rows.L1, hrem, h0, anyK, hdone seen h0]
  | succ d ih =>
    intro m seen hd hm
    obtain ⟨m, rfl⟩ : ∃ q, m = q + 1 := ⟨m - 1, by omega⟩
    rw [maps_DeleteFunc_map_api_Spot_cache_rows_api_Spot_cache_rows.L1, hrem]
    by_cases h0 : remK l0 seen = []
    · rw [h0, anyK, hdone seen h0]
    · refine anyK_eq (fun k hk => ?_) h0
      have hkm := mem_remK.1 hk
      obtain ⟨⟨k', e⟩, hp, hke⟩ := List.mem_map.1 hkm.1
      simp only at hke; subst hke
      have hg2 : mget (l0.filter fun p => !(decide (p.1 ∈ seen) && f p.1)) k' = some e := mget_of_mem (hnf _) (List.mem_filter.2 ⟨hp, by simp [hkm.2]⟩)
      have hlen := remK_len l0 seen hn hk
      have hnext := ih m (k' :: seen) (by omega) (by omega)
      have heta : (⟨k'.Request, k'.Layer, k'.Place⟩ : S_api_Spot) = k' := rfl
      simp only [hg2, Option.bind_some, hg, heta]
      split
      · rename_i hf
        rw [mdel_filter (hnf _), List.filter_filter, ← hnext]
        congr 1
        apply List.filter_congr
        intro p _
        by_cases hpk : p.1 = k'
        · simp [hpk, hf]
        · simp [hpk]
      · rename_i hf
        rw [← hnext]
        congr 1
        apply List.filter_congr
        intro p _
        by_cases hpk : p.1 = k'
        · simp [hpk, hf]
        · simp [hpk]
theorem drop_eq (x : S_cache_Store) (rs : List Int) (hn : (x.m.map Prod.fst).Nodup) (hl : x.m.length < 1000) (hr : rs.length < 1000) :
    cache_Store_Drop 1000 x rs = some (((x.m.length - (x.m.filter fun p => !decide (p.1.Request ∈ rs)).length : Nat) : Int), ⟨x.room, x.m.filter fun p => !decide (p.1.Request ∈ rs)⟩) := by
  have h := delf_loop x.m hn (fun y6 _ => (slices_Contains_s_int_int 1000 rs y6.Request).bind fun r22 => some r22) (fun k => decide (k.Request ∈ rs)) (fun k v => by rw [contains_eq _ _ hr]; rfl) x.m.length 1000 [] (by rw [remK_all]; simp) hl
  have h2 : maps_DeleteFunc_map_api_Spot_cache_rows_api_Spot_cache_rows 1000 x.m (fun (y6 : S_api_Spot) (y7 : S_cache_rows) => (slices_Contains_s_int_int 1000 rs y6.Request).bind fun r22 => some r22) = some (x.m.filter fun p => !decide (p.1.Request ∈ rs)) := by
    rw [maps_DeleteFunc_map_api_Spot_cache_rows_api_Spot_cache_rows, chk_ok _ hn, ← h]
    congr 1
    exact (List.filter_eq_self.2 (fun p _ => by simp)).symm
  rw [cache_Store_Drop, h2]
  have hle := List.length_filter_le (fun p : S_api_Spot × S_cache_rows => !decide (p.1.Request ∈ rs)) x.m
  simp only [Option.bind_some]
  rw [W_in (by omega)]
  congr 2
  omega
end Go.Proofs.Ytdalpckomnkilaa
end
section
namespace Go.Hp
open Go
set_option linter.unusedVariables false
set_option linter.unusedSimpArgs false
theorem mdel_filter {κ β : Type} [DecidableEq κ] {l : List (κ × β)} (hn : (l.map Prod.fst).Nodup) (k : κ) : mdel l k = l.filter fun p => decide (p.1 ≠ k) := by
  induction l with
  | nil => rfl
  | cons p l ih =>
    obtain ⟨k', x'⟩ := p
    simp only [List.map_cons, List.nodup_cons] at hn
    by_cases hk : k' = k
    · subst hk
      simp only [mdel, if_true, List.filter_cons, ne_eq, not_true_eq_false, decide_false, Bool.false_eq_true, if_false]
      symm
      rw [List.filter_eq_self]
      intro p hp
      simp only [decide_eq_true_eq]
      intro e
      exact hn.1 (by rw [← e]; exact List.mem_map.2 ⟨p, hp, rfl⟩)
    · simp only [mdel, hk, if_false, List.filter_cons, ne_eq, not_false_eq_true, decide_true, if_true, ih hn.2]
theorem mset_new {κ β : Type} [DecidableEq κ] {l : List (κ × β)} {k : κ} (x : β) (h : mget l k = none) : mset l k x = l ++ [(k, x)] := by
  induction l with
  | nil => rfl
  | cons p l ih =>
    obtain ⟨k', x'⟩ := p
    simp only [mget] at h
    by_cases hk : k' = k
    · simp [hk] at h
    · simp only [hk, if_false] at h
      simp only [mset, hk, if_false, ih h, List.cons_append]
end Go.Hp
end
section
namespace Go.Hp
open Go
set_option linter.unusedVariables false
end Go.Hp
end
section
namespace Go.Proofs.Ytdalpckomnkilaa
open Go Go.Hp
set_option linter.unusedVariables false
set_option linter.unusedSimpArgs false
def wf64 (z : Int) : Prop := (Lit.int .i64 z).wf = true
structure CS (i : Nat) (m : S_cache_Store) (k v : List Int) (L : List Int) : Prop where
  nod : (m.m.map Prod.fst).Nodup
  len : ∀ p ∈ m.m, p.2.k.length ≤ 100 ∧ p.2.v.length ≤ 100
  at_ : mget m.m ⟨3, 1, 0⟩ = some ⟨k, v⟩
  wf : ∀ p ∈ m.m, wf64 p.1.Request
  ml : m.m.length ≤ i + 1
  Ll : L.length ≤ i
  L : ∀ p ∈ m.m, p.1.Request = 3 ∨ p.1.Request ∈ L
theorem mset_new' {κ β : Type} [DecidableEq κ] {l : List (κ × β)} {k : κ} (hn : (l.map Prod.fst).Nodup) (h : mget l k = none) (x : β) (p : κ × β) (hp : p ∈ mset l k x) : p ∈ l ∨ p = (k, x) := by
  have hn' := nodup_mset hn k x
  have e := mget_of_mem hn' (k := p.1) (x := p.2) hp
  rw [mget_mset] at e
  by_cases q : p.1 = k
  · rw [if_pos q] at e
    injection e with e
    exact .inr (by rw [← q, e])
  · rw [if_neg q] at e
    exact .inl (mget_mem e)
theorem CS.put {i : Nat} {m : S_cache_Store} {k v L : List Int} (h : CS i m k v L) (a : S_api_Spot) (hw : wf64 a.Request) (k2 v2 : List Int) (hk : k2.length ≤ 100) (hv : v2.length ≤ 100) : ∃ L', CS (i + 1) (putF m a k2 v2).2 k v L' := by
  have h0 : ∃ L', CS (i + 1) m k v L' := ⟨L, h.nod, h.len, h.at_, h.wf, by have := h.ml; omega, by have := h.Ll; omega, h.L⟩
  unfold putF
  split
  · exact h0
  split
  · exact h0
  split
  · exact h0
  cases e : mget m.m a with
  | some o =>
    show ∃ L', CS (i + 1) (if o.k = k2 ∧ o.v = v2 then ((0 : Int), m) else (2, m)).2 k v L'
    split <;> exact h0
  | none =>
    show ∃ L', CS (i + 1) (if ((m.m.length : Nat) : Int) ≥ m.room then ((80 : Int), m) else (0, ⟨m.room, mset m.m a ⟨k2, v2⟩⟩)).2 k v L'
    split
    · exact h0
    refine ⟨a.Request :: L, nodup_mset h.nod _ _, fun p hp => ?_, ?_, fun p hp => ?_, ?_, by simp only [List.length_cons]; have := h.Ll; omega, fun p hp => ?_⟩
    · rcases mset_new' h.nod e _ p hp with q | q
      · exact h.len p q
      · rw [q]; exact ⟨hk, hv⟩
    · show mget (mset m.m a ⟨k2, v2⟩) ⟨3, 1, 0⟩ = _
      rw [mget_mset, if_neg (fun q => by rw [← q, h.at_] at e; cases e)]
      exact h.at_
    · rcases mset_new' h.nod e _ p hp with q | q
      · exact h.wf p q
      · rw [q]; exact hw
    · show (mset m.m a ⟨k2, v2⟩).length ≤ _
      rw [len_mset]
      have := h.ml
      split <;> omega
    · rcases mset_new' h.nod e _ p hp with q | q
      · exact (h.L p q).elim .inl fun z => .inr (List.mem_cons_of_mem _ z)
      · rw [q]; exact .inr (by simp)
theorem mget_filter {κ β : Type} [DecidableEq κ] {l : List (κ × β)} (hn : (l.map Prod.fst).Nodup) (f : κ × β → Bool) {k : κ} {x : β} (h : mget l k = some x) (hf : f (k, x) = true) : mget (l.filter f) k = some x :=
  mget_of_mem ((List.filter_sublist.map Prod.fst).nodup hn) (List.mem_filter.2 ⟨mget_mem h, hf⟩)
theorem CS.drop {i : Nat} {m : S_cache_Store} {k v L : List Int} (h : CS i m k v L) (r : Int) (hr : r ≠ 3) : CS (i + 1) ⟨m.room, m.m.filter fun p => !decide (p.1.Request ∈ [r])⟩ k v L :=
  ⟨(List.filter_sublist.map Prod.fst).nodup h.nod, fun p hp => h.len p (List.mem_filter.1 hp).1, mget_filter h.nod _ h.at_ (by simp; omega), fun p hp => h.wf p (List.mem_filter.1 hp).1, Nat.le_trans (List.length_filter_le _ _) (by have := h.ml; omega), by have := h.Ll; omega, fun p hp => h.L p (List.mem_filter.1 hp).1⟩
end Go.Proofs.Ytdalpckomnkilaa
end
section
namespace Go.Proofs.Ytdalpckomnkilaa
open Go Go.Hp
set_option linter.unusedVariables false
set_option linter.unusedSimpArgs false
theorem clone8_is (x : List Int) (h : x.length ≤ 100000) : slices_Clone_s_int8_int8 x = some x := by
  unfold slices_Clone_s_int8_int8
  rw [app_ok _ _ (by simp; omega), Option.bind_some]; rfl
theorem bytes_is {N : Nat} (a b : List Int) (hN : a.length < N) (hl : a.length ≤ 100000) : ref04_Bytes N a b = some (decide (a = b)) := by
  unfold ref04_Bytes
  by_cases h : a.length = b.length
  · rw [if_neg (by omega)]
    have key : ∀ q i m : Nat, i + q = a.length → q < m → ref04_Bytes.L1 a b m (i : Int) = some (decide (a.drop i = b.drop i)) := by
      intro q
      induction q with
      | zero =>
        intro i m hi hm
        obtain ⟨m, rfl⟩ : ∃ q, m = q + 1 := ⟨m - 1, by omega⟩
        rw [ref04_Bytes.L1, if_neg (by omega), List.drop_of_length_le (by omega), List.drop_of_length_le (by omega), decide_eq_true rfl]
      | succ q ih =>
        intro i m hi hm
        obtain ⟨m, rfl⟩ : ∃ q, m = q + 1 := ⟨m - 1, by omega⟩
        have h1 : i < a.length := by omega
        have h2 : i < b.length := by omega
        rw [ref04_Bytes.L1, if_pos (by omega), idx_get a i h1, Option.bind_some, idx_get b i h2, Option.bind_some, List.drop_eq_getElem_cons h1, List.drop_eq_getElem_cons h2]
        by_cases e : a[i] = b[i]
        · rw [if_neg (fun q => q e), W_succ i (by omega), ih (i + 1) m (by omega) (by omega)]
          congr 1
          rw [decide_eq_decide, e]
          exact ⟨fun q => by rw [q], fun q => by injection q⟩
        · rw [if_pos e]
          congr 1
          rw [eq_comm, decide_eq_false_iff_not]
          intro q
          injection q with q1 q2
          exact e q1
    have := key a.length 0 N (by omega) hN
    rw [List.drop_zero, List.drop_zero] at this
    exact this
  · rw [if_pos (by omega)]
    congr 1
    rw [eq_comm, decide_eq_false_iff_not]
    intro q; exact h (by rw [q])
theorem equal_is {N : Nat} (a b : List Int) (hN : a.length < N) (hl : a.length ≤ 100000) : slices_Equal_s_int8_int8 N a b = some (decide (a = b)) := by
  unfold slices_Equal_s_int8_int8
  by_cases h : a.length = b.length
  · rw [if_neg (by omega)]
    have key : ∀ q i m : Nat, i + q = a.length → q < m → slices_Equal_s_int8_int8.L1 a b m (i : Int) = some (decide (a.drop i = b.drop i)) := by
      intro q
      induction q with
      | zero =>
        intro i m hi hm
        obtain ⟨m, rfl⟩ : ∃ q, m = q + 1 := ⟨m - 1, by omega⟩
        rw [slices_Equal_s_int8_int8.L1, if_neg (by omega), List.drop_of_length_le (by omega), List.drop_of_length_le (by omega), decide_eq_true rfl]
      | succ q ih =>
        intro i m hi hm
        obtain ⟨m, rfl⟩ : ∃ q, m = q + 1 := ⟨m - 1, by omega⟩
        have h1 : i < a.length := by omega
        have h2 : i < b.length := by omega
        rw [slices_Equal_s_int8_int8.L1, if_pos (by omega), idx_get a i h1, Option.bind_some, idx_get b i h2, Option.bind_some, List.drop_eq_getElem_cons h1, List.drop_eq_getElem_cons h2]
        by_cases e : a[i] = b[i]
        · rw [if_neg (fun q => q e), W_succ i (by omega), ih (i + 1) m (by omega) (by omega)]
          congr 1
          rw [decide_eq_decide, e]
          exact ⟨fun q => by rw [q], fun q => by injection q⟩
        · rw [if_pos e]
          congr 1
          rw [eq_comm, decide_eq_false_iff_not]
          intro q
          injection q with q1 q2
          exact e q1
    have := key a.length 0 N (by omega) hN
    rw [List.drop_zero, List.drop_zero] at this
    exact this
  · rw [if_pos (by omega)]
    congr 1
    rw [eq_comm, decide_eq_false_iff_not]
    intro q; exact h (by rw [q])
def rget : List S_ref12_Row → S_api_Spot → Option S_cache_rows
  | [], _ => none
  | r :: L, s => if r.At = s then some ⟨r.K, r.V⟩ else rget L s
theorem rget_app (L : List S_ref12_Row) (r : S_ref12_Row) (s : S_api_Spot) : rget (L ++ [r]) s = match rget L s with | some v => some v | none => if r.At = s then some ⟨r.K, r.V⟩ else none := by
  induction L with
  | nil => rfl
  | cons x L ih =>
    rw [List.cons_append, rget, rget]
    by_cases h : x.At = s
    · rw [if_pos h, if_pos h]
    · rw [if_neg h, if_neg h, ih]
theorem rfind_is {N : Nat} (st : S_ref12_Store) (s : S_api_Spot) (hN : st.L.length < N) (hl : st.L.length ≤ 5000) :
    match rget st.L s with | none => ref12_Store_Find N st s = some (-1) | some v => ∃ k, ∃ h : k < st.L.length, ref12_Store_Find N st s = some (k : Int) ∧ st.L[k].K = v.k ∧ st.L[k].V = v.v := by
  have key : ∀ q i m : Nat, i + q = st.L.length → q < m → match rget (st.L.drop i) s with | none => ref12_Store_Find.L1 st s m (i : Int) = some (-1) | some v => ∃ k, ∃ h : k < st.L.length, ref12_Store_Find.L1 st s m (i : Int) = some (k : Int) ∧ st.L[k].K = v.k ∧ st.L[k].V = v.v := by
    intro q
    induction q with
    | zero =>
      intro i m hi hm
      obtain ⟨m, rfl⟩ : ∃ q, m = q + 1 := ⟨m - 1, by omega⟩
      rw [List.drop_of_length_le (by omega)]
      show ref12_Store_Find.L1 st s (m + 1) (i : Int) = some (-1)
      rw [ref12_Store_Find.L1, if_neg (by omega)]
    | succ q ih =>
      intro i m hi hm
      obtain ⟨m, rfl⟩ : ∃ q, m = q + 1 := ⟨m - 1, by omega⟩
      have h1 : i < st.L.length := by omega
      have e : ref12_Store_Find.L1 st s (m + 1) (i : Int) = if st.L[i].At = s then some (i : Int) else ref12_Store_Find.L1 st s m ((i + 1 : Nat) : Int) := by
        rw [ref12_Store_Find.L1, if_pos (by omega), idx_get _ i h1, Option.bind_some, W_succ i (by omega)]
      have := ih (i + 1) m (by omega) (by omega)
      rw [e, List.drop_eq_getElem_cons h1, rget]
      by_cases c : st.L[i].At = s
      · rw [if_pos c, if_pos c]
        exact ⟨i, h1, rfl, rfl, rfl⟩
      · rw [if_neg c, if_neg c]
        exact this
  have := key st.L.length 0 N (by omega) hN
  rw [List.drop_zero] at this
  exact this
def putE (room : Int) (n : Nat) (g : S_api_Spot → Option S_cache_rows) (s : S_api_Spot) (k v : List Int) : Int :=
  if s.Request < 0 then 2 else if s.Layer < 0 then 2 else if s.Place < 0 then 2 else if k.length ≠ v.length then 30 else
  if s.Place > 0 ∧ g ⟨s.Request, s.Layer, s.Place - 1⟩ = none then 120 else
  match g s with
  | some r => if r.k = k ∧ r.v = v then 0 else 2
  | none => if (n : Int) ≥ room then 80 else 0
def putM (m : S_cache_Store) (s : S_api_Spot) (k v : List Int) : S_cache_Store :=
  if putE m.room m.m.length (mget m.m) s k v = 0 ∧ mget m.m s = none then ⟨m.room, mset m.m s ⟨k, v⟩⟩ else m
def putR (m : S_ref12_Store) (s : S_api_Spot) (k v : List Int) : S_ref12_Store :=
  if putE m.Room m.L.length (rget m.L) s k v = 0 ∧ rget m.L s = none then ⟨m.Room, m.L ++ [⟨s, k, v⟩]⟩ else m
theorem put_is {N : Nat} (m : S_cache_Store) (s : S_api_Spot) (k v : List Int) (hs : s.Place ≤ 9223372036854775807) (hk : k.length < N) (hk2 : k.length ≤ 100000) (hv : v.length ≤ 100000) (hm : ∀ s r, mget m.m s = some r → r.k.length < N ∧ r.k.length ≤ 100000 ∧ r.v.length < N ∧ r.v.length ≤ 100000) :
    cache_Store_Put N m s k v = some (putE m.room m.m.length (mget m.m) s k v, putM m s k v) := by
  unfold cache_Store_Put putM putE
  rw [Option.bind_some]
  by_cases c1 : s.Request < 0
  · rw [if_pos c1, if_pos c1, if_neg (fun q => absurd q.1 (by decide))]
  rw [if_neg c1, if_neg c1]
  by_cases c2 : s.Layer < 0
  · rw [if_pos c2, if_pos c2, if_neg (fun q => absurd q.1 (by decide))]
  rw [if_neg c2, if_neg c2]
  by_cases c3 : s.Place < 0
  · rw [if_pos c3, if_pos c3, if_neg (fun q => absurd q.1 (by decide))]
  rw [if_neg c3, if_neg c3]
  by_cases c4 : k.length = v.length
  rotate_left
  · rw [if_pos (by omega), if_pos c4, if_neg (fun q => absurd q.1 (by decide))]
  rw [if_neg (show ¬ ((k.length : Nat) : Int) ≠ ((v.length : Nat) : Int) by omega), if_neg (show ¬ k.length ≠ v.length from fun q => q c4)]
  have ha : cache_Store_ahead m s = some (if s.Place > 0 ∧ mget m.m ⟨s.Request, s.Layer, s.Place - 1⟩ = none then false else true) := by
    unfold cache_Store_ahead
    by_cases c : s.Place = 0
    · rw [if_pos c, if_neg (fun q => by omega)]
    · rw [if_neg c, Option.bind_some, W_in (by omega)]
      congr 1
      cases hz : mget m.m ⟨s.Request, s.Layer, s.Place - 1⟩ with
      | none => rw [if_pos ⟨by omega, rfl⟩]; rfl
      | some r => rw [if_neg (fun q => by cases q.2)]; rfl
  show (cache_Store_ahead m s).bind _ = _
  by_cases c5 : s.Place > 0 ∧ mget m.m ⟨s.Request, s.Layer, s.Place - 1⟩ = none
  · have ha' : cache_Store_ahead m s = some false := by rw [ha, if_pos c5]
    rw [ha', Option.bind_some, if_neg (by decide), if_pos c5, if_neg (fun q => absurd q.1 (by decide))]
  have ha' : cache_Store_ahead m s = some true := by rw [ha, if_neg c5]
  rw [ha', Option.bind_some, if_pos rfl, if_neg c5]
  show (if (mget m.m s).isSome = true then (slices_Equal_s_int8_int8 N ((mget m.m s).getD ⟨[], []⟩).k k).bind _ else _) = _
  cases hg : mget m.m s with
  | some r =>
    obtain ⟨h1, h2, h3, h4⟩ := hm _ _ hg
    have j1 : ∀ z, cache_Store_Put.J1 m s k v z = some (if z = true then 0 else 2, m) := by
      intro z
      unfold cache_Store_Put.J1
      cases z
      · rw [if_neg (by decide)]
        show (if (mget m.m s).isSome = true then _ else _) = _
        rw [hg]
        rfl
      · rw [if_pos rfl]; rfl
    show (slices_Equal_s_int8_int8 N r.k k).bind (fun r28 => if r28 = true then (slices_Equal_s_int8_int8 N r.v v).bind _ else _) = _
    show _ = some (if r.k = k ∧ r.v = v then (0 : Int) else 2, if (if r.k = k ∧ r.v = v then (0 : Int) else 2) = 0 ∧ some r = none then _ else m)
    rw [if_neg (show ¬ ((if r.k = k ∧ r.v = v then (0 : Int) else 2) = 0 ∧ some r = none) from fun q => by cases q.2), equal_is _ _ h1 h2, Option.bind_some]
    by_cases e1 : r.k = k
    · rw [decide_eq_true e1, if_pos rfl, equal_is _ _ h3 h4, Option.bind_some, j1]
      by_cases e2 : r.v = v
      · rw [decide_eq_true e2, if_pos rfl]
        rw [if_pos ⟨e1, e2⟩]
      · rw [decide_eq_false e2, if_neg (by decide)]
        rw [if_neg (fun q => e2 q.2)]
    · rw [decide_eq_false e1, if_neg (by decide), j1, if_neg (by decide)]
      rw [if_neg (fun q => e1 q.1)]
  | none =>
    rw [if_neg (by simp)]
    unfold cache_Store_Put.J1
    rw [if_neg (by decide)]
    show (if (mget m.m s).isSome = true then _ else _) = _
    rw [hg, if_neg (by simp)]
    show _ = some (if (m.m.length : Int) ≥ m.room then (80 : Int) else 0, if (if (m.m.length : Int) ≥ m.room then (80 : Int) else 0) = 0 ∧ (none : Option S_cache_rows) = none then _ else m)
    by_cases c6 : (m.m.length : Int) ≥ m.room
    · rw [if_pos c6, if_pos c6, if_neg (fun q => absurd q.1 (by decide))]
    · rw [if_neg c6, if_neg c6, clone8_is _ hk2, Option.bind_some, clone8_is _ hv, Option.bind_some, if_pos ⟨rfl, rfl⟩]
theorem rput_is {N : Nat} (m : S_ref12_Store) (s : S_api_Spot) (k v : List Int) (hs : s.Place ≤ 9223372036854775807) (hk : k.length < N) (hk2 : k.length ≤ 100000) (hv : v.length ≤ 100000) (hl : m.L.length ≤ 5000) (hN : m.L.length < N) (hm : ∀ s r, rget m.L s = some r → r.k.length < N ∧ r.k.length ≤ 100000 ∧ r.v.length < N ∧ r.v.length ≤ 100000) :
    ref12_Store_Put N m s k v = some (putE m.Room m.L.length (rget m.L) s k v, putR m s k v) := by
  unfold ref12_Store_Put putR putE
  by_cases c1 : s.Request < 0
  · rw [if_pos c1, if_pos c1, if_neg (fun q => absurd q.1 (by decide))]
  rw [if_neg c1, if_neg c1]
  by_cases c2 : s.Layer < 0
  · rw [if_pos c2, if_pos c2, if_neg (fun q => absurd q.1 (by decide))]
  rw [if_neg c2, if_neg c2]
  by_cases c3 : s.Place < 0
  · rw [if_pos c3, if_pos c3, if_neg (fun q => absurd q.1 (by decide))]
  rw [if_neg c3, if_neg c3]
  by_cases c4 : k.length = v.length
  rotate_left
  · rw [if_pos (by omega), if_pos c4, if_neg (fun q => absurd q.1 (by decide))]
  rw [if_neg (show ¬ ((k.length : Nat) : Int) ≠ ((v.length : Nat) : Int) by omega), if_neg (show ¬ k.length ≠ v.length from fun q => q c4)]
  have hj : ∀ z : Bool, (z = true ↔ (s.Place > 0 ∧ rget m.L ⟨s.Request, s.Layer, s.Place - 1⟩ = none)) → ref12_Store_Put.J1 N m s k v z = some (if s.Place > 0 ∧ rget m.L ⟨s.Request, s.Layer, s.Place - 1⟩ = none then (120 : Int) else match rget m.L s with | some r => if r.k = k ∧ r.v = v then 0 else 2 | none => if (m.L.length : Int) ≥ m.Room then 80 else 0,
      if (if s.Place > 0 ∧ rget m.L ⟨s.Request, s.Layer, s.Place - 1⟩ = none then (120 : Int) else match rget m.L s with | some r => if r.k = k ∧ r.v = v then 0 else 2 | none => if (m.L.length : Int) ≥ m.Room then 80 else 0) = 0 ∧ rget m.L s = none then ⟨m.Room, m.L ++ [⟨s, k, v⟩]⟩ else m) := by
    intro z hz
    unfold ref12_Store_Put.J1
    by_cases c5 : s.Place > 0 ∧ rget m.L ⟨s.Request, s.Layer, s.Place - 1⟩ = none
    · rw [hz.2 c5, if_pos rfl, if_pos c5, if_neg (fun q => absurd q.1 (by decide))]
    have zf : z = false := by
      cases z
      · rfl
      · exact absurd (hz.1 rfl) c5
    subst zf
    rw [if_neg (by decide), if_neg c5]
    have hf := rfind_is (N := N) m s hN hl
    show (ref12_Store_Find N m s).bind _ = _
    cases hg : rget m.L s with
    | some r =>
      rw [hg] at hf
      obtain ⟨i, hi, e, ek, ev⟩ := hf
      obtain ⟨h1, h2, h3, h4⟩ := hm _ _ hg
      show _ = some (if r.k = k ∧ r.v = v then (0 : Int) else 2, if (if r.k = k ∧ r.v = v then (0 : Int) else 2) = 0 ∧ some r = none then _ else m)
      rw [if_neg (show ¬ ((if r.k = k ∧ r.v = v then (0 : Int) else 2) = 0 ∧ some r = none) from fun q => by cases q.2), e, Option.bind_some, if_pos (show (i : Int) ≥ 0 by omega), idx_get _ i hi, Option.bind_some, ek, bytes_is _ _ h1 h2, Option.bind_some]
      unfold ref12_Store_Put.J3
      by_cases e1 : r.k = k
      · rw [decide_eq_true e1, if_pos rfl, Option.bind_some, ev, bytes_is _ _ h3 h4, Option.bind_some]
        by_cases e2 : r.v = v
        · rw [decide_eq_true e2, if_pos rfl, if_pos ⟨e1, e2⟩]
        · rw [decide_eq_false e2, if_neg (by decide), if_neg (fun q => e2 q.2)]
      · rw [decide_eq_false e1, if_neg (by decide), if_neg (by decide), if_neg (fun q => e1 q.1)]
    | none =>
      rw [hg] at hf
      rw [hf, Option.bind_some, if_neg (by decide)]
      show _ = some (if (m.L.length : Int) ≥ m.Room then (80 : Int) else 0, if (if (m.L.length : Int) ≥ m.Room then (80 : Int) else 0) = 0 ∧ (none : Option S_cache_rows) = none then _ else m)
      by_cases c6 : (m.L.length : Int) ≥ m.Room
      · rw [if_pos c6, if_pos c6, if_neg (fun q => absurd q.1 (by decide))]
      · rw [if_neg c6, if_neg c6, app_ok _ _ (by simp only [List.length_nil]; omega), Option.bind_some, app_ok _ _ (by simp only [List.length_nil]; omega), Option.bind_some, app_ok _ _ (by simp only [List.length_cons, List.length_nil]; omega), Option.bind_some, if_pos ⟨rfl, rfl⟩]
        rfl
  by_cases c7 : s.Place > 0
  · rw [if_pos c7, W_in (by omega)]
    have hf := rfind_is (N := N) m ⟨s.Request, s.Layer, s.Place - 1⟩ hN hl
    cases hg : rget m.L ⟨s.Request, s.Layer, s.Place - 1⟩ with
    | some r =>
      rw [hg] at hf
      obtain ⟨i, hi, e, _⟩ := hf
      rw [e, Option.bind_some]
      have := hj (decide ((i : Int) < 0)) ⟨fun q => by have := of_decide_eq_true q; omega, fun q => by rw [hg] at q; cases q.2⟩
      rw [hg] at this
      exact this
    | none =>
      rw [hg] at hf
      rw [hf, Option.bind_some]
      have := hj (decide ((-1 : Int) < 0)) ⟨fun q => ⟨c7, hg⟩, fun q => rfl⟩
      rw [hg] at this
      exact this
  · rw [if_neg c7]
    exact hj false ⟨fun q => (by cases q), fun q => absurd q.1 c7⟩
theorem putE_congr {room room' : Int} {n n' : Nat} {g g' : S_api_Spot → Option S_cache_rows} (s : S_api_Spot) (k v : List Int) (h : ∀ t, t.Request = s.Request → g t = g' t) (hn : (n : Int) ≥ room ↔ (n' : Int) ≥ room') : putE room n g s k v = putE room' n' g' s k v := by
  unfold putE
  rw [h s rfl, h ⟨s.Request, s.Layer, s.Place - 1⟩ rfl]
  by_cases c : (n : Int) ≥ room
  · have c' := hn.1 c
    simp only [if_pos c, if_pos c']
  · have c' : ¬ (n' : Int) ≥ room' := fun q => c (hn.2 q)
    simp only [if_neg c, if_neg c']
end Go.Proofs.Ytdalpckomnkilaa
end
section
namespace Go.Proofs.Ytdalpckomnkilaa
open Go Go.Hp
set_option linter.unusedVariables false
set_option linter.unusedSimpArgs false
structure AC (x0 : Int) (i : Nat) (m : S_cache_Store) (R : S_ref12_Store) : Prop where
  room : m.room = x0
  rooR : R.Room = x0
  nod : (m.m.map Prod.fst).Nodup
  nodR : (R.L.map S_ref12_Row.At).Nodup
  ml : m.m.length = R.L.length
  le : R.L.length ≤ i
  fit : ((R.L.length : Nat) : Int) ≤ x0
  eq : ∀ t, mget m.m t = rget R.L t
  len : ∀ p ∈ m.m, p.2.k.length ≤ 100 ∧ p.2.v.length ≤ 100
  wf : ∀ p ∈ m.m, wf64 p.1.Request
theorem rget_none {L : List S_ref12_Row} {t : S_api_Spot} : rget L t = none ↔ t ∉ L.map S_ref12_Row.At := by
  induction L with
  | nil => simp [rget]
  | cons r L ih =>
    rw [rget]
    by_cases h : r.At = t
    · rw [if_pos h]; simp [h]
    · rw [if_neg h, ih]
      simp only [List.map_cons, List.mem_cons, not_or]
      exact ⟨fun q => ⟨fun e => h e.symm, q⟩, fun q => q.2⟩
theorem rget_filter (f : S_api_Spot → Bool) (t : S_api_Spot) : ∀ L : List S_ref12_Row, rget (L.filter fun r => f r.At) t = if f t = true then rget L t else none
  | [] => by simp [rget]
  | r :: L => by
    by_cases h : r.At = t
    · subst h
      by_cases hf : f r.At = true
      · rw [List.filter_cons_of_pos (by exact hf), rget, if_pos rfl, if_pos hf, rget, if_pos rfl]
      · rw [List.filter_cons_of_neg (by exact hf), rget_filter f r.At L, if_neg hf, if_neg hf]
    · by_cases hf : f r.At = true
      · rw [List.filter_cons_of_pos (by exact hf), rget, if_neg h, rget_filter f t L, rget, if_neg h]
      · rw [List.filter_cons_of_neg (by exact hf), rget_filter f t L, rget, if_neg h]
theorem mget_filt {l : List (S_api_Spot × S_cache_rows)} (hn : (l.map Prod.fst).Nodup) (f : S_api_Spot → Bool) (t : S_api_Spot) : mget (l.filter fun p => f p.1) t = if f t = true then mget l t else none := by
  by_cases hf : f t = true
  · rw [if_pos hf]
    cases e : mget l t with
    | some o => exact mget_filter hn _ e hf
    | none =>
      refine mget_none.2 fun q => ?_
      obtain ⟨p, hp, rfl⟩ := List.mem_map.1 q
      exact absurd (List.mem_map.2 ⟨p, (List.mem_filter.1 hp).1, rfl⟩) (mget_none.1 e)
  · rw [if_neg hf]
    refine mget_none.2 fun q => ?_
    obtain ⟨p, hp, rfl⟩ := List.mem_map.1 q
    exact hf (List.mem_filter.1 hp).2
theorem AC.perm {x0 : Int} {i : Nat} {m : S_cache_Store} {R : S_ref12_Store} (h : AC x0 i m R) : (m.m.map Prod.fst).Perm (R.L.map S_ref12_Row.At) :=
  (List.perm_ext_iff_of_nodup h.nod h.nodR).2 fun t => by
    have h1 := mget_none (l := m.m) (k := t)
    have h2 := rget_none (L := R.L) (t := t)
    rw [h.eq t] at h1
    rw [← Decidable.not_iff_not]
    exact h1.symm.trans h2
theorem AC.drop {x0 : Int} {i : Nat} {m : S_cache_Store} {R : S_ref12_Store} (h : AC x0 i m R) (r : Int) : AC x0 (i + 1) ⟨m.room, m.m.filter fun p => !decide (p.1.Request ∈ [r])⟩ ⟨R.Room, R.L.filter fun z => !decide (z.At.Request ∈ [r])⟩ ∧ (m.m.filter fun p => !decide (p.1.Request ∈ [r])).length = (R.L.filter fun z => !decide (z.At.Request ∈ [r])).length := by
  have hp := (h.perm.filter fun t => !decide (t.Request ∈ [r])).length_eq
  rw [List.filter_map, List.filter_map, List.length_map, List.length_map] at hp
  have hl : (m.m.filter fun p => !decide (p.1.Request ∈ [r])).length = (R.L.filter fun z => !decide (z.At.Request ∈ [r])).length := hp
  have hle := List.length_filter_le (fun z : S_ref12_Row => !decide (z.At.Request ∈ [r])) R.L
  refine ⟨⟨h.room, h.rooR, (List.filter_sublist.map Prod.fst).nodup h.nod, (List.filter_sublist.map S_ref12_Row.At).nodup h.nodR, hl, by show (R.L.filter _).length ≤ i + 1; have := h.le; omega, by show (((R.L.filter _).length : Nat) : Int) ≤ x0; have := h.fit; omega, fun t => ?_, fun p hp => h.len p (List.mem_filter.1 hp).1, fun p hp => h.wf p (List.mem_filter.1 hp).1⟩, hl⟩
  show mget (m.m.filter fun p => !decide (p.1.Request ∈ [r])) t = rget (R.L.filter fun z => !decide (z.At.Request ∈ [r])) t
  rw [mget_filt h.nod (fun t => !decide (t.Request ∈ [r])), rget_filter (fun t => !decide (t.Request ∈ [r])), h.eq t]
theorem AC.put {x0 : Int} {i : Nat} {m : S_cache_Store} {R : S_ref12_Store} (hi : i < 500) (h : AC x0 i m R) (a : S_api_Spot) (hw : wf64 a.Request) (hp : a.Place ≤ 9223372036854775807) (k v : List Int) (hk : k.length ≤ 100) (hv : v.length ≤ 100) :
    ∃ e m' R', AC x0 (i + 1) m' R' ∧ cache_Store_Put 1000 m a k v = some (e, m') ∧ ref12_Store_Put 1000 R a k v = some (e, R') := by
  have hml := h.ml; have hle := h.le
  have hm : ∀ s r, mget m.m s = some r → r.k.length < 1000 ∧ r.k.length ≤ 100000 ∧ r.v.length < 1000 ∧ r.v.length ≤ 100000 := fun s r e => by have : r.k.length ≤ 100 ∧ r.v.length ≤ 100 := h.len _ (mget_mem e); omega
  have hr : ∀ s r, rget R.L s = some r → r.k.length < 1000 ∧ r.k.length ≤ 100000 ∧ r.v.length < 1000 ∧ r.v.length ≤ 100000 := fun s r e => hm s r (by rw [h.eq s]; exact e)
  have a1 := put_is m a k v hp (N := 1000) (by omega) (by omega) (by omega) hm
  have a2 := rput_is R a k v hp (N := 1000) (by omega) (by omega) (by omega) (by omega) (by omega) hr
  have ee := putE_congr (room := m.room) (room' := R.Room) (n := m.m.length) (n' := R.L.length) a k v (fun t _ => h.eq t) (by rw [h.room, h.rooR, h.ml])
  rw [← ee] at a2
  refine ⟨_, _, _, ?_, a1, a2⟩
  by_cases c : putE m.room m.m.length (mget m.m) a k v = 0 ∧ mget m.m a = none
  · have c2 : putE R.Room R.L.length (rget R.L) a k v = 0 ∧ rget R.L a = none := ⟨by rw [← ee]; exact c.1, by rw [← h.eq a]; exact c.2⟩
    have e1 : putM m a k v = ⟨m.room, mset m.m a ⟨k, v⟩⟩ := if_pos c
    have e2 : putR R a k v = ⟨R.Room, R.L ++ [⟨a, k, v⟩]⟩ := if_pos c2
    have hfull : ((R.L.length : Nat) : Int) < R.Room := by
      rcases Int.lt_or_le ((R.L.length : Nat) : Int) R.Room with z | z
      · exact z
      · have : putE R.Room R.L.length (rget R.L) a k v ≠ 0 := by
          unfold putE
          rw [c2.2]
          split
          · decide
          split
          · decide
          split
          · decide
          split
          · decide
          split
          · decide
          · first
            | (show (80 : Int) ≠ 0; decide)
            | (show (if ((R.L.length : Nat) : Int) ≥ R.Room then (80 : Int) else 0) ≠ 0
               rw [if_pos z]; decide)
        exact absurd c2.1 this
    rw [e1, e2]
    refine ⟨h.room, h.rooR, nodup_mset h.nod _ _, ?_, ?_, by show (R.L ++ [_]).length ≤ i + 1; rw [List.length_append, List.length_singleton]; omega, by show (((R.L ++ [_]).length : Nat) : Int) ≤ x0; rw [List.length_append, List.length_singleton]; have := h.rooR; omega, fun t => ?_, fun p hp => ?_, fun p hp => ?_⟩
    · show ((R.L ++ [(⟨a, k, v⟩ : S_ref12_Row)]).map S_ref12_Row.At).Nodup
      rw [List.map_append]
      refine List.nodup_append.2 ⟨h.nodR, by simp, fun x hx y hy e => ?_⟩
      have hy' : y = a := by simpa using hy
      subst e; subst hy'
      exact rget_none.1 c2.2 hx
    · show (mset m.m a ⟨k, v⟩).length = (R.L ++ [_]).length
      rw [len_mset, if_neg (mget_none.1 c.2), List.length_append, List.length_singleton, h.ml]
    · show mget (mset m.m a ⟨k, v⟩) t = rget (R.L ++ [_]) t
      rw [mget_mset, rget_app, ← h.eq t]
      by_cases q : t = a
      · subst q; rw [if_pos rfl, c.2]; show _ = if t = t then _ else _; rw [if_pos rfl]
      · rw [if_neg q]
        cases mget m.m t with
        | some o => rfl
        | none => show _ = if a = t then _ else _; rw [if_neg (fun e => q e.symm)]
    · rcases mset_new' h.nod c.2 _ p hp with q | q
      · exact h.len p q
      · rw [q]; exact ⟨hk, hv⟩
    · rcases mset_new' h.nod c.2 _ p hp with q | q
      · exact h.wf p q
      · rw [q]; exact hw
  · have c2 : ¬ (putE R.Room R.L.length (rget R.L) a k v = 0 ∧ rget R.L a = none) := fun q => c ⟨by rw [ee]; exact q.1, by rw [h.eq a]; exact q.2⟩
    have e1 : putM m a k v = m := if_neg c
    have e2 : putR R a k v = R := if_neg c2
    rw [e1, e2]
    exact ⟨h.room, h.rooR, h.nod, h.nodR, h.ml, by omega, h.fit, h.eq, h.len, h.wf⟩
end Go.Proofs.Ytdalpckomnkilaa
end
section
namespace Go.Proofs.Ytdalpckomnkilaa
open Go Go.Hp
set_option linter.unusedVariables false
set_option linter.unusedSimpArgs false
abbrev CM := List (S_api_Spot × S_cache_rows)
def sel (j : Nat) (t : S_api_Spot) : Bool := decide (t.Request = ((j / 2 : Nat) : Int) ∧ t.Layer = ((j % 2 : Nat) : Int))
def part (j : Nat) (l : CM) : CM := l.filter fun p => sel j p.1
def oF (l : CM) (j : Nat) : S_cache_Store := ⟨1000, part j l⟩
def ow (l : CM) : List S_cache_Store := (List.range 6).map (oF l)
theorem ow_len (l : CM) : (ow l).length = 6 := by simp [ow]
theorem ow_get (l : CM) {j : Nat} (h : j < (ow l).length) : (ow l)[j] = oF l j := by simp [ow]
theorem ow_idx (l : CM) {j : Nat} (hj : j < 6) : idx (ow l) (j : Int) = some (oF l j) := by rw [idx_get _ _ (by rw [ow_len]; exact hj), ow_get]
theorem ow_set (l l' : CM) {j : Nat} (h : ∀ i, i ≠ j → i < 6 → part i l' = part i l) : (ow l).set j (oF l' j) = ow l' := by
  apply List.ext_getElem (by simp [ow_len])
  intro i h1 h2
  have hi : i < 6 := by rw [ow_len] at h2; exact h2
  rw [List.getElem_set, ow_get l' h2]
  split
  · rename_i e; rw [e]
  · rename_i e; rw [ow_get l (by rw [ow_len]; exact hi)]; unfold oF; rw [h i (fun q => e q.symm) hi]
theorem ow_set2 (l l' : CM) {a b : Nat} (h : ∀ i, i ≠ a → i ≠ b → i < 6 → part i l' = part i l) : ((ow l).set a (oF l' a)).set b (oF l' b) = ow l' := by
  apply List.ext_getElem (by simp [ow_len])
  intro i h1 h2
  have hi : i < 6 := by rw [ow_len] at h2; exact h2
  rw [List.getElem_set, ow_get l' h2]
  split
  · rename_i e; rw [e]
  · rename_i e
    rw [List.getElem_set]
    split
    · rename_i e2; rw [e2]
    · rename_i e2; rw [ow_get l (by rw [ow_len]; exact hi)]; unfold oF; rw [h i (fun q => e2 q.symm) (fun q => e q.symm) hi]
theorem mget_part {l : CM} (hn : (l.map Prod.fst).Nodup) (j : Nat) (t : S_api_Spot) (ht : sel j t = true) : mget (part j l) t = mget l t := by
  unfold part; rw [mget_filt hn (fun t => sel j t), if_pos ht]
theorem sel_2 {r l : Nat} (hl : l < 2) (p : Int) : sel (2 * r + l) ⟨r, l, p⟩ = true := by
  unfold sel
  rw [decide_eq_true_eq]
  exact ⟨by rw [show (2 * r + l) / 2 = r by omega], by rw [show (2 * r + l) % 2 = l by omega]⟩
def In6 (l : CM) : Prop := ∀ p ∈ l, ∃ r c : Nat, r < 3 ∧ c < 2 ∧ p.1.Request = (r : Int) ∧ p.1.Layer = (c : Int)
theorem parts_len : ∀ l : CM, In6 l → (part 0 l).length + (part 1 l).length + (part 2 l).length + (part 3 l).length + (part 4 l).length + (part 5 l).length = l.length
  | [], _ => rfl
  | p :: l, h => by
    have ih := parts_len l fun q hq => h q (List.mem_cons_of_mem _ hq)
    obtain ⟨r, c, hr, hc, e1, e2⟩ := h p (by simp)
    have hs : ∀ j, part j (p :: l) = if j = 2 * r + c then p :: part j l else part j l := fun j => by
      unfold part
      rw [List.filter_cons]
      have : (sel j p.1 = true) ↔ j = 2 * r + c := by
        unfold sel
        rw [decide_eq_true_eq, e1, e2]
        omega
      by_cases q : j = 2 * r + c
      · rw [if_pos (this.2 q), if_pos q]
      · rw [if_neg (fun z => q (this.1 z)), if_neg q]
    simp only [hs, List.length_cons]
    rcases (show 2 * r + c = 0 ∨ 2 * r + c = 1 ∨ 2 * r + c = 2 ∨ 2 * r + c = 3 ∨ 2 * r + c = 4 ∨ 2 * r + c = 5 by omega) with e | e | e | e | e | e <;> simp only [e] <;> simp <;> omega
def outR (r : Nat) (l : CM) : CM := l.filter fun p => !decide (p.1.Request ∈ [(r : Int)])
theorem drop_len (r : Nat) : ∀ l : CM, In6 l → (part (2 * r) l).length + (part (2 * r + 1) l).length + (outR r l).length = l.length
  | [], _ => rfl
  | p :: l, h => by
    have ih := drop_len r l fun q hq => h q (List.mem_cons_of_mem _ hq)
    obtain ⟨r', c, hr, hc, e1, e2⟩ := h p (by simp)
    have hs : ∀ j, part j (p :: l) = if j = 2 * r' + c then p :: part j l else part j l := fun j => by
      unfold part
      rw [List.filter_cons]
      have : (sel j p.1 = true) ↔ j = 2 * r' + c := by
        unfold sel
        rw [decide_eq_true_eq, e1, e2]
        omega
      by_cases q : j = 2 * r' + c
      · rw [if_pos (this.2 q), if_pos q]
      · rw [if_neg (fun z => q (this.1 z)), if_neg q]
    have ho : outR r (p :: l) = if r' = r then outR r l else p :: outR r l := by
      unfold outR
      rw [List.filter_cons]
      by_cases q : r' = r
      · rw [if_pos q, if_neg]; simp [e1, q]
      · rw [if_neg q, if_pos]; simp [e1]; omega
    simp only [hs, ho, List.length_cons]
    by_cases q : r' = r
    · subst q
      rcases (show c = 0 ∨ c = 1 by omega) with rfl | rfl <;> simp <;> omega
    · rw [if_neg (by omega), if_neg (by omega), if_neg q]; simp; omega
theorem part_out_other (r j : Nat) (h : j ≠ 2 * r) (h2 : j ≠ 2 * r + 1) (l : CM) : part j (outR r l) = part j l := by
  unfold part outR
  rw [List.filter_filter]
  refine List.filter_congr fun p _ => ?_
  unfold sel
  by_cases q : p.1.Request = ((j / 2 : Nat) : Int) ∧ p.1.Layer = ((j % 2 : Nat) : Int)
  · have : ¬ p.1.Request = (r : Int) := by rw [q.1]; omega
    simp only [List.mem_singleton, this, decide_false, Bool.not_false, Bool.and_true, Bool.true_and]
  · simp only [decide_eq_false q, Bool.false_and, Bool.and_false]
theorem part_out_same (r j : Nat) (l : CM) : (part j l).filter (fun p => !decide (p.1.Request ∈ [(r : Int)])) = part j (outR r l) := by
  unfold part outR
  rw [List.filter_filter, List.filter_filter]
  exact List.filter_congr fun p _ => Bool.and_comm _ _
theorem part_out_nil (r j : Nat) (hj : j / 2 = r) (l : CM) : part j (outR r l) = [] := by
  unfold part outR
  rw [List.filter_filter]
  refine List.filter_eq_nil_iff.2 fun p _ => ?_
  unfold sel
  simp only [List.mem_singleton, Bool.and_eq_true, decide_eq_true_eq, Bool.not_eq_true', decide_eq_false_iff_not]
  rintro ⟨⟨q, _⟩, z⟩
  exact z (by rw [q, hj])
structure AP (i : Nat) (m : S_cache_Store) : Prop where
  room : m.room = 1000
  nod : (m.m.map Prod.fst).Nodup
  le : m.m.length ≤ i
  in6 : In6 m.m
  len : ∀ p ∈ m.m, p.2.k.length ≤ 100 ∧ p.2.v.length ≤ 100
theorem AP.part_nod {i : Nat} {m : S_cache_Store} (h : AP i m) (j : Nat) : ((part j m.m).map Prod.fst).Nodup := (List.filter_sublist.map Prod.fst).nodup h.nod
theorem part_le (j : Nat) (l : CM) : (part j l).length ≤ l.length := List.length_filter_le _ _
theorem line_same {i : Nat} (hi : i < 500) {m : S_cache_Store} (h : AP i m) {r l : Nat} (hl : l < 2) : ∃ n x y, cache_Store_Line 1000 m (r : Int) (l : Int) = some x ∧ cache_Store_Line 1000 (oF m.m (2 * r + l)) (r : Int) (l : Int) = some y ∧ x.1.length = n ∧ y.1.length = n := by
  have hle := h.le
  obtain ⟨n, hn, hL⟩ := line_ex m (r : Int) (l : Int)
  have hg : ∀ p, mget (oF m.m (2 * r + l)).m ⟨r, l, p⟩ = mget m.m ⟨r, l, p⟩ := fun p => mget_part h.nod _ _ (sel_2 hl p)
  have hL' : LineN (oF m.m (2 * r + l)) (r : Int) (l : Int) n := ⟨fun j hj => by rw [hg]; exact hL.1 j hj, by rw [hg]; exact hL.2⟩
  refine ⟨n, _, _, line_eq m _ _ (fun p hp => by have := h.len p hp; omega) n (by omega) hL, line_eq _ _ _ (fun p hp => by have := h.len p (List.mem_filter.1 hp).1; omega) n (by omega) hL', tabl_len _ _, tabl_len _ _⟩
theorem putE_congr2 {room : Int} {n n' : Nat} {g g' : S_api_Spot → Option S_cache_rows} (s : S_api_Spot) (k v : List Int) (h : ∀ p, g ⟨s.Request, s.Layer, p⟩ = g' ⟨s.Request, s.Layer, p⟩) (hn : ¬ (n : Int) ≥ room) (hn' : ¬ (n' : Int) ≥ room) : putE room n g s k v = putE room n' g' s k v := by
  unfold putE
  rw [h (s.Place - 1), show g s = g' s from h s.Place]
  simp only [if_neg hn, if_neg hn']
theorem AP.put {i : Nat} (hi : i < 500) {m : S_cache_Store} (h : AP i m) {r c : Nat} (hr : r < 3) (hc : c < 2) (p : Int) (hp : p ≤ 9223372036854775807) (k v : List Int) (hk : k.length ≤ 100) (hv : v.length ≤ 100) :
    ∃ e m', AP (i + 1) m' ∧ cache_Store_Put 1000 m ⟨r, c, p⟩ k v = some (e, m') ∧ cache_Store_Put 1000 (oF m.m (2 * r + c)) ⟨r, c, p⟩ k v = some (e, oF m'.m (2 * r + c)) ∧ ∀ j, j ≠ 2 * r + c → part j m'.m = part j m.m := by
  have hle := h.le
  have hpl := part_le (2 * r + c) m.m
  have hb : ∀ q ∈ m.m, q.2.k.length < 1000 ∧ q.2.k.length ≤ 100000 ∧ q.2.v.length < 1000 ∧ q.2.v.length ≤ 100000 := fun q hq => by have := h.len q hq; omega
  have a1 := put_is m ⟨r, c, p⟩ k v hp (N := 1000) (by omega) (by omega) (by omega) (fun s x e => hb _ (mget_mem e))
  have a2 := put_is (oF m.m (2 * r + c)) ⟨r, c, p⟩ k v hp (N := 1000) (by omega) (by omega) (by omega) (fun s x e => hb _ (List.mem_filter.1 (mget_mem e)).1)
  have hg : ∀ p, mget m.m ⟨r, c, p⟩ = mget (oF m.m (2 * r + c)).m ⟨r, c, p⟩ := fun p => (mget_part h.nod _ _ (sel_2 hc p)).symm
  have ee : putE m.room m.m.length (mget m.m) ⟨r, c, p⟩ k v = putE (oF m.m (2 * r + c)).room (oF m.m (2 * r + c)).m.length (mget (oF m.m (2 * r + c)).m) ⟨r, c, p⟩ k v := by
    rw [h.room]
    exact putE_congr2 _ k v hg (by omega) (by show ¬ (((part (2 * r + c) m.m).length : Nat) : Int) ≥ 1000; omega)
  rw [← ee] at a2
  refine ⟨_, _, ?_, a1, ?_, fun j hj => ?_⟩
  · unfold putM
    split
    · rename_i q
      refine ⟨h.room, nodup_mset h.nod _ _, ?_, fun x hx => ?_, fun x hx => ?_⟩
      · show (mset m.m _ _).length ≤ i + 1
        rw [len_mset, if_neg (mget_none.1 q.2)]; omega
      · rcases mset_new' h.nod q.2 _ x hx with z | z
        · exact h.in6 x z
        · rw [z]; exact ⟨r, c, hr, hc, rfl, rfl⟩
      · rcases mset_new' h.nod q.2 _ x hx with z | z
        · exact h.len x z
        · rw [z]; exact ⟨hk, hv⟩
    · exact ⟨h.room, h.nod, by omega, h.in6, h.len⟩
  · rw [a2]
    congr 2
    unfold putM
    by_cases q : putE m.room m.m.length (mget m.m) ⟨r, c, p⟩ k v = 0 ∧ mget m.m ⟨r, c, p⟩ = none
    · have q2 : putE (oF m.m (2 * r + c)).room (oF m.m (2 * r + c)).m.length (mget (oF m.m (2 * r + c)).m) ⟨r, c, p⟩ k v = 0 ∧ mget (oF m.m (2 * r + c)).m ⟨r, c, p⟩ = none := ⟨by rw [← ee]; exact q.1, by rw [← hg]; exact q.2⟩
      rw [if_pos q, if_pos q2]
      show (⟨1000, mset (oF m.m (2 * r + c)).m _ _⟩ : S_cache_Store) = ⟨1000, part (2 * r + c) (mset m.m _ _)⟩
      rw [mset_new _ q.2, mset_new _ q2.2]
      unfold part
      have hone : ([((⟨r, c, p⟩ : S_api_Spot), (⟨k, v⟩ : S_cache_rows))] : CM).filter (fun p => sel (2 * r + c) p.1) = [((⟨r, c, p⟩ : S_api_Spot), (⟨k, v⟩ : S_cache_rows))] := List.filter_eq_self.2 fun q hq => by rw [List.mem_singleton.1 hq]; exact sel_2 hc p
      rw [List.filter_append, hone]
      rfl
    · have q2 : ¬ (putE (oF m.m (2 * r + c)).room (oF m.m (2 * r + c)).m.length (mget (oF m.m (2 * r + c)).m) ⟨r, c, p⟩ k v = 0 ∧ mget (oF m.m (2 * r + c)).m ⟨r, c, p⟩ = none) := fun z => q ⟨by rw [ee]; exact z.1, by rw [hg]; exact z.2⟩
      rw [if_neg q, if_neg q2]
  · unfold putM
    split
    · rename_i q
      show part j (mset m.m _ _) = _
      rw [mset_new _ q.2]
      unfold part
      rw [List.filter_append, List.filter_cons_of_neg, List.filter_nil, List.append_nil]
      unfold sel
      simp only [decide_eq_true_eq]
      intro z
      omega
    · rfl
theorem AP.drop {i : Nat} {m : S_cache_Store} (h : AP i m) (r : Nat) : AP i ⟨m.room, outR r m.m⟩ :=
  ⟨h.room, (List.filter_sublist.map Prod.fst).nodup h.nod, Nat.le_trans (List.length_filter_le _ _) h.le, fun p hp => h.in6 p (List.mem_filter.1 hp).1, fun p hp => h.len p (List.mem_filter.1 hp).1⟩
theorem apart_L3 {i : Nat} (hi : i < 500) {m : S_cache_Store} (h : AP i m) : law12_CacheApart.L3 m (ow m.m) 1000 0 0 = some true := by
  have hle := h.le
  have hs := parts_len m.m h.in6
  have step : ∀ f (a j : Nat), j < 6 → a < 100000 → law12_CacheApart.L3 m (ow m.m) (f + 1) (a : Int) (j : Int) = law12_CacheApart.L3 m (ow m.m) f ((a + (part j m.m).length : Nat) : Int) ((j + 1 : Nat) : Int) := fun f a j hj ha => by
    have := part_le j m.m
    rw [law12_CacheApart.L3, if_pos (by omega), ow_idx _ hj, Option.bind_some, show cache_Store_Len (oF m.m j) = some (((part j m.m).length : Nat) : Int) from rfl, Option.bind_some, W_succ j (by omega), W_in (by omega)]
    rfl
  have e0 := part_le 0 m.m
  have e1 := part_le 1 m.m
  have e2 := part_le 2 m.m
  have e3 := part_le 3 m.m
  have e4 := part_le 4 m.m
  have e5 := part_le 5 m.m
  refine (step 999 0 0 (by omega) (by omega)).trans ?_
  refine (step 998 (0 + (part 0 m.m).length) 1 (by omega) (by omega)).trans ?_
  refine (step 997 (0 + (part 0 m.m).length + (part 1 m.m).length) 2 (by omega) (by omega)).trans ?_
  refine (step 996 (0 + (part 0 m.m).length + (part 1 m.m).length + (part 2 m.m).length) 3 (by omega) (by omega)).trans ?_
  refine (step 995 (0 + (part 0 m.m).length + (part 1 m.m).length + (part 2 m.m).length + (part 3 m.m).length) 4 (by omega) (by omega)).trans ?_
  refine (step 994 (0 + (part 0 m.m).length + (part 1 m.m).length + (part 2 m.m).length + (part 3 m.m).length + (part 4 m.m).length) 5 (by omega) (by omega)).trans ?_
  rw [law12_CacheApart.L3, if_neg (by omega), show cache_Store_Len m = some ((m.m.length : Nat) : Int) from rfl, Option.bind_some]
  congr 1
  rw [decide_eq_true_eq]
  omega
theorem apart_L2 (xs : List S_law12_Act) (hx : xs.length ≤ 60) (hw : ∀ a ∈ xs, a.At.Place ≤ 9223372036854775807) : ∀ (q i f : Nat) (m : S_cache_Store), i + q = xs.length → q < f → AP i m → law12_CacheApart.L2 1000 xs f m (ow m.m) (i : Int) = some true := by
  intro q
  induction q with
  | zero =>
    intro i f m hi hf h
    obtain ⟨f, rfl⟩ : ∃ q, f = q + 1 := ⟨f - 1, by omega⟩
    rw [law12_CacheApart.L2, if_neg (by omega)]
    exact apart_L3 (by omega) h
  | succ q ih =>
    intro i f m hi hf h
    obtain ⟨f, rfl⟩ : ∃ q, f = q + 1 := ⟨f - 1, by omega⟩
    have hlt : i < xs.length := by omega
    have hwa := hw _ (List.getElem_mem hlt)
    have hle := h.le
    rw [law12_CacheApart.L2, if_pos (by omega), idx_get _ _ hlt, Option.bind_some]
    generalize xs[i] = a at hwa
    by_cases c1 : ((a.K.length : Nat) : Int) > 100
    · rw [if_pos c1]
    rw [if_neg c1]
    by_cases c2 : ((a.V.length : Nat) : Int) > 100
    · rw [if_pos c2]
    rw [if_neg c2]
    obtain ⟨r, hr, er⟩ := W_restN a.At.Request 3 (by omega) (by omega)
    obtain ⟨c, hc, ec⟩ := W_restN a.At.Layer 2 (by omega) (by omega)
    have er : Int.tmod (IntKind.i64.wrap ((Int.tmod a.At.Request 3) + 3)) 3 = (r : Int) := er
    have ec : Int.tmod (IntKind.i64.wrap ((Int.tmod a.At.Layer 2) + 2)) 2 = (c : Int) := ec
    have w1 : IntKind.i64.wrap (2 * (r : Int)) = ((2 * r : Nat) : Int) := by rw [W_in (by omega)]; omega
    have w2 : IntKind.i64.wrap (((2 * r : Nat) : Int) + (c : Int)) = ((2 * r + c : Nat) : Int) := by rw [W_in (by omega)]; omega
    have w3 : IntKind.i64.wrap (((2 * r : Nat) : Int) + 1) = ((2 * r + 1 : Nat) : Int) := by rw [W_in (by omega)]; omega
    unfold law12_CacheApart.J4
    simp only [er, ec, w1, w2, w3, Int.toNat_natCast]
    rw [show law12_spot (r : Int) (c : Int) a.At.Place = some ⟨r, c, a.At.Place⟩ from rfl, Option.bind_some, ow_idx _ (show 2 * r + c < 6 by omega), Option.bind_some]
    by_cases k1 : a.Kind = 1
    · rw [if_pos k1]
      have hd := h.drop r
      have q1 := part_le (2 * r) m.m
      have q2 := part_le (2 * r + 1) m.m
      have d0 := drop_eq m [(r : Int)] h.nod (by omega) (by simp)
      have d1 := drop_eq (oF m.m (2 * r)) [(r : Int)] (h.part_nod _) (by show (part (2 * r) m.m).length < 1000; omega) (by simp)
      have d2 := drop_eq (oF m.m (2 * r + 1)) [(r : Int)] (h.part_nod _) (by show (part (2 * r + 1) m.m).length < 1000; omega) (by simp)
      have f1 : ((oF m.m (2 * r)).m.filter fun p => !decide (p.1.Request ∈ [(r : Int)])) = part (2 * r) (outR r m.m) := part_out_same r _ _
      have f2 : ((oF m.m (2 * r + 1)).m.filter fun p => !decide (p.1.Request ∈ [(r : Int)])) = part (2 * r + 1) (outR r m.m) := part_out_same r _ _
      have n1 : part (2 * r) (outR r m.m) = [] := part_out_nil r _ (by omega) _
      have n2 : part (2 * r + 1) (outR r m.m) = [] := part_out_nil r _ (by omega) _
      have hcnt := drop_len r m.m h.in6
      have hset : ((ow m.m).set (2 * r) (oF (outR r m.m) (2 * r))).set (2 * r + 1) (oF (outR r m.m) (2 * r + 1)) = ow (outR r m.m) := ow_set2 _ _ fun j h1 h2 _ => part_out_other r j h1 h2 _
      have hmid : idx ((ow m.m).set (2 * r) (oF (outR r m.m) (2 * r))) ((2 * r + 1 : Nat) : Int) = some (oF m.m (2 * r + 1)) := by
        rw [idx_nat, List.getElem?_set_ne (by omega), ← idx_nat, ow_idx _ (by omega)]
      rw [f1] at d1
      rw [f2] at d2
      rw [ow_idx _ (show 2 * r < 6 by omega), Option.bind_some, d1, Option.bind_some]
      show (idx ((ow m.m).set (2 * r) (oF (outR r m.m) (2 * r))) ((2 * r + 1 : Nat) : Int)).bind _ = _
      rw [hmid, Option.bind_some, d2, Option.bind_some]
      show (idx (ow m.m) ((2 * r + 1 : Nat) : Int)).bind (fun _ => (idx (((ow m.m).set (2 * r) (oF (outR r m.m) (2 * r))).set (2 * r + 1) (oF (outR r m.m) (2 * r + 1))) ((2 * r + c : Nat) : Int)).bind _) = _
      rw [ow_idx _ (show 2 * r + 1 < 6 by omega), Option.bind_some, hset, ow_idx _ (show 2 * r + c < 6 by omega), Option.bind_some]
      show (idx (((ow m.m).set (2 * r) (oF (outR r m.m) (2 * r))).set (2 * r + 1) (oF (outR r m.m) (2 * r + 1))) ((2 * r + c : Nat) : Int)).bind _ = _
      rw [hset, ow_idx _ (show 2 * r + c < 6 by omega), Option.bind_some, d0, Option.bind_some, if_neg]
      · obtain ⟨n, x, y, l1, l2, l3, l4⟩ := line_same (by omega) hd (r := r) hc
        show (cache_Store_Line 1000 ⟨m.room, outR r m.m⟩ (r : Int) (c : Int)).bind _ = _
        rw [l1, Option.bind_some, l2, Option.bind_some, if_neg (by rw [l3, l4]; exact fun q => q rfl)]
        show law12_CacheApart.L2 1000 xs f ⟨m.room, outR r m.m⟩ ((((ow m.m).set (2 * r) (oF (outR r m.m) (2 * r))).set (2 * r + 1) (oF (outR r m.m) (2 * r + 1))).set (2 * r + c) (oF (outR r m.m) (2 * r + c))) _ = _
        rw [hset, ow_set _ _ (fun _ _ _ => rfl), W_succ i (by omega)]
        exact ih (i + 1) f _ (by omega) (by omega) ⟨hd.room, hd.nod, by have := hd.le; omega, hd.in6, hd.len⟩
      · show ¬ ((((m.m.length - (outR r m.m).length : Nat) : Int)) ≠ IntKind.i64.wrap ((((part (2 * r) m.m).length - (part (2 * r) (outR r m.m)).length : Nat) : Int) + (((part (2 * r + 1) m.m).length - (part (2 * r + 1) (outR r m.m)).length : Nat) : Int)))
        rw [n1, n2, W_in (by simp; omega)]
        simp
        omega
    · rw [if_neg k1]
      obtain ⟨e, m', h', p1, p2, p3⟩ := h.put (by omega) hr hc a.At.Place hwa a.K a.V (by omega) (by omega)
      rw [p1, p2, Option.bind_some, Option.bind_some, if_neg (fun q => q rfl)]
      obtain ⟨n, x, y, l1, l2, l3, l4⟩ := line_same (by omega) h' (r := r) hc
      rw [l1, l2, Option.bind_some, Option.bind_some, if_neg (by rw [l3, l4]; exact fun q => q rfl), ow_set _ _ (fun j hj _ => p3 j hj), W_succ i (by omega)]
      exact ih (i + 1) f m' (by omega) (by omega) h'
theorem new1000 : cache_New 1000 = some (some ⟨1000, []⟩, 0) := by
  unfold cache_New
  rw [if_neg (by omega), if_neg (by omega)]
theorem owNil : List.replicate 6 (⟨1000, []⟩ : S_cache_Store) = ow [] := by
  apply List.ext_getElem (by simp [ow_len])
  intro i h1 h2
  rw [ow_get, List.getElem_replicate]; rfl
theorem apart_L1 (xs : List S_law12_Act) (hx : xs.length ≤ 60) (hw : ∀ a ∈ xs, a.At.Place ≤ 9223372036854775807) : ∀ (q j f : Nat), j + q = 6 → q < f → law12_CacheApart.L1 1000 xs ⟨1000, []⟩ f (List.replicate j ⟨1000, []⟩) (j : Int) = some true := by
  intro q
  induction q with
  | zero =>
    intro j f hj hf
    obtain ⟨f, rfl⟩ : ∃ q, f = q + 1 := ⟨f - 1, by omega⟩
    obtain rfl : j = 6 := by omega
    rw [law12_CacheApart.L1, if_neg (by omega), owNil]
    exact apart_L2 xs hx hw xs.length 0 1000 ⟨1000, []⟩ (by omega) (by omega) ⟨rfl, by simp, by simp, fun p hp => by simp at hp, fun p hp => by simp at hp⟩
  | succ q ih =>
    intro j f hj hf
    obtain ⟨f, rfl⟩ : ∃ q, f = q + 1 := ⟨f - 1, by omega⟩
    rw [law12_CacheApart.L1, if_pos (by omega), new1000, Option.bind_some]
    simp only [optc]
    rw [if_neg (by omega), app_ok _ _ (by simp; omega), Option.bind_some, W_succ j (by omega), ← List.replicate_succ']
    exact ih (j + 1) f (by omega) (by omega)
theorem cacheApart (xs : List S_law12_Act) (hw : ∀ a ∈ xs, a.At.Place ≤ 9223372036854775807) : law12_CacheApart 1000 xs = some true := by
  rw [law12_CacheApart, awake12, Option.bind_some, if_pos rfl]
  by_cases h : ((xs.length : Nat) : Int) > 60
  · rw [if_pos h, Option.bind_some]
  rw [if_neg h, new1000, Option.bind_some, optc_some, if_neg (fun q => q rfl)]
  exact apart_L1 xs (by omega) hw 6 0 1000 (by omega) (by omega)
theorem wf64_le {z : Int} (h : wf64 z) : z ≤ 9223372036854775807 := by
  unfold wf64 at h
  simp [Lit.wf] at h
  first | omega | (have h2 := IntKind.wrap_i64 z; omega)
end Go.Proofs.Ytdalpckomnkilaa
end
