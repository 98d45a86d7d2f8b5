/- What the law needs. -/
import Derived.Test.YtdalpckomnkilaaMCacheActsa
import Derived.Test.YtdalpckomnkilaaMCacheActsb
import Derived.Test.YtdalpckomnkilaaProg
section
namespace Go.Proofs.Ytdalpckomnkilaa
open Go Go.RowKit Go.Hp
set_option linter.unusedVariables false
set_option linter.unusedSimpArgs false
set_option maxRecDepth 100000
set_option maxHeartbeats 8000000

structure S_api_Spot where
  Request : Int
  Layer : Int
  Place : Int
  deriving DecidableEq

def S_api_Spot.pr : PR S_api_Spot 3 := pC (fun x => [.int .i64 x.Request, .int .i64 x.Layer, .int .i64 x.Place]) (fun _ => rfl) (fun _ => rfl)

structure S_cache_rows where
  k : (List Int)
  v : (List Int)
  deriving DecidableEq

def S_cache_rows.pr : PR S_cache_rows 2 := pMap (fun x : S_cache_rows => (x.k, x.v)) (pSeq (pRo (pInt .i8)) (pRo (pInt .i8)))

theorem S_cache_rows.op {w : World} {l : List HP} {cs : List Value} {x : S_cache_rows} (h : Ctx w (Hold S_cache_rows.pr cs x :: l)) : ∃ a0 q0 a1 q1, cs = [.slice a0 x.k.length q0, .slice a1 x.v.length q1] ∧ Ctx w (Hold (pRo (pInt .i8)) [.slice a0 x.k.length q0] x.k :: Hold (pRo (pInt .i8)) [.slice a1 x.v.length q1] x.v :: l) := by
  obtain ⟨R, Ss, hc⟩ := h
  match Ss, hc with
  | S :: Ss, hc =>
    obtain ⟨⟨rfl, ⟨_, _, rfl, ⟨_, rfl, a0, q0, rfl, hc0, hr0⟩, ⟨_, rfl, a1, q1, rfl, hc1, hr1⟩⟩⟩, h3⟩ := hc.all
    exact ⟨a0, q0, a1, q1, rfl, R, [] :: [] :: Ss, ⟨⟨rfl, _, rfl, a0, q0, rfl, hc0, hr0⟩, ⟨rfl, _, rfl, a1, q1, rfl, hc1, hr1⟩, h3⟩, by simpa using hc.nodup, by simpa using hc.own, hc.fz⟩
theorem S_cache_rows.cl {w : World} {l : List HP} {z0 : (List Int)} {z1 : (List Int)} {v0 v1 : Value} (h : Ctx w (Hold (pRo (pInt .i8)) [v0] z0 :: Hold (pRo (pInt .i8)) [v1] z1 :: l)) : Ctx w (Hold S_cache_rows.pr [v0, v1] (⟨z0, z1⟩ : S_cache_rows) :: l) := by
  obtain ⟨R, Ss, hc⟩ := h
  match Ss, hc with
  | S0 :: S1 :: Ss, hc =>
    obtain ⟨⟨rfl, _, e0, hr0⟩, ⟨rfl, _, e1, hr1⟩, h3⟩ := hc.all
    injection e0 with e0; subst e0
    injection e1 with e1; subst e1
    exact ⟨R, [] :: Ss, ⟨⟨rfl, ⟨_, _, rfl, ⟨_, rfl, hr0⟩, ⟨_, rfl, hr1⟩⟩⟩, h3⟩, by simpa using hc.nodup, by simpa using hc.own, hc.fz⟩
  | [], hc => exact hc.all.elim
  | [_], hc => exact hc.all.2.elim

def S_api_Spot.cs (x : S_api_Spot) : List Value := [.int .i64 x.Request, .int .i64 x.Layer, .int .i64 x.Place]
def S_api_Spot.ek (x : S_api_Spot) : Value := .agg (S_api_Spot.cs x).toArray
theorem S_api_Spot.eql (w : World) (x y : S_api_Spot) : (Op.equal 30 (.agg (S_api_Spot.cs x).toArray) (.agg (S_api_Spot.cs y).toArray)).run Try.prog w = .ok (decide (x = y)) w := by
  have hst : Try.prog.stoodInHeld 30 = false := by kernel_rfl
  have pt3 : ∀ {off : Nat} {xs : Array Value} {v : Value} {w : World}, xs[off]? = some v → (part 3 xs off).run Try.prog w = .ok v w := fun h => by simp [part, Try.isAgg3, h]
  have eq3 : ∀ (d : Nat) (k : IntKind) (a b : Int) (w : World), (Op.equalIn (d + 1) 3 (.int k a) (.int k b)).run Try.prog w = .ok (a == b) w := fun d k a b w => by simp [Op.equalIn, run_underlying Try.underlying3]
  have key : ∀ d, (Op.equalIn (d + 2) 30 (.agg (S_api_Spot.cs x).toArray) (.agg (S_api_Spot.cs y).toArray)).run Try.prog w = .ok (decide (x = y)) w := by
    intro d
    obtain ⟨a0, a1, a2⟩ := x
    obtain ⟨b0, b1, b2⟩ := y
    rw [Op.equalIn]
    simp [run_underlying Try.underlying30, S_api_Spot.cs, hst, pt3, eq3]
    repeat' split
    all_goals simp_all
  exact key 9998
theorem S_api_Spot.keyL : KeyL Try.prog 30 S_api_Spot S_api_Spot.ek := keyL_agg (f := S_api_Spot.cs) Try.underlying30 S_api_Spot.eql
  (fun b k w => by
    have h : ∀ n, (Instr.checkKey b (n + 2) 30 (.agg (S_api_Spot.cs k).toArray)).run Try.prog w = .ok () w := by
      intro n
      simp [Instr.checkKey, run_underlying Try.underlying30, S_api_Spot.cs, part, Try.isAgg3, run_underlying Try.underlying3]
    exact h 9998)
  (fun k => by
    have h : ∀ n, Instr.sameBits (n + 2) (.agg (S_api_Spot.cs k).toArray) (.agg (S_api_Spot.cs k).toArray) = true := by
      intro n
      simp [Instr.sameBits, S_api_Spot.cs]
    exact h 9998)

structure S_cache_Store where
  room : Int
  m : (List (S_api_Spot × S_cache_rows))
  deriving DecidableEq

def S_cache_Store.hp (b : Nat) (x : S_cache_Store) : HP := Ex fun v1 : Nat => Sep (B b [.int .i64 x.room, .map (some v1)] 63) (Mp S_api_Spot.ek (HV vfA S_cache_rows.pr) v1 x.m)

theorem S_cache_Store.uf {w : World} {l : List HP} {b : Nat} {x : S_cache_Store} (h : Ctx w (S_cache_Store.hp b x :: l)) : ∃ (v1 : Nat), Ctx w (B b [.int .i64 x.room, .map (some v1)] 63 :: Mp S_api_Spot.ek (HV vfA S_cache_rows.pr) v1 x.m :: l) := by
  obtain ⟨v1, h⟩ := Ctx.exF h
  replace h := Ctx.sepF h
  exact ⟨v1, h⟩
theorem S_cache_Store.fd {w : World} {l : List HP} {b : Nat} {x : S_cache_Store} {v1 : Nat} (h : Ctx w (B b [.int .i64 x.room, .map (some v1)] 63 :: Mp S_api_Spot.ek (HV vfA S_cache_rows.pr) v1 x.m :: l)) : Ctx w (S_cache_Store.hp b x :: l) := Ctx.exB _ _ (Ctx.sepB h)

structure S_law12_Act where
  Kind : Int
  At : S_api_Spot
  K : (List Int)
  V : (List Int)
  deriving DecidableEq

def S_law12_Act.pr : PR S_law12_Act 6 := pMap (fun x : S_law12_Act => (x.Kind, x.At, x.K, x.V)) (pSeq (pInt .i64) (pSeq S_api_Spot.pr (pSeq (pRo (pInt .i8)) (pRo (pInt .i8)))))

theorem S_law12_Act.op {w : World} {l : List HP} {cs : List Value} {x : S_law12_Act} (h : Ctx w (Hold S_law12_Act.pr cs x :: l)) : ∃ a4 q4 a5 q5, cs = [.int .i64 x.Kind, .int .i64 x.At.Request, .int .i64 x.At.Layer, .int .i64 x.At.Place, .slice a4 x.K.length q4, .slice a5 x.V.length q5] ∧ Ctx w (Hold (pRo (pInt .i8)) [.slice a4 x.K.length q4] x.K :: Hold (pRo (pInt .i8)) [.slice a5 x.V.length q5] x.V :: l) := by
  obtain ⟨R, Ss, hc⟩ := h
  match Ss, hc with
  | S :: Ss, hc =>
    obtain ⟨⟨rfl, ⟨_, _, rfl, rfl, ⟨_, _, rfl, rfl, ⟨_, _, rfl, ⟨_, rfl, a4, q4, rfl, hc4, hr4⟩, ⟨_, rfl, a5, q5, rfl, hc5, hr5⟩⟩⟩⟩⟩, h3⟩ := hc.all
    exact ⟨a4, q4, a5, q5, rfl, R, [] :: [] :: Ss, ⟨⟨rfl, _, rfl, a4, q4, rfl, hc4, hr4⟩, ⟨rfl, _, rfl, a5, q5, rfl, hc5, hr5⟩, h3⟩, by simpa using hc.nodup, by simpa using hc.own, hc.fz⟩
structure S_ref12_Row where
  At : S_api_Spot
  K : (List Int)
  V : (List Int)
  deriving DecidableEq

def S_ref12_Row.pr : PR S_ref12_Row 5 := pMap (fun x : S_ref12_Row => (x.At, x.K, x.V)) (pSeq S_api_Spot.pr (pSeq (pRo (pInt .i8)) (pRo (pInt .i8))))

theorem S_ref12_Row.op {w : World} {l : List HP} {cs : List Value} {x : S_ref12_Row} (h : Ctx w (Hold S_ref12_Row.pr cs x :: l)) : ∃ a3 q3 a4 q4, cs = [.int .i64 x.At.Request, .int .i64 x.At.Layer, .int .i64 x.At.Place, .slice a3 x.K.length q3, .slice a4 x.V.length q4] ∧ Ctx w (Hold (pRo (pInt .i8)) [.slice a3 x.K.length q3] x.K :: Hold (pRo (pInt .i8)) [.slice a4 x.V.length q4] x.V :: l) := by
  obtain ⟨R, Ss, hc⟩ := h
  match Ss, hc with
  | S :: Ss, hc =>
    obtain ⟨⟨rfl, ⟨_, _, rfl, rfl, ⟨_, _, rfl, ⟨_, rfl, a3, q3, rfl, hc3, hr3⟩, ⟨_, rfl, a4, q4, rfl, hc4, hr4⟩⟩⟩⟩, h3⟩ := hc.all
    exact ⟨a3, q3, a4, q4, rfl, R, [] :: [] :: Ss, ⟨⟨rfl, _, rfl, a3, q3, rfl, hc3, hr3⟩, ⟨rfl, _, rfl, a4, q4, rfl, hc4, hr4⟩, h3⟩, by simpa using hc.nodup, by simpa using hc.own, hc.fz⟩
theorem S_ref12_Row.cl {w : World} {l : List HP} {z0 : Int} {z1 : Int} {z2 : Int} {z3 : (List Int)} {z4 : (List Int)} {v3 v4 : Value} (h : Ctx w (Hold (pRo (pInt .i8)) [v3] z3 :: Hold (pRo (pInt .i8)) [v4] z4 :: l)) : Ctx w (Hold S_ref12_Row.pr [.int .i64 z0, .int .i64 z1, .int .i64 z2, v3, v4] (⟨⟨z0, z1, z2⟩, z3, z4⟩ : S_ref12_Row) :: l) := by
  obtain ⟨R, Ss, hc⟩ := h
  match Ss, hc with
  | S3 :: S4 :: Ss, hc =>
    obtain ⟨⟨rfl, _, e3, hr3⟩, ⟨rfl, _, e4, hr4⟩, h3⟩ := hc.all
    injection e3 with e3; subst e3
    injection e4 with e4; subst e4
    exact ⟨R, [] :: Ss, ⟨⟨rfl, ⟨_, _, rfl, rfl, ⟨_, _, rfl, ⟨_, rfl, hr3⟩, ⟨_, rfl, hr4⟩⟩⟩⟩, h3⟩, by simpa using hc.nodup, by simpa using hc.own, hc.fz⟩
  | [], hc => exact hc.all.elim
  | [_], hc => exact hc.all.2.elim

structure S_ref12_Store where
  Room : Int
  L : (List S_ref12_Row)
  deriving DecidableEq

def S_ref12_Store.hp (b : Nat) (x : S_ref12_Store) : HP := Ex fun v1 : Value => Sep (B b [.int .i64 x.Room, v1] 53) (Own S_ref12_Row.pr 57 v1 x.L)

abbrev S_api_Spot.cz (x : S_api_Spot) : List Value := [.int .i64 x.Request, .int .i64 x.Layer, .int .i64 x.Place]
abbrev S_law12_Act.cz (x : S_law12_Act) (a4 : Option Addr) (q4 : Nat) (a5 : Option Addr) (q5 : Nat) : List Value := [.int .i64 x.Kind, .int .i64 x.At.Request, .int .i64 x.At.Layer, .int .i64 x.At.Place, .slice a4 x.K.length q4, .slice a5 x.V.length q5]
abbrev S_ref12_Row.cz (x : S_ref12_Row) (a3 : Option Addr) (q3 : Nat) (a4 : Option Addr) (q4 : Nat) : List Value := [.int .i64 x.At.Request, .int .i64 x.At.Layer, .int .i64 x.At.Place, .slice a3 x.K.length q3, .slice a4 x.V.length q4]
abbrev C10 := @Try.call10
abbrev C11 := @Try.call11
abbrev C12 := @Try.call12
abbrev C13 := @Try.call13
abbrev C14 := @Try.call14
abbrev C15 := @Try.call15
abbrev C16 := @Try.call16
abbrev C17 := @Try.call17
abbrev C18 := @Try.call18
abbrev C19 := @Try.call19
abbrev C20 := @Try.call20
abbrev C21 := @Try.call21
abbrev C22 := @Try.call22
abbrev C23 := @Try.call23
abbrev C24 := @Try.call24
abbrev C25 := @Try.call25
abbrev C26 := @Try.call26
abbrev C27 := @Try.call27
abbrev C28 := @Try.call28
abbrev C29 := @Try.call29
abbrev C30 := @Try.call30
abbrev C31 := @Try.call31
abbrev C32 := @Try.call32
abbrev C7 := @Try.call7
abbrev C8 := @Try.call8
abbrev C9 := @Try.call9
abbrev F10 := @Try.func10
abbrev F11 := @Try.func11
abbrev F12 := @Try.func12
abbrev F13 := @Try.func13
abbrev F14 := @Try.func14
abbrev F15 := @Try.func15
abbrev F16 := @Try.func16
abbrev F17 := @Try.func17
abbrev F18 := @Try.func18
abbrev F19 := @Try.func19
abbrev F20 := @Try.func20
abbrev F21 := @Try.func21
abbrev F22 := @Try.func22
abbrev F23 := @Try.func23
abbrev F24 := @Try.func24
abbrev F25 := @Try.func25
abbrev F26 := @Try.func26
abbrev F27 := @Try.func27
abbrev F28 := @Try.func28
abbrev F29 := @Try.func29
abbrev F32 := @Try.func32
abbrev F6 := @Try.func6
abbrev F7 := @Try.func7
abbrev F8 := @Try.func8
abbrev F9 := @Try.func9
abbrev G3 := @Try.isAgg3
abbrev G30 := @Try.isAgg30
abbrev G31 := @Try.isAgg31
abbrev G33 := @Try.isAgg33
abbrev G42 := @Try.isAgg42
abbrev G47 := @Try.isAgg47
abbrev G51 := @Try.isAgg51
abbrev G57 := @Try.isAgg57
abbrev G61 := @Try.isAgg61
abbrev G66 := @Try.isAgg66
abbrev M10 := @Try.ntmps10
abbrev M11 := @Try.ntmps11
abbrev M12 := @Try.ntmps12
abbrev M13 := @Try.ntmps13
abbrev M14 := @Try.ntmps14
abbrev M15 := @Try.ntmps15
abbrev M16 := @Try.ntmps16
abbrev M17 := @Try.ntmps17
abbrev M18 := @Try.ntmps18
abbrev M19 := @Try.ntmps19
abbrev M20 := @Try.ntmps20
abbrev M21 := @Try.ntmps21
abbrev M22 := @Try.ntmps22
abbrev M23 := @Try.ntmps23
abbrev M24 := @Try.ntmps24
abbrev M25 := @Try.ntmps25
abbrev M26 := @Try.ntmps26
abbrev M27 := @Try.ntmps27
abbrev M28 := @Try.ntmps28
abbrev M29 := @Try.ntmps29
abbrev M32 := @Try.ntmps32
abbrev M6 := @Try.ntmps6
abbrev M7 := @Try.ntmps7
abbrev M8 := @Try.ntmps8
abbrev M9 := @Try.ntmps9
abbrev R10 := @Try.results10
abbrev R11 := @Try.results11
abbrev R12 := @Try.results12
abbrev R13 := @Try.results13
abbrev R14 := @Try.results14
abbrev R15 := @Try.results15
abbrev R16 := @Try.results16
abbrev R17 := @Try.results17
abbrev R18 := @Try.results18
abbrev R19 := @Try.results19
abbrev R20 := @Try.results20
abbrev R21 := @Try.results21
abbrev R22 := @Try.results22
abbrev R23 := @Try.results23
abbrev R24 := @Try.results24
abbrev R25 := @Try.results25
abbrev R26 := @Try.results26
abbrev R27 := @Try.results27
abbrev R28 := @Try.results28
abbrev R29 := @Try.results29
abbrev R32 := @Try.results32
abbrev R6 := @Try.results6
abbrev R7 := @Try.results7
abbrev R8 := @Try.results8
abbrev R9 := @Try.results9
abbrev U22 := @Try.underlying22
abbrev U24 := @Try.underlying24
abbrev U3 := @Try.underlying3
abbrev U30 := @Try.underlying30
abbrev U31 := @Try.underlying31
abbrev U33 := @Try.underlying33
abbrev U37 := @Try.underlying37
abbrev U4 := @Try.underlying4
abbrev U47 := @Try.underlying47
abbrev U51 := @Try.underlying51
abbrev U53 := @Try.underlying53
abbrev U57 := @Try.underlying57
abbrev U61 := @Try.underlying61
abbrev U63 := @Try.underlying63
abbrev U66 := @Try.underlying66
abbrev U72 := @Try.underlying72
abbrev V3 := @Try.zeroValue3
abbrev V30 := @Try.zeroValue30
abbrev V31 := @Try.zeroValue31
abbrev V33 := @Try.zeroValue33
abbrev V42 := @Try.zeroValue42
abbrev V57 := @Try.zeroValue57
abbrev V66 := @Try.zeroValue66
abbrev Z3 := @Try.sizeOf3
abbrev Z30 := @Try.sizeOf30
abbrev Z31 := @Try.sizeOf31
abbrev Z33 := @Try.sizeOf33
abbrev Z42 := @Try.sizeOf42
abbrev Z51 := @Try.sizeOf51
abbrev Z57 := @Try.sizeOf57
abbrev Z61 := @Try.sizeOf61
abbrev Z66 := @Try.sizeOf66
theorem S_ref12_Store.uf {w : World} {l : List HP} {b : Nat} {x : S_ref12_Store} (h : Ctx w (S_ref12_Store.hp b x :: l)) : ∃ (a1 : Option Addr) (q1 : Nat), Ctx w (B b [.int .i64 x.Room, .slice a1 x.L.length q1] 53 :: Own S_ref12_Row.pr 57 (.slice a1 x.L.length q1) x.L :: l) := by
  obtain ⟨v1, h⟩ := Ctx.exF h
  replace h := Ctx.sepF h
  obtain ⟨a1, q1, u1⟩ := h.rd (k := 1) rfl rfl reads_own; subst u1
  exact ⟨a1, q1, h⟩
theorem S_ref12_Store.fd {w : World} {l : List HP} {b : Nat} {x : S_ref12_Store} {v1 : Value} (h : Ctx w (B b [.int .i64 x.Room, v1] 53 :: Own S_ref12_Row.pr 57 v1 x.L :: l)) : Ctx w (S_ref12_Store.hp b x :: l) := Ctx.exB _ _ (Ctx.sepB h)

def slices_Index_s_int_int.L1 (x0 : (List Int)) (x1 : Int) : Nat → Int → Option (Int)
  | 0, _ => none
  | m1 + 1, j1 =>
    if j1 < ((x0.length : Nat) : Int) then
      (idx x0 j1).bind fun y4 =>
      if x1 = y4 then
        some j1
      else
        (slices_Index_s_int_int.L1 x0 x1 m1) (IntKind.i64.wrap (j1 + 1))
    else
      some (-1)

def slices_Index_s_int_int (N : Nat) (x0 : (List Int)) (x1 : Int) : Option (Int) :=
  slices_Index_s_int_int.L1 x0 x1 N 0

theorem slices_Index_s_int_int_any {N nx0 qx0 : Nat} {x0 : (List Int)} {ax0 : Option Addr} {P0 : HP} {x1 r : Int} {Fr : List HP} {w : World} {K : Value → World → Prop} (hrd0 : Reads P0 (pInt .i64) (.slice ax0 nx0 qx0) x0) (hc : Ctx w (P0 :: Fr)) (hp : slices_Index_s_int_int N x0 x1 = some r)
    (k : ∀ w', Ctx w' (P0 :: Fr) → K (.int .i64 r) w') : Calls Try.prog 32 #[.slice ax0 nx0 qx0, .int .i64 x1] w (Ret K) := by
 unfold slices_Index_s_int_int at hp; refine Center2 F32 M32 rfl rfl ?_; obtain ⟨hn0, _⟩ := Ctx.rdLen hc (k := 0) rfl rfl hrd0; subst hn0; refine Wseq (Wreg ?_); refine au 1 rfl <| rn (qn (Wseq (Wseq (Wreg ?_)))); refine au 1 rfl <| sz (ln rfl U47) <| au 1 rfl <| rn (qn (Wblk ?_)); refine Wloop (rg [4, 2, 8, 11]) [8] (fun m vs w' => ∃ j1 : Int, vs = [.int .i64 j1] ∧ slices_Index_s_int_int.L1 x0 x1 m j1 = some r ∧ Ctx w' (P0 :: Fr)) N ?_ ?_
 · exact ⟨0, rfl, hp, hc⟩
 · clear hp hc; intro m vs u w2 hJ; obtain ⟨j1, rfl, hp, hc⟩ := hJ; rcases m with _ | m1
   · cases (show none = some r from hp)
   rw [slices_Index_s_int_int.L1] at hp; refine Wseq (Wreg ?_); refine au 1 rfl <| rn (qn (Wseq ?_)); refine Wif hp (fun _ hp => ?_) fun _ hp => ?_
   · refine Wexit (qx (qx (be (qn (Wseq (Wreg ?_)))))); refine au 1 rfl <| rn (qn (Wret ?_)); obtain rfl := sj hp; exact fz R32 M32 (k _ hc)
   · refine Wskip (qn (Wseq (Wblk (Wseq (Wreg ?_))))); refine au 2 rfl <| rn (qn (Wseq (Wreg ?_))); refine au 3 rfl ?_; obtain ⟨y4, hy4, hp⟩ := bind_some hp; obtain ⟨b7, o8, rfl, hi5, hi6⟩ := hc.ra 0 hrd0 hy4; refine sz (ixx rfl rfl U47 Z3 hi5 hi6 rfl) ?_; have hcell11 := hc.rv 0 hrd0 hy4; refine sz (ld rfl G3 (hcell11 0 _ rfl)) <| au 1 rfl <| rn (qn ?_); refine Wif hp (fun _ hp => ?_) fun _ hp => ?_
     · refine Wskip (bn (qn (Wreg ?_))); refine au 2 rfl <| rn (qn ?_); exact ⟨m1, Nat.lt_succ_self _, ⟨(IntKind.i64.wrap (j1 + 1)), rfl, hp, hc⟩, (kl rfl k0)⟩
     · refine Wseq (Wreg ?_); refine au 2 rfl <| rn (qn (Wret (br (qr (qr (br (qr ?_))))))); obtain rfl := sj hp; exact fz R32 M32 (k _ hc)

def slices_Contains_s_int_int (N : Nat) (x0 : (List Int)) (x1 : Int) : Option (Bool) :=
  (slices_Index_s_int_int N x0 x1).bind fun r1 =>
  some (decide (r1 ≥ 0))

theorem slices_Contains_s_int_int_any {N nx0 qx0 : Nat} {x0 : (List Int)} {ax0 : Option Addr} {P0 : HP} {x1 : Int} {Fr : List HP} {w : World} {r : Bool} {K : Value → World → Prop} (hrd0 : Reads P0 (pInt .i64) (.slice ax0 nx0 qx0) x0) (hc : Ctx w (P0 :: Fr)) (hp : slices_Contains_s_int_int N x0 x1 = some r)
    (k : ∀ w', Ctx w' (P0 :: Fr) → K (.bool r) w') : Calls Try.prog 26 #[.slice ax0 nx0 qx0, .int .i64 x1] w (Ret K) := by
 unfold slices_Contains_s_int_int at hp; refine Center2 F26 M26 rfl rfl ?_; obtain ⟨hn0, _⟩ := Ctx.rdLen hc (k := 0) rfl rfl hrd0; subst hn0; refine Wseq (Wreg ?_); refine au 1 rfl <| rn (qn (Wseq (Wreg ?_))); refine au 2 rfl ?_; obtain ⟨r1, hr1, hp⟩ := bind_some hp; refine kz C32 ?_; refine slices_Index_s_int_int_any hrd0 hc hr1 ?_; clear hc; intro w2 hc; refine au 2 rfl <| rn (qn (Wret ?_)); obtain rfl := sj hp; exact fz R26 M26 (k _ hc)

def slices_Clone_s_int8_int8 (x0 : (List Int)) : Option ((List Int)) :=
  (app ([]) x0).bind fun z3 =>
  some z3

theorem slices_Clone_s_int8_int8_any {x0 r : (List Int)} {ax0 : Option Addr} {nx0 qx0 : Nat} {P0 : HP} {Fr : List HP} {w : World} {K : Value → World → Prop} (hrd0 : Reads P0 (pInt .i8) (.slice ax0 nx0 qx0) x0) (hc : Ctx w (P0 :: Fr)) (hp : slices_Clone_s_int8_int8 x0 = some r)
    (k : ∀ a9 n10 q11 w', Ctx w' (Own (pInt .i8) 42 (.slice a9 n10 q11) r :: P0 :: Fr) → K (.slice a9 n10 q11) w') : Calls Try.prog 29 #[.slice ax0 nx0 qx0] w (Ret K) := by
 unfold slices_Clone_s_int8_int8 at hp; refine Center1 F29 M29 rfl rfl ?_; obtain ⟨hn0, _⟩ := Ctx.rdLen hc (k := 0) rfl rfl hrd0; subst hn0; rcases ax0 with _ | ax0
 · have hx := Ctx.nilRows hc (k := 0) rfl rfl hrd0; subst hx; obtain ⟨z, hz, hp⟩ := bind_some hp; obtain rfl := sj hp; obtain ⟨_, hz⟩ := app_some hz; subst hz; refine Wseq (Wreg ?_); refine au 1 rfl <| rn (qn (Wseq (Wseq (Wreg ?_)))); refine au 1 rfl <| sz (v := .bool true) (esnT U31 rfl rfl) <| rn (qn (Wct rfl (Wseq (Wreg ?_)))); refine au 1 rfl <| rn (qn (Wret (qr ?_))); replace hc := hc.nilOwn (pInt .i8) 42; exact fz R29 M29 (k _ _ _ _ hc)
 · refine Wseq (Wreg ?_); refine au 1 rfl <| rn (qn (Wseq (Wseq (Wreg ?_)))); refine au 1 rfl <| sz (v := .bool false) (esnF U31 rfl rfl) <| rn (qn (Wcf rfl (Wskip (qn (Wseq (Wreg ?_)))))); refine rsE (Ctx.builtOp (css := []) (xs := ([] : List Int)) (E := (pInt .i8)) hc U31 Z42 V42 rfl rfl rfl rfl rfl rfl rfl rfl) rfl ?_; clear hc; rintro _ w2 ⟨a1, rfl, hc⟩; refine au 1 rfl ?_; obtain ⟨z3, hz3, hp⟩ := bind_some hp; obtain ⟨hg4, e5⟩ := app_some hz3; refine rsE (hc.ap 0 1 hrd0 U31 Try.t42 hg4) rfl ?_; clear hc; rintro _ w8 ⟨a6, q7, rfl, hc⟩; rw [← e5] at hc ⊢; replace hc := Ctx.n0 hc; refine au 1 rfl <| rn (qn (Wret ?_)); obtain rfl := sj hp; exact fz R29 M29 (k _ _ _ _ hc)

def slices_Equal_s_int8_int8.L1 (x0 : (List Int)) (x1 : (List Int)) : Nat → Int → Option (Bool)
  | 0, _ => none
  | m1 + 1, j2 =>
    if j2 < ((x0.length : Nat) : Int) then
      (idx x0 j2).bind fun y6 =>
      (idx x1 j2).bind fun y15 =>
      if y6 ≠ y15 then
        some false
      else
        (slices_Equal_s_int8_int8.L1 x0 x1 m1) (IntKind.i64.wrap (j2 + 1))
    else
      some true

def slices_Equal_s_int8_int8 (N : Nat) (x0 : (List Int)) (x1 : (List Int)) : Option (Bool) :=
  if ((x0.length : Nat) : Int) ≠ ((x1.length : Nat) : Int) then
    some false
  else
    slices_Equal_s_int8_int8.L1 x0 x1 N 0

theorem slices_Equal_s_int8_int8_any {N nx0 qx0 nx1 qx1 : Nat} {x0 x1 : (List Int)} {ax0 ax1 : Option Addr} {P0 P1 : HP} {Fr : List HP} {w : World} {r : Bool} {K : Value → World → Prop} (hrd0 : Reads P0 (pInt .i8) (.slice ax0 nx0 qx0) x0) (hrd1 : Reads P1 (pInt .i8) (.slice ax1 nx1 qx1) x1) (hc : Ctx w (P0 :: P1 :: Fr)) (hp : slices_Equal_s_int8_int8 N x0 x1 = some r)
    (k : ∀ w', Ctx w' (P0 :: P1 :: Fr) → K (.bool r) w') : Calls Try.prog 28 #[.slice ax0 nx0 qx0, .slice ax1 nx1 qx1] w (Ret K) := by
 unfold slices_Equal_s_int8_int8 at hp; refine Center2 F28 M28 rfl rfl ?_; obtain ⟨hn0, _⟩ := Ctx.rdLen hc (k := 0) rfl rfl hrd0; subst hn0; obtain ⟨hn1, _⟩ := Ctx.rdLen hc (k := 1) rfl rfl hrd1; subst hn1; refine Wseq (Wreg ?_); refine au 1 rfl <| rn (qn (Wseq (Wseq (Wreg ?_)))); refine au 1 rfl <| sz (ln rfl U31) <| au 1 rfl <| sz (ln rfl U31) <| au 1 rfl <| rn (qn ?_); refine Wif hp (fun _ hp => ?_) fun _ hp => ?_
 · refine Wskip (qn (Wseq (Wseq (Wreg ?_)))); refine au 1 rfl <| sz (ln rfl U31) <| au 1 rfl <| rn (qn (Wblk ?_)); refine Wloop (rg [4, 2, 13, 13]) [13] (fun m vs w' => ∃ j2 : Int, vs = [.int .i64 j2] ∧ slices_Equal_s_int8_int8.L1 x0 x1 m j2 = some r ∧ Ctx w' (P0 :: P1 :: Fr)) N ?_ ?_
   · exact ⟨0, rfl, hp, hc⟩
   · clear hp hc; intro m vs u w3 hJ; obtain ⟨j2, rfl, hp, hc⟩ := hJ; rcases m with _ | m1
     · cases (show none = some r from hp)
     rw [slices_Equal_s_int8_int8.L1] at hp; refine Wseq (Wreg ?_); refine au 1 rfl <| rn (qn (Wseq ?_)); refine Wif hp (fun _ hp => ?_) fun _ hp => ?_
     · refine Wexit (qx (qx (be (qn (Wseq (Wreg ?_)))))); refine au 1 rfl <| rn (qn (Wret ?_)); obtain rfl := sj hp; exact fz R28 M28 (k _ hc)
     · refine Wskip (qn (Wseq (Wblk (Wseq (Wreg ?_))))); refine au 2 rfl <| rn (qn (Wseq ?_)); replace hc := hc.drew; refine Wdrw (fun _ w' => w' = World.drew w3) [0, 0, 3, 7, 0, 0, 48, 112, 255] 0 0 rfl (by kernel_rfl) (fun _ _ => rfl) ?_; generalize hw : World.drew w3 = w5 at *; clear hw; refine ad_ 2 rfl ?_; obtain ⟨y6, hy6, hp⟩ := bind_some hp; obtain ⟨b9, o10, rfl, hi7, hi8⟩ := hc.ra 0 hrd0 hy6; refine dE (ixx rfl rfl U31 Z42 hi7 hi8 rfl) rfl rfl ?_; have hcell13 := hc.rv 0 hrd0 hy6; refine dE (ld rfl G42 (hcell13 0 _ rfl)) rfl rfl <| ad_ 2 rfl ?_; obtain ⟨y15, hy15, hp⟩ := bind_some hp; obtain ⟨b18, o19, rfl, hi16, hi17⟩ := hc.ra 1 hrd1 hy15; refine dE (ixx rfl rfl U31 Z42 hi16 hi17 rfl) rfl rfl ?_; have hcell22 := hc.rv 1 hrd1 hy15; refine dE (ld rfl G42 (hcell22 0 _ rfl)) rfl rfl <| ad_ 1 rfl <| dn (qn ?_); refine Wif hp (fun _ hp => ?_) fun _ hp => ?_
       · refine Wskip (bn (qn (Wreg ?_))); refine au 2 rfl <| rn (qn ?_); exact ⟨m1, Nat.lt_succ_self _, ⟨(IntKind.i64.wrap (j2 + 1)), rfl, hp, hc⟩, (kl rfl k0)⟩
       · refine Wseq (Wreg ?_); refine au 1 rfl <| rn (qn (Wret (br (qr (qr (br (qr ?_))))))); obtain rfl := sj hp; exact fz R28 M28 (k _ hc)
 · refine Wseq (Wreg ?_); refine au 1 rfl <| rn (qn (Wret (qr ?_))); obtain rfl := sj hp; exact fz R28 M28 (k _ hc)

def maps_DeleteFunc_map_api_Spot_cache_rows_api_Spot_cache_rows.L1 (x1 : (S_api_Spot → S_cache_rows → Option Bool)) : Nat → (List (S_api_Spot × S_cache_rows)) → (List S_api_Spot) → Option ((List (S_api_Spot × S_cache_rows)))
  | 0, _, _ => none
  | m1 + 1, j4, j5 =>
    anyK (remK j4 j5) (
      some j4) fun kk8 =>
      (mget j4 kk8).bind fun y13 =>
      (x1 (⟨kk8.Request, kk8.Layer, kk8.Place⟩ : S_api_Spot) (⟨y13.k, y13.v⟩ : S_cache_rows)).bind fun r28 =>
      if r28 = true then
        (maps_DeleteFunc_map_api_Spot_cache_rows_api_Spot_cache_rows.L1 x1 m1) (mdel j4 (⟨kk8.Request, kk8.Layer, kk8.Place⟩ : S_api_Spot)) (kk8 :: j5)
      else
        (maps_DeleteFunc_map_api_Spot_cache_rows_api_Spot_cache_rows.L1 x1 m1) j4 (kk8 :: j5)

def maps_DeleteFunc_map_api_Spot_cache_rows_api_Spot_cache_rows (N : Nat) (x0 : (List (S_api_Spot × S_cache_rows))) (x1 : (S_api_Spot → S_cache_rows → Option Bool)) : Option ((List (S_api_Spot × S_cache_rows))) :=
  chk ((x0.map Prod.fst).Nodup) <|
  maps_DeleteFunc_map_api_Spot_cache_rows_api_Spot_cache_rows.L1 x1 N x0 ([])

theorem maps_DeleteFunc_map_api_Spot_cache_rows_api_Spot_cache_rows_any {N b0 : Nat} {x0 r : (List (S_api_Spot × S_cache_rows))} {x1 : (S_api_Spot → S_cache_rows → Option Bool)} {fid1 : FuncId} {cap1 : List Value} {Fr : List HP} {w : World} {K : Value → World → Prop} (hcl1 : ∀ a w, (callFunc fid1 a).run Try.prog w = .ok (.enter fid1 a) w) (hf1 : ∀ (y0 : S_api_Spot) (y1 : S_cache_rows) (a1 : Option Addr) (n2 : Nat) (q3 : Nat) (a4 : Option Addr) (n5 : Nat) (q6 : Nat) (Qs : List HP) (w : World) (r : Bool) (K : Value → World → Prop), Ctx w (Hold (pRo (pInt .i8)) [.slice a1 n2 q3] y1.k :: Hold (pRo (pInt .i8)) [.slice a4 n5 q6] y1.v :: (Qs ++ Fr)) → x1 y0 y1 = some r → (∀ w', Ctx w' (Qs ++ Fr) → K (.bool r) w') → Calls Try.prog fid1 (([.agg (S_api_Spot.cz y0).toArray, .agg #[.slice a1 n2 q3, .slice a4 n5 q6]] : List Value) ++ cap1).toArray w (Ret K)) (hc : Ctx w (Mp S_api_Spot.ek (HV vfA S_cache_rows.pr) b0 x0 :: Fr)) (hp : maps_DeleteFunc_map_api_Spot_cache_rows_api_Spot_cache_rows N x0 x1 = some r)
    (k : ∀ w', Ctx w' (Mp S_api_Spot.ek (HV vfA S_cache_rows.pr) b0 r :: Fr) → K (.tuple #[]) w') : Calls Try.prog 24 #[.map (some b0), .func (.func fid1) #[] cap1.toArray] w (Ret K) := by
 unfold maps_DeleteFunc_map_api_Spot_cache_rows_api_Spot_cache_rows at hp; refine Center2 F24 M24 rfl rfl ?_; refine Wseq (Wreg ?_); refine au 1 rfl ?_; replace hp := chk_some hp; obtain ⟨hg1, hp⟩ := hp; refine rsE (Ctx.itMake hc (i := 0) rfl rfl U61 rfl hg1) rfl ?_; clear hc; rintro _ w3 ⟨b2, rfl, hc⟩; replace hc := Ctx.n0 hc; refine rn (qn (Wblk ?_)); refine Wloop (rg [4, 2, 8, 11]) [] (fun m vs w' => ∃ j4 : (List (S_api_Spot × S_cache_rows)), ∃ j5 : (List S_api_Spot), ∃ c6 : Option (S_api_Spot × Value), vs = [] ∧ maps_DeleteFunc_map_api_Spot_cache_rows_api_Spot_cache_rows.L1 x1 m j4 j5 = some r ∧ Ctx w' (MpI S_api_Spot.ek (HV vfA S_cache_rows.pr) b0 b2 j4 j5 c6 :: Fr)) N ?_ ?_
 · exact ⟨x0, [], none, rfl, hp, hc⟩
 · clear hp hc; intro m vs u w7 hJ; obtain ⟨j4, j5, c6, rfl, hp, hc⟩ := hJ; rcases m with _ | m1
   · cases (show none = some r from hp)
   rw [maps_DeleteFunc_map_api_Spot_cache_rows_api_Spot_cache_rows.L1] at hp; refine Wseq (Wreg ?_); refine rsE (Ctx.itNext hc (i := 0) rfl rfl rfl) rfl ?_; clear hc; rintro _ w12 (⟨hr9, rfl, hc⟩ | ⟨kk8, y13, c14, hk10, hg11, rfl, hc⟩)
   · replace hp := anyK_nil hp hr9; replace hc := Ctx.itEnd hc (i := 0) rfl rfl rfl; replace hc : Ctx w12 (Mp S_api_Spot.ek (HV vfA S_cache_rows.pr) b0 j4 :: Fr) := hc; refine au 1 rfl <| rn (qn (Wseq (Wcf rfl (Wexit (qx (qx (be ?_))))))); refine f0n R24 ?_; obtain rfl := sj hp; exact ⟨_, rfl, k _ hc⟩
   · replace hp := anyK_mem hp hk10; replace hp := bind_of hp hg11; replace hc := S_cache_rows.op hc; obtain ⟨a16, q17, a18, q19, u15, hc⟩ := hc; subst u15; replace hc : Ctx w12 (hR .i8 a16 q17 y13.k :: hR .i8 a18 q19 y13.v :: MpI S_api_Spot.ek (HV vfA S_cache_rows.pr) b0 b2 j4 (kk8 :: j5) (some (kk8, vfA [.slice a16 y13.k.length q17, .slice a18 y13.v.length q19])) :: Fr) := hc; refine au 1 rfl <| rn (qn (Wseq (Wct rfl (Wskip (qn (Wblk (Wseq (Wreg ?_)))))))); refine sz (v := .tuple #[.agg (S_api_Spot.cz kk8).toArray, .agg #[.slice a16 y13.k.length q17, .slice a18 y13.v.length q19]]) (Ctx.itEntry (k := kk8) hc (i := 2) rfl rfl rfl) <| au 2 rfl ?_; refine rsE (Ctx.allocOp (cs := [.int .i64 0, .int .i64 0, .int .i64 0]) hc V30 rfl) rfl ?_; clear hc; rintro _ w22 ⟨b20, rfl, hc⟩; refine rsE (Ctx.allocOp (cs := [.slice none 0 0, .slice none 0 0]) hc V66 rfl) rfl ?_; clear hc; rintro _ w25 ⟨b23, rfl, hc⟩; refine pa hc 1 Z30 ?_; clear hc; rintro w26 hc; refine pa hc 0 Z66 ?_; clear hc; rintro w27 hc; refine rn (qn (Wseq (Wreg ?_))); refine au 1 rfl <| lg G30 Z30 hc 1 ?_; refine lg G66 Z66 hc 0 ?_; replace hc := hc.dz 2; replace hc := hc.dz 4; replace hp := bind_some hp; obtain ⟨r28, hr28, hp⟩ := hp; replace hc := hc.m [2]; refine rc (cv (fi := []) (ca := cap1) (vs := ([.agg (S_api_Spot.cz kk8).toArray, .agg #[.slice a16 y13.k.length q17, .slice a18 y13.v.length q19]] : List Value) ++ cap1) hcl1 rfl rfl) rfl ?_; refine hf1 _ _ _ _ _ _ _ _ [B b23 [.slice a16 y13.k.length q17, .slice a18 y13.v.length q19] 66, B b20 (S_api_Spot.cz kk8) 30, hR .i8 a16 q17 y13.k, hR .i8 a18 q19 y13.v, MpI S_api_Spot.ek (HV vfA S_cache_rows.pr) b0 b2 j4 (kk8 :: j5) (some (kk8, vfA [.slice a16 y13.k.length q17, .slice a18 y13.v.length q19]))] _ _ _ hc hr28 ?_; clear hc; intro w29 hc; replace hc : Ctx w29 (B b23 [.slice a16 y13.k.length q17, .slice a18 y13.v.length q19] 66 :: B b20 (S_api_Spot.cz kk8) 30 :: hR .i8 a16 q17 y13.k :: hR .i8 a18 q19 y13.v :: MpI S_api_Spot.ek (HV vfA S_cache_rows.pr) b0 b2 j4 (kk8 :: j5) (some (kk8, vfA [.slice a16 y13.k.length q17, .slice a18 y13.v.length q19])) :: Fr) := hc; refine rn (qn ?_); cases hb30 : r28
     · replace hp := gneg hp (by rw [hb30]; exact Bool.false_ne_true); subst hb30; refine Wcf rfl (Wskip (bn (qn ?_))); replace hc := hc.m [7, 5, 3, 1]; exact ⟨m1, Nat.lt_succ_self _, ⟨j4, (kk8 :: j5), (some (kk8, vfA [.slice a16 y13.k.length q17, .slice a18 y13.v.length q19])), rfl, hp, hc⟩, (kl rfl k0)⟩
     · replace hp := gpos hp hb30; subst hb30; refine Wct rfl (Wreg ?_); refine au 1 rfl <| lg G30 Z30 hc 1 ?_; refine rvE (Ctx.itDel (k := kk8) S_api_Spot.keyL hc (i := 4) rfl rfl U61 rfl rfl) rfl ?_; clear hc; intro w31 hc; replace hc := Ctx.n4 hc; refine rn (bn (qn ?_)); replace hc := hc.m [7, 5, 3, 1]; exact ⟨m1, Nat.lt_succ_self _, ⟨(mdel j4 kk8), (kk8 :: j5), none, rfl, hp, hc⟩, (kl rfl k0)⟩

theorem bd_63_0_1 {ρ : Operand → Value} {w : World} {dst : Option Nat} {ty : TypeId} {pos : String} {after : Array Edge} {g : Option (Nat × Bool)} {x0 x1 : Operand} {k0 : IntKind} {a0 : Int} {a1 : Option Nat} (h0 : ρ x0 = (.int k0 a0)) (h1 : ρ x1 = (.map a1)) :
    (execOp ρ ⟨dst, .build 63 #[(0, x0), (1, x1)], ty, pos, after, g⟩).run Try.prog w = .ok (.value (.agg #[(.int k0 a0), (.map a1)])) w := by
  simp [execOp, Instr.build, Instr.fill, Try.zeroValue63, Try.runUnderlying63, Try.sizeOf3, Try.sizeOf61, h0, h1, Value.cells]

def cache_New (x0 : Int) : Option ((Option S_cache_Store) × Int) :=
  if x0 < 0 then
    some (none, 2)
  else
    if x0 > 1048576 then
      some (none, 2)
    else
      some ((some (⟨x0, []⟩ : S_cache_Store)), 0)

theorem cache_New_any {x0 : Int} {Fr : List HP} {w : World} {r : (Option S_cache_Store) × Int} {K : Value → World → Prop}  (hc : Ctx w (Fr)) (hp : cache_New x0 = some r)
    (k : ∀ (v8 : Value) w', Ctx w' (PtO S_cache_Store.hp v8 r.1 :: Fr) → K (.tuple #[v8, .int .i64 r.2]) w') : Calls Try.prog 8 #[.int .i64 x0] w (Ret K) := by
 unfold cache_New at hp; refine Center1 F8 M8 rfl rfl ?_; refine Wseq (Wreg ?_); refine au 2 rfl <| rn (qn (Wseq (Wseq (Wreg ?_)))); refine au 3 rfl ?_; cases hb1 : (decide (x0 < 0))
 · replace hp := gneg hp (of_decide_eq_false hb1); refine au 3 rfl <| rn (qn ?_); refine Wif hp (fun _ hp => ?_) fun _ hp => ?_
   · refine Wskip (qn (Wseq (Wreg ?_))); refine au 1 rfl ?_; refine rsE (Ctx.mpMake S_api_Spot.ek (HV vfA S_cache_rows.pr) hc) rfl ?_; clear hc; rintro _ w4 ⟨b3, rfl, hc⟩; refine sz (v := .agg #[.int .i64 x0, .map (some b3)]) (bd_63_0_1 rfl rfl) ?_; refine rsE (Ctx.boxOp (cs := [.int .i64 x0, .map (some b3)]) (v := .agg #[.int .i64 x0, .map (some b3)]) hc rfl rfl) rfl ?_; clear hc; rintro _ w7 ⟨b5, rfl, hc⟩; refine au 2 rfl <| rn (qn (Wret ?_)); replace hc := hc.m [2, 2]; replace hc := S_cache_Store.fd (x := (⟨x0, []⟩ : S_cache_Store)) hc; replace hc := Ctx.ptoSB S_cache_Store.hp hc; obtain rfl := sj hp; exact fz2 R8 M8 (k _ _ hc)
   · refine Wseq (Wreg ?_); refine au 2 rfl <| rn (qn (Wret (qr ?_))); replace hc := Ctx.ptoNB S_cache_Store.hp hc; obtain rfl := sj hp; exact fz2 R8 M8 (k _ _ hc)
 · replace hp := gpos hp (of_decide_eq_true hb1); (iterate 2 refine r0 rfl ?_); refine au 1 rfl <| rn (qn (Wct rfl (Wseq (Wreg ?_)))); refine au 2 rfl <| rn (qn (Wret (qr ?_))); replace hc := Ctx.ptoNB S_cache_Store.hp hc; obtain rfl := sj hp; exact fz2 R8 M8 (k _ _ hc)

def cache_Store_ahead (x0 : S_cache_Store) (x1 : S_api_Spot) : Option (Bool) :=
  if x1.Place = 0 then
    some true
  else
    (some ((mget x0.m (⟨x1.Request, x1.Layer, (IntKind.i64.wrap (x1.Place - 1))⟩ : S_api_Spot)).getD (⟨[], []⟩ : S_cache_rows))).bind fun y11 =>
    some ((mget x0.m (⟨x1.Request, x1.Layer, (IntKind.i64.wrap (x1.Place - 1))⟩ : S_api_Spot)).isSome)

theorem cache_Store_ahead_any {b0 : Nat} {x0 : S_cache_Store} {x1 : S_api_Spot} {Fr : List HP} {w : World} {r : Bool} {K : Value → World → Prop}  (hc : Ctx w (S_cache_Store.hp b0 x0 :: Fr)) (hp : cache_Store_ahead x0 x1 = some r)
    (k : ∀ w', Ctx w' (S_cache_Store.hp b0 x0 :: Fr) → K (.bool r) w') : Calls Try.prog 27 #[pt b0 0, .agg (S_api_Spot.cz x1).toArray] w (Ret K) := by
 unfold cache_Store_ahead at hp; refine Center2 F27 M27 rfl rfl ?_; refine Wseq (Wreg ?_); refine rsE (Ctx.boxOp (cs := (S_api_Spot.cz x1)) (v := .agg (S_api_Spot.cz x1).toArray) hc rfl rfl) rfl ?_; clear hc; rintro _ w3 ⟨b1, rfl, hc⟩; refine au 1 rfl <| rn (qn (Wseq (Wseq (Wreg ?_)))); refine fq 2 U30 Z3 G3 hc 0 ?_; refine au 1 rfl <| rn (qn ?_); refine Wif hp (fun _ hp => ?_) fun _ hp => ?_
 · refine Wskip (qn (Wseq (Wreg ?_))); refine fq 2 U30 Z3 G3 hc 0 ?_; refine au 1 rfl <| sz (v := pt b1 2) (fax 2 rfl U30 rfl Z3 rfl rfl rfl) <| po hc 0 Z3 ?_; clear hc; rintro w5 hc; refine rn (qn (Wseq ?_)); replace hc := hc.m [2]; replace hc := S_cache_Store.uf hc; obtain ⟨v6, hc⟩ := hc; replace hc := Ctx.mpoF hc (i := 1) rfl rfl; obtain ⟨o7, hc⟩ := hc; replace hc : Ctx w5 (B b0 [.int .i64 x0.room, .map (some v6)] 63 :: MpO S_api_Spot.ek (HV vfA S_cache_rows.pr) v6 o7 x0.m :: B b1 [.int .i64 x1.Request, .int .i64 x1.Layer, .int .i64 (IntKind.i64.wrap (x1.Place - 1))] 30 :: Fr) := hc; replace hc := hc.drew; refine Wdrw (fun j w' => (j = 3 → w'.cell? ⟨b0, 1, none⟩ = some (.map (some v6))) ∧ (j = 4 → ∀ j v, ([.int .i64 x1.Request, .int .i64 x1.Layer, .int .i64 (IntKind.i64.wrap (x1.Place - 1))] : List Value)[j]? = some v → w'.cell? ((⟨b1, 0, none⟩ : Addr).add j) = some v) ∧ (j = 5 → w'.heap[v6]? = some o7) ∧ True) [0, 1, 3, 7, 0, 31, 63, 127, 127, 0, 767, 2047] 0 0 rfl (by kernel_rfl) (fun j hj => ⟨fun _ => hc.cell (k := 0) rfl rfl rfl, fun _ => Ctx.cells hc (k := 2) rfl rfl 0 (vs := [.int .i64 x1.Request, .int .i64 x1.Layer, .int .i64 (IntKind.i64.wrap (x1.Place - 1))]) rfl, fun _ => Ctx.mpoPin hc (i := 1) rfl rfl, trivial⟩) ?_; generalize hw : World.drew w5 = w8 at *; clear hw; refine ad_ 2 rfl <| ds (v := pt b0 1) rfl (fun w' hF => fax 1 rfl U63 rfl Z61 rfl rfl rfl) rfl <| ds rfl (fun w' hF => ld rfl G61 ((hF.1 rfl))) rfl <| ds (v := .agg #[.int .i64 x1.Request, .int .i64 x1.Layer, .int .i64 (IntKind.i64.wrap (x1.Place - 1))]) rfl (fun w' hF => ldg rfl G30 Z30 rfl (hF.2.1 rfl)) rfl ?_; replace hc := Ctx.mpoFact true S_api_Spot.keyL hc (i := 1) rfl rfl (⟨x1.Request, x1.Layer, (IntKind.i64.wrap (x1.Place - 1))⟩ : S_api_Spot) U61 V66 (zcs := [.slice none 0 0, .slice none 0 0]) (x0 := (⟨[], []⟩ : S_cache_rows)) rfl (fun _ _ => ⟨([.slice none 0 0] : List Value), ([.slice none 0 0] : List Value), rfl, ⟨_, rfl, none, 0, rfl, Nat.le_refl _, fun i x hx => by simp at hx⟩, ⟨_, rfl, none, 0, rfl, Nat.le_refl _, fun i x hx => by simp at hx⟩⟩); obtain ⟨cs9, hc, hr10⟩ := hc; obtain ⟨y11, hy11, hp⟩ := bind_some hp; injection hy11 with hy11; rw [hy11] at hc; replace hc := S_cache_rows.op hc; obtain ⟨a13, q14, a15, q16, u12, hc⟩ := hc; subst u12; refine ds (v := .tuple #[.agg #[.slice a13 y11.k.length q14, .slice a15 y11.v.length q16], .bool ((mget x0.m (⟨x1.Request, x1.Layer, (IntKind.i64.wrap (x1.Place - 1))⟩ : S_api_Spot)).isSome)]) rfl (fun w' hF => hr10 ((hF.2.2.1 rfl)) rfl rfl) rfl <| ad_ 3 rfl ?_; refine deE (Ctx.allocOp (cs := [.slice none 0 0, .slice none 0 0]) hc V66 rfl) rfl rfl ?_; clear hc; rintro _ w19 ⟨b17, rfl, hc⟩; refine ⟨fun j hj hb => ⟨fun _ => hc.cell (k := 3) rfl rfl rfl, fun _ => Ctx.cells hc (k := 5) rfl rfl 0 (vs := [.int .i64 x1.Request, .int .i64 x1.Layer, .int .i64 (IntKind.i64.wrap (x1.Place - 1))]) rfl, fun _ => Ctx.mpoPin hc (i := 4) rfl rfl, trivial⟩, ?_⟩; refine pad hc 0 Z66 ?_; clear hc; rintro w20 hc; refine ⟨fun j hj hb => ⟨fun e => nja hj e, fun e => nja hj e, fun e => nja hj e, trivial⟩, ?_⟩; refine ad_ 1 rfl ?_; replace hc := Ctx.mpoB hc (i := 4) rfl rfl rfl; replace hc : Ctx w20 (B b17 [.slice a13 y11.k.length q14, .slice a15 y11.v.length q16] 66 :: hR .i8 a13 q14 y11.k :: hR .i8 a15 q16 y11.v :: B b0 [.int .i64 x0.room, .map (some v6)] 63 :: Mp S_api_Spot.ek (HV vfA S_cache_rows.pr) v6 x0.m :: B b1 [.int .i64 x1.Request, .int .i64 x1.Layer, .int .i64 (IntKind.i64.wrap (x1.Place - 1))] 30 :: Fr) := hc; refine dn (qn (Wseq (Wreg ?_))); refine au 2 rfl <| rn (qn (Wret ?_)); replace hc := hc.m [8, 8]; replace hc := S_cache_Store.fd (x := x0) hc; replace hc := hc.m [9, 7, 5, 3]; obtain rfl := sj hp; exact fz R27 M27 (k _ hc)
 · refine Wseq (Wreg ?_); refine au 1 rfl <| rn (qn (Wret (qr ?_))); replace hc := hc.m [1]; obtain rfl := sj hp; exact fz R27 M27 (k _ hc)

theorem bd_66_0_1 {ρ : Operand → Value} {w : World} {dst : Option Nat} {ty : TypeId} {pos : String} {after : Array Edge} {g : Option (Nat × Bool)} {x0 x1 : Operand} {a0 : Option Addr} {l0 c0 : Nat} {a1 : Option Addr} {l1 c1 : Nat} (h0 : ρ x0 = (.slice a0 l0 c0)) (h1 : ρ x1 = (.slice a1 l1 c1)) :
    (execOp ρ ⟨dst, .build 66 #[(0, x0), (1, x1)], ty, pos, after, g⟩).run Try.prog w = .ok (.value (.agg #[(.slice a0 l0 c0), (.slice a1 l1 c1)])) w := by
  simp [execOp, Instr.build, Instr.fill, Try.zeroValue66, Try.runUnderlying66, Try.sizeOf31, h0, h1, Value.cells]

def cache_Store_Put.J1 (x0 : S_cache_Store) (x1 : S_api_Spot) (x2 : (List Int)) (x3 : (List Int)) (j26 : Bool) : Option (Int × S_cache_Store) :=
  if j26 = true then
    some (0, x0)
  else
    if (mget x0.m x1).isSome = true then
      some (2, x0)
    else
      if ((x0.m.length : Nat) : Int) ≥ x0.room then
        some (80, x0)
      else
        (slices_Clone_s_int8_int8 x2).bind fun r40 =>
        (slices_Clone_s_int8_int8 x3).bind fun r46 =>
        some (0, (⟨x0.room, (mset x0.m x1 (⟨r40, r46⟩ : S_cache_rows))⟩ : S_cache_Store))

def cache_Store_Put (N : Nat) (x0 : S_cache_Store) (x1 : S_api_Spot) (x2 : (List Int)) (x3 : (List Int)) : Option (Int × S_cache_Store) :=
  (some ((mget x0.m x1).getD (⟨[], []⟩ : S_cache_rows))).bind fun y9 =>
  if x1.Request < 0 then
    some (2, x0)
  else
    if x1.Layer < 0 then
      some (2, x0)
    else
      if x1.Place < 0 then
        some (2, x0)
      else
        if ((x2.length : Nat) : Int) ≠ ((x3.length : Nat) : Int) then
          some (30, x0)
        else
          (cache_Store_ahead x0 x1).bind fun r23 =>
          if r23 = true then
            if (mget x0.m x1).isSome = true then
              (slices_Equal_s_int8_int8 N y9.k x2).bind fun r28 =>
              if r28 = true then
                (slices_Equal_s_int8_int8 N y9.v x3).bind fun r31 =>
                cache_Store_Put.J1 x0 x1 x2 x3 r31
              else
                cache_Store_Put.J1 x0 x1 x2 x3 false
            else
              cache_Store_Put.J1 x0 x1 x2 x3 false
          else
            some (120, x0)

theorem cache_Store_Put_any {N b0 nx2 qx2 nx3 qx3 : Nat} {x0 : S_cache_Store} {x1 : S_api_Spot} {x2 x3 : (List Int)} {ax2 ax3 : Option Addr} {P2 P3 : HP} {Fr : List HP} {w : World} {r : Int × S_cache_Store} {K : Value → World → Prop} (hrd2 : Reads P2 (pInt .i8) (.slice ax2 nx2 qx2) x2) (hrd3 : Reads P3 (pInt .i8) (.slice ax3 nx3 qx3) x3) (hc : Ctx w (S_cache_Store.hp b0 x0 :: P2 :: P3 :: Fr)) (hp : cache_Store_Put N x0 x1 x2 x3 = some r)
    (k : ∀ w', Ctx w' (S_cache_Store.hp b0 r.2 :: P2 :: P3 :: Fr) → K (.int .i64 r.1) w') : Calls Try.prog 11 #[pt b0 0, .agg (S_api_Spot.cz x1).toArray, .slice ax2 nx2 qx2, .slice ax3 nx3 qx3] w (Ret K) := by
 unfold cache_Store_Put at hp; refine Center4 F11 M11 rfl rfl ?_; obtain ⟨hn2, _⟩ := Ctx.rdLen hc (k := 1) rfl rfl hrd2; subst hn2; obtain ⟨hn3, _⟩ := Ctx.rdLen hc (k := 2) rfl rfl hrd3; subst hn3; refine Wseq (Wreg ?_); refine rsE (Ctx.boxOp (cs := (S_api_Spot.cz x1)) (v := .agg (S_api_Spot.cz x1).toArray) hc rfl rfl) rfl ?_; clear hc; rintro _ w3 ⟨b1, rfl, hc⟩; refine au 1 rfl <| rn (qn (Wseq ?_)); replace hc := hc.m [2]; replace hc := S_cache_Store.uf hc; obtain ⟨v4, hc⟩ := hc; replace hc := Ctx.mpoF hc (i := 1) rfl rfl; obtain ⟨o5, hc⟩ := hc; replace hc : Ctx w3 (B b0 [.int .i64 x0.room, .map (some v4)] 63 :: MpO S_api_Spot.ek (HV vfA S_cache_rows.pr) v4 o5 x0.m :: B b1 (S_api_Spot.cz x1) 30 :: P2 :: P3 :: Fr) := hc; replace hc := hc.drew; refine Wdrw (fun j w' => (j = 3 → w'.cell? ⟨b0, 1, none⟩ = some (.map (some v4))) ∧ (j = 4 → ∀ j v, ((S_api_Spot.cz x1) : List Value)[j]? = some v → w'.cell? ((⟨b1, 0, none⟩ : Addr).add j) = some v) ∧ (j = 5 → w'.heap[v4]? = some o5) ∧ True) [0, 1, 3, 7, 0, 31, 63, 127, 127, 0, 767, 2047] 0 0 rfl (by kernel_rfl) (fun j hj => ⟨fun _ => hc.cell (k := 0) rfl rfl rfl, fun _ => Ctx.cells hc (k := 2) rfl rfl 0 (vs := (S_api_Spot.cz x1)) rfl, fun _ => Ctx.mpoPin hc (i := 1) rfl rfl, trivial⟩) ?_; generalize hw : World.drew w3 = w6 at *; clear hw; refine ad_ 2 rfl <| ds (v := pt b0 1) rfl (fun w' hF => fax 1 rfl U63 rfl Z61 rfl rfl rfl) rfl <| ds rfl (fun w' hF => ld rfl G61 ((hF.1 rfl))) rfl <| ds (v := .agg (S_api_Spot.cz x1).toArray) rfl (fun w' hF => ldg rfl G30 Z30 rfl (hF.2.1 rfl)) rfl ?_; replace hc := Ctx.mpoFact true S_api_Spot.keyL hc (i := 1) rfl rfl x1 U61 V66 (zcs := [.slice none 0 0, .slice none 0 0]) (x0 := (⟨[], []⟩ : S_cache_rows)) rfl (fun _ _ => ⟨([.slice none 0 0] : List Value), ([.slice none 0 0] : List Value), rfl, ⟨_, rfl, none, 0, rfl, Nat.le_refl _, fun i x hx => by simp at hx⟩, ⟨_, rfl, none, 0, rfl, Nat.le_refl _, fun i x hx => by simp at hx⟩⟩); obtain ⟨cs7, hc, hr8⟩ := hc; replace hp := bind_some hp; obtain ⟨y9, hy9, hp⟩ := hp; injection hy9 with hy9; rw [hy9] at hc; replace hc := S_cache_rows.op hc; obtain ⟨a11, q12, a13, q14, u10, hc⟩ := hc; subst u10; refine ds (v := .tuple #[.agg #[.slice a11 y9.k.length q12, .slice a13 y9.v.length q14], .bool ((mget x0.m x1).isSome)]) rfl (fun w' hF => hr8 ((hF.2.2.1 rfl)) rfl rfl) rfl <| ad_ 3 rfl ?_; refine deE (Ctx.allocOp (cs := [.slice none 0 0, .slice none 0 0]) hc V66 rfl) rfl rfl ?_; clear hc; rintro _ w17 ⟨b15, rfl, hc⟩; refine ⟨fun j hj hb => ⟨fun _ => hc.cell (k := 3) rfl rfl rfl, fun _ => Ctx.cells hc (k := 5) rfl rfl 0 (vs := (S_api_Spot.cz x1)) rfl, fun _ => Ctx.mpoPin hc (i := 4) rfl rfl, trivial⟩, ?_⟩; refine pad hc 0 Z66 ?_; clear hc; rintro w18 hc; refine ⟨fun j hj hb => ⟨fun e => nja hj e, fun e => nja hj e, fun e => nja hj e, trivial⟩, ?_⟩; refine ad_ 1 rfl ?_; replace hc := Ctx.mpoB hc (i := 4) rfl rfl rfl; replace hc : Ctx w18 (B b15 [.slice a11 y9.k.length q12, .slice a13 y9.v.length q14] 66 :: hR .i8 a11 q12 y9.k :: hR .i8 a13 q14 y9.v :: B b0 [.int .i64 x0.room, .map (some v4)] 63 :: Mp S_api_Spot.ek (HV vfA S_cache_rows.pr) v4 x0.m :: B b1 (S_api_Spot.cz x1) 30 :: P2 :: P3 :: Fr) := hc; refine dn (qn (Wseq (Wblk (Wseq (Wreg ?_))))); refine fq 0 U30 Z3 G3 hc 5 ?_; refine au 2 rfl ?_; cases hb19 : (decide (x1.Request < 0))
 · replace hp := gneg hp (of_decide_eq_false hb19); refine fq 1 U30 Z3 G3 hc 5 ?_; refine au 3 rfl ?_; cases hb20 : (decide (x1.Layer < 0))
   · replace hp := gneg hp (of_decide_eq_false hb20); refine fq 2 U30 Z3 G3 hc 5 ?_; refine au 3 rfl <| rn (qn ?_); refine Wif hp (fun _ h => ?_) fun _ h => ?_
     · replace hp := h; clear h; refine Wseq (Wreg ?_); refine au 1 rfl <| sz (ln rfl U31) <| au 1 rfl <| sz (ln rfl U31) <| au 2 rfl <| rn (qn ?_); refine Wif hp (fun _ h => ?_) fun _ h => ?_
       · replace hp := h; clear h; refine Wseq (Wreg ?_); refine au 1 rfl <| lg G30 Z30 hc 5 ?_; replace hc := hc.m [8, 8]; replace hc := S_cache_Store.fd (x := x0) hc; replace hp := bind_some hp; obtain ⟨r23, hr23, hp⟩ := hp; refine kz C27 ?_; refine cache_Store_ahead_any (x1 := x1) hc hr23 ?_; clear hc; intro w24 hc; cases hb25 : r23
         · replace hp := gneg hp (by rw [hb25]; exact Bool.false_ne_true); subst hb25; refine au 2 rfl <| rn (qn (Wct rfl (Wseq (Wreg ?_)))); refine au 1 rfl <| rn (qn (Wret (br (qr ?_)))); replace hc := hc.m [9, 7, 5, 3]; obtain rfl := sj hp; exact fz R11 M11 (k _ hc)
         · replace hp := gpos hp hb25; subst hb25; refine au 2 rfl <| rn (qn (Wcf rfl ?_)); refine Wseqm (rg [45, 14]) [45] (fun vs w' => ∃ j26 : Bool, vs = [.bool j26] ∧ cache_Store_Put.J1 x0 x1 x2 x3 j26 = some r ∧ Ctx w' (S_cache_Store.hp b0 x0 :: B b1 (S_api_Spot.cz x1) 30 :: P2 :: P3 :: Fr)) ?_ ?_
           · refine Wreg <| au 2 rfl ?_; cases hb27 : ((mget x0.m x1).isSome)
             · replace hp := gneg hp (by rw [hb27]; exact Bool.false_ne_true); (iterate 4 refine r0 rfl ?_); refine au 2 rfl ?_; (iterate 4 refine r0 rfl ?_); refine au 2 rfl <| rn (qn ?_); replace hc := hc.m [7, 5, 3]; exact ⟨⟨false, rfl, hp, hc⟩, (kl rfl kb)⟩
             · replace hp := gpos hp hb27; refine fq 0 U66 Z31 G31 hc 1 ?_; refine au 1 rfl ?_; replace hc := hc.dz 2; replace hp := bind_some hp; obtain ⟨r28, hr28, hp⟩ := hp; replace hc := hc.m [12, 2]; refine kz C28 ?_; refine slices_Equal_s_int8_int8_any reads_ro hrd2 hc hr28 ?_; clear hc; intro w29 hc; refine au 2 rfl ?_; cases hb30 : r28
               · replace hp := gneg hp (by rw [hb30]; exact Bool.false_ne_true); subst hb30; (iterate 4 refine r0 rfl ?_); refine au 2 rfl <| rn (qn ?_); replace hc := hc.m [11, 9, 7, 1, 6, 2, 6, 6]; exact ⟨⟨false, rfl, hp, hc⟩, (kl rfl kb)⟩
               · replace hp := gpos hp hb30; subst hb30; refine fq 1 U66 Z31 G31 hc 3 ?_; refine au 1 rfl ?_; replace hc := hc.dz 5; replace hp := bind_some hp; obtain ⟨r31, hr31, hp⟩ := hp; replace hc := hc.m [16, 2]; refine kz C28 ?_; refine slices_Equal_s_int8_int8_any reads_ro hrd3 hc hr31 ?_; clear hc; intro w32 hc; refine au 2 rfl <| rn (qn ?_); replace hc := hc.m [15, 13, 11, 5, 1, 2, 6, 6]; exact ⟨⟨r31, rfl, hp, hc⟩, (kl rfl kb)⟩
           · clear hp hc; intro vs u w33 hJ; obtain ⟨j26, rfl, hp, hc⟩ := hJ; unfold cache_Store_Put.J1 at hp; cases hb34 : j26
             · replace hp := gneg hp (by rw [hb34]; exact Bool.false_ne_true); subst hb34; refine Wcf rfl (Wseq (Wreg ?_)); refine au 2 rfl <| rn (qn ?_); cases hb35 : ((mget x0.m x1).isSome)
               · replace hp := gneg hp (by rw [hb35]; exact Bool.false_ne_true); refine Wcf rfl (Wseq ?_); replace hc := S_cache_Store.uf hc; obtain ⟨v36, hc⟩ := hc; replace hc := hc.drew; refine Wdrw (fun _ w' => w' = World.drew w33) [0, 1, 3, 7, 15, 0, 32, 96, 224, 511, 1023] 0 0 rfl (by kernel_rfl) (fun _ _ => rfl) ?_; generalize hw : World.drew w33 = w37 at *; clear hw; refine ad_ 2 rfl <| dE (v := pt b0 1) (fax 1 rfl U63 rfl Z61 rfl rfl rfl) rfl rfl <| dE (ld rfl G61 (Ctx.cell hc (k := 0) rfl rfl rfl)) rfl rfl <| dE (v := .int .i64 ((x0.m.length : Nat) : Int)) (Ctx.mpLen hc (i := 1) rfl rfl U61 rfl) rfl rfl <| ad_ 2 rfl <| dE (v := pt b0 0) (fax 0 rfl U63 rfl Z3 rfl rfl rfl) rfl rfl <| dE (ld rfl G3 (Ctx.cell hc (k := 0) rfl rfl rfl)) rfl rfl <| ad_ 2 rfl <| dn (qn ?_); refine Wif hp (fun _ h => ?_) fun _ h => ?_
                 · replace hp := h; clear h; refine Wskip (bn (qn (Wseq ?_))); replace hc := hc.drew; refine Wdrw (fun j w' => (j = 3 → w'.cell? ⟨b0, 1, none⟩ = some (.map (some v36))) ∧ (j = 4 → ∀ j v, ((S_api_Spot.cz x1) : List Value)[j]? = some v → w'.cell? ((⟨b1, 0, none⟩ : Addr).add j) = some v) ∧ True) [0, 1, 3, 7, 0, 0, 32, 0, 224, 480, 1023] 0 0 rfl (by kernel_rfl) (fun j hj => ⟨fun _ => hc.cell (k := 0) rfl rfl rfl, fun _ => Ctx.cells hc (k := 2) rfl rfl 0 (vs := (S_api_Spot.cz x1)) rfl, trivial⟩) ?_; generalize hw : World.drew w37 = w39 at *; clear hw; refine ad_ 2 rfl <| ds (v := pt b0 1) rfl (fun w' hF => fax 1 rfl U63 rfl Z61 rfl rfl rfl) rfl <| ds rfl (fun w' hF => ld rfl G61 ((hF.1 rfl))) rfl <| ds (v := .agg (S_api_Spot.cz x1).toArray) rfl (fun w' hF => ldg rfl G30 Z30 rfl (hF.2.1 rfl)) rfl <| ad_ 1 rfl ?_; replace hp := bind_some hp; obtain ⟨r40, hr40, hp⟩ := hp; replace hc := hc.m [6]; refine dc (cl C29 rfl rfl) rfl rfl ?_; refine slices_Clone_s_int8_int8_any hrd2 hc hr40 ?_; clear hc; intro a41 n42 q43 w44 hc; obtain rfl := hc.rz 0 reads_own; refine ⟨fun j hj hb => ⟨fun _ => hc.cell (k := 2) rfl rfl rfl, fun _ => Ctx.cells hc (k := 4) rfl rfl 0 (vs := (S_api_Spot.cz x1)) rfl, trivial⟩, ?_⟩; refine ad_ 1 rfl ?_; replace hp := bind_some hp; obtain ⟨r46, hr46, hp⟩ := hp; replace hc := hc.m [10]; refine dc (cl C29 rfl rfl) rfl rfl ?_; refine slices_Clone_s_int8_int8_any hrd3 hc hr46 ?_; clear hc; intro a47 n48 q49 w50 hc; obtain rfl := hc.rz 0 reads_own; refine ⟨fun j hj hb => ⟨fun _ => hc.cell (k := 4) rfl rfl rfl, fun _ => Ctx.cells hc (k := 6) rfl rfl 0 (vs := (S_api_Spot.cz x1)) rfl, trivial⟩, ?_⟩; refine ds (v := .agg #[.slice a41 r40.length q43, .slice a47 r46.length q49]) rfl (fun w' hF => bd_66_0_1 rfl rfl) rfl ?_; replace hc := hc.freeze (k := 0) rfl rfl rfl; replace hc := Ctx.n0 hc; replace hc := hc.dz 0; replace hc := hc.freeze (k := 3) rfl rfl rfl; replace hc := Ctx.n3 hc; replace hc := hc.dz 3; replace hc : Ctx w50 (Hold S_cache_rows.pr [.slice a41 r40.length q43, .slice a47 r46.length q49] (⟨r40, r46⟩ : S_cache_rows) :: hR .i8 a47 q49 r46 :: P3 :: hR .i8 a41 q43 r40 :: P2 :: B b0 [.int .i64 x0.room, .map (some v36)] 63 :: Mp S_api_Spot.ek (HV vfA S_cache_rows.pr) v36 x0.m :: B b1 (S_api_Spot.cz x1) 30 :: Fr) := S_cache_rows.cl hc; refine duE (Ctx.mpSet (k := x1) S_api_Spot.keyL hc (i := 5) rfl rfl U61 rfl rfl rfl) rfl rfl ?_; clear hc; rintro w52 hc; replace hc := Ctx.n5 hc; refine ⟨fun j hj hb => ⟨fun e => nja hj e, fun e => nja hj e, trivial⟩, ?_⟩; refine dn (qn (Wseq (Wreg ?_))); refine au 1 rfl <| rn (qn (Wret ?_)); replace hc := hc.m [10, 10]; replace hc := S_cache_Store.fd (x := (⟨x0.room, (mset x0.m x1 (⟨r40, r46⟩ : S_cache_rows))⟩ : S_cache_Store)) hc; replace hc := hc.m [11, 7, 3, 2, 4, 4]; obtain rfl := sj hp; exact fz R11 M11 (k _ hc)
                 · replace hp := h; clear h; refine Wseq (Wreg ?_); refine au 1 rfl <| rn (qn (Wret (br (qr ?_)))); replace hc := hc.m [2, 2]; replace hc := S_cache_Store.fd (x := x0) hc; replace hc := hc.m [3]; obtain rfl := sj hp; exact fz R11 M11 (k _ hc)
               · replace hp := gpos hp hb35; refine Wct rfl (Wseq (Wreg ?_)); refine au 1 rfl <| rn (qn (Wret (br (qr ?_)))); replace hc := hc.m [3]; obtain rfl := sj hp; exact fz R11 M11 (k _ hc)
             · replace hp := gpos hp hb34; subst hb34; refine Wct rfl (Wseq (Wreg ?_)); refine au 1 rfl <| rn (qn (Wret (br (qr ?_)))); replace hc := hc.m [3]; obtain rfl := sj hp; exact fz R11 M11 (k _ hc)
       · replace hp := h; clear h; refine Wseq (Wreg ?_); refine au 1 rfl <| rn (qn (Wret (br (qr ?_)))); replace hc := hc.m [8, 8]; replace hc := S_cache_Store.fd (x := x0) hc; replace hc := hc.m [9, 7, 5, 3]; obtain rfl := sj hp; exact fz R11 M11 (k _ hc)
     · replace hp := h; clear h; refine Wseq (Wreg ?_); refine au 1 rfl <| rn (qn (Wret (br (qr ?_)))); replace hc := hc.m [8, 8]; replace hc := S_cache_Store.fd (x := x0) hc; replace hc := hc.m [9, 7, 5, 3]; obtain rfl := sj hp; exact fz R11 M11 (k _ hc)
   · replace hp := gpos hp (of_decide_eq_true hb20); (iterate 3 refine r0 rfl ?_); refine au 2 rfl <| rn (qn (Wct rfl (Wseq (Wreg ?_)))); refine au 1 rfl <| rn (qn (Wret (br (qr ?_)))); replace hc := hc.m [8, 8]; replace hc := S_cache_Store.fd (x := x0) hc; replace hc := hc.m [9, 7, 5, 3]; obtain rfl := sj hp; exact fz R11 M11 (k _ hc)
 · replace hp := gpos hp (of_decide_eq_true hb19); (iterate 3 refine r0 rfl ?_); refine au 2 rfl ?_; (iterate 3 refine r0 rfl ?_); refine au 2 rfl <| rn (qn (Wct rfl (Wseq (Wreg ?_)))); refine au 1 rfl <| rn (qn (Wret (br (qr ?_)))); replace hc := hc.m [8, 8]; replace hc := S_cache_Store.fd (x := x0) hc; replace hc := hc.m [9, 7, 5, 3]; obtain rfl := sj hp; exact fz R11 M11 (k _ hc)

def cache_Store_Get (x0 : S_cache_Store) (x1 : S_api_Spot) : Option ((List Int) × (List Int) × Bool) :=
  (some ((mget x0.m x1).getD (⟨[], []⟩ : S_cache_rows))).bind fun y9 =>
  (slices_Clone_s_int8_int8 y9.k).bind fun r20 =>
  (slices_Clone_s_int8_int8 y9.v).bind fun r26 =>
  some (r20, r26, (mget x0.m x1).isSome)

theorem cache_Store_Get_any {b0 : Nat} {x0 : S_cache_Store} {x1 : S_api_Spot} {Fr : List HP} {w : World} {r : (List Int) × (List Int) × Bool} {K : Value → World → Prop}  (hc : Ctx w (S_cache_Store.hp b0 x0 :: Fr)) (hp : cache_Store_Get x0 x1 = some r)
    (k : ∀ a32 n33 q34 a35 n36 q37 w', Ctx w' (Own (pInt .i8) 42 (.slice a32 n33 q34) r.1 :: Own (pInt .i8) 42 (.slice a35 n36 q37) r.2.1 :: S_cache_Store.hp b0 x0 :: Fr) → K (.tuple #[.slice a32 n33 q34, .slice a35 n36 q37, .bool r.2.2]) w') : Calls Try.prog 15 #[pt b0 0, .agg (S_api_Spot.cz x1).toArray] w (Ret K) := by
 unfold cache_Store_Get at hp; refine Center2 F15 M15 rfl rfl ?_; refine Wseq (Wreg ?_); refine rsE (Ctx.boxOp (cs := (S_api_Spot.cz x1)) (v := .agg (S_api_Spot.cz x1).toArray) hc rfl rfl) rfl ?_; clear hc; rintro _ w3 ⟨b1, rfl, hc⟩; refine au 3 rfl <| rn (qn (Wseq ?_)); replace hc := hc.m [2]; replace hc := S_cache_Store.uf hc; obtain ⟨v4, hc⟩ := hc; replace hc := Ctx.mpoF hc (i := 1) rfl rfl; obtain ⟨o5, hc⟩ := hc; replace hc : Ctx w3 (B b0 [.int .i64 x0.room, .map (some v4)] 63 :: MpO S_api_Spot.ek (HV vfA S_cache_rows.pr) v4 o5 x0.m :: B b1 (S_api_Spot.cz x1) 30 :: Fr) := hc; replace hc := hc.drew; refine Wdrw (fun j w' => (j = 3 → w'.cell? ⟨b0, 1, none⟩ = some (.map (some v4))) ∧ (j = 4 → ∀ j v, ((S_api_Spot.cz x1) : List Value)[j]? = some v → w'.cell? ((⟨b1, 0, none⟩ : Addr).add j) = some v) ∧ (j = 5 → w'.heap[v4]? = some o5) ∧ True) [0, 1, 3, 7, 0, 31, 63, 127, 127, 0, 767, 2047] 0 0 rfl (by kernel_rfl) (fun j hj => ⟨fun _ => hc.cell (k := 0) rfl rfl rfl, fun _ => Ctx.cells hc (k := 2) rfl rfl 0 (vs := (S_api_Spot.cz x1)) rfl, fun _ => Ctx.mpoPin hc (i := 1) rfl rfl, trivial⟩) ?_; generalize hw : World.drew w3 = w6 at *; clear hw; refine ad_ 2 rfl <| ds (v := pt b0 1) rfl (fun w' hF => fax 1 rfl U63 rfl Z61 rfl rfl rfl) rfl <| ds rfl (fun w' hF => ld rfl G61 ((hF.1 rfl))) rfl <| ds (v := .agg (S_api_Spot.cz x1).toArray) rfl (fun w' hF => ldg rfl G30 Z30 rfl (hF.2.1 rfl)) rfl ?_; replace hc := Ctx.mpoFact true S_api_Spot.keyL hc (i := 1) rfl rfl x1 U61 V66 (zcs := [.slice none 0 0, .slice none 0 0]) (x0 := (⟨[], []⟩ : S_cache_rows)) rfl (fun _ _ => ⟨([.slice none 0 0] : List Value), ([.slice none 0 0] : List Value), rfl, ⟨_, rfl, none, 0, rfl, Nat.le_refl _, fun i x hx => by simp at hx⟩, ⟨_, rfl, none, 0, rfl, Nat.le_refl _, fun i x hx => by simp at hx⟩⟩); obtain ⟨cs7, hc, hr8⟩ := hc; obtain ⟨y9, hy9, hp⟩ := bind_some hp; injection hy9 with hy9; rw [hy9] at hc; replace hc := S_cache_rows.op hc; obtain ⟨a11, q12, a13, q14, u10, hc⟩ := hc; subst u10; refine ds (v := .tuple #[.agg #[.slice a11 y9.k.length q12, .slice a13 y9.v.length q14], .bool ((mget x0.m x1).isSome)]) rfl (fun w' hF => hr8 ((hF.2.2.1 rfl)) rfl rfl) rfl <| ad_ 3 rfl ?_; refine deE (Ctx.allocOp (cs := [.slice none 0 0, .slice none 0 0]) hc V66 rfl) rfl rfl ?_; clear hc; rintro _ w17 ⟨b15, rfl, hc⟩; refine ⟨fun j hj hb => ⟨fun _ => hc.cell (k := 3) rfl rfl rfl, fun _ => Ctx.cells hc (k := 5) rfl rfl 0 (vs := (S_api_Spot.cz x1)) rfl, fun _ => Ctx.mpoPin hc (i := 4) rfl rfl, trivial⟩, ?_⟩; refine pad hc 0 Z66 ?_; clear hc; rintro w18 hc; refine ⟨fun j hj hb => ⟨fun e => nja hj e, fun e => nja hj e, fun e => nja hj e, trivial⟩, ?_⟩; refine ad_ 1 rfl ?_; replace hc := Ctx.mpoB hc (i := 4) rfl rfl rfl; replace hc : Ctx w18 (B b15 [.slice a11 y9.k.length q12, .slice a13 y9.v.length q14] 66 :: hR .i8 a11 q12 y9.k :: hR .i8 a13 q14 y9.v :: B b0 [.int .i64 x0.room, .map (some v4)] 63 :: Mp S_api_Spot.ek (HV vfA S_cache_rows.pr) v4 x0.m :: B b1 (S_api_Spot.cz x1) 30 :: Fr) := hc; refine dn (qn (Wseq ?_)); replace hc := hc.drew; refine Wdrw (fun j w' => (j = 4 → w'.cell? ⟨b15, 1, none⟩ = some (.slice a13 y9.v.length q14)) ∧ True) [0, 1, 3, 0, 8, 31, 0, 63, 191, 511] 0 2 rfl (by kernel_rfl) (fun j hj => ⟨fun _ => hc.cell (k := 0) rfl rfl rfl, trivial⟩) ?_; generalize hw : World.drew w18 = w19 at *; clear hw; refine ds (v := pt b15 0) rfl (fun w' hF => fax 0 rfl U66 rfl Z31 rfl rfl rfl) rfl <| dx rfl (ld rfl G31 (Ctx.cell hc (k := 0) rfl rfl rfl)) rfl rfl ?_; replace hc := hc.dz 1; obtain ⟨r20, hr20, hp⟩ := bind_some hp; refine dc (cl C29 rfl rfl) rfl rfl ?_; refine slices_Clone_s_int8_int8_any reads_ro hc hr20 ?_; clear hc; intro a21 n22 q23 w24 hc; obtain rfl := hc.rz 0 reads_own; refine ⟨fun j hj hb => ⟨fun _ => hc.cell (k := 2) rfl rfl rfl, trivial⟩, ?_⟩; refine ds (v := pt b15 1) rfl (fun w' hF => fax 1 rfl U66 rfl Z31 rfl rfl rfl) rfl <| ds rfl (fun w' hF => ld rfl G31 ((hF.1 rfl))) rfl ?_; replace hc := hc.dz 4; obtain ⟨r26, hr26, hp⟩ := bind_some hp; refine dc (cl C29 rfl rfl) rfl rfl ?_; refine slices_Clone_s_int8_int8_any reads_ro hc hr26 ?_; clear hc; intro a27 n28 q29 w30 hc; obtain rfl := hc.rz 0 reads_own; refine ⟨fun j hj hb => ⟨fun e => nja hj e, trivial⟩, ?_⟩; refine ad_ 4 rfl <| dn (qn (Wret ?_)); replace hc := hc.m [16, 16]; replace hc := S_cache_Store.fd (x := x0) hc; replace hc := hc.m [17, 15, 13, 11, 9, 5, 2, 4]; obtain rfl := sj hp; refine f3 (v := .slice a21 r20.length q23) (u := .slice a27 r26.length q29) (z := .bool ((mget x0.m x1).isSome)) R15 M15 rfl rfl rfl ?_; exact ⟨_, rfl, k _ _ _ _ _ _ _ hc⟩

theorem bd_30_0_1 {ρ : Operand → Value} {w : World} {dst : Option Nat} {ty : TypeId} {pos : String} {after : Array Edge} {g : Option (Nat × Bool)} {x0 x1 : Operand} {k0 : IntKind} {a0 : Int} {k1 : IntKind} {a1 : Int} (h0 : ρ x0 = (.int k0 a0)) (h1 : ρ x1 = (.int k1 a1)) :
    (execOp ρ ⟨dst, .build 30 #[(0, x0), (1, x1)], ty, pos, after, g⟩).run Try.prog w = .ok (.value (.agg #[(.int k0 a0), (.int k1 a1), (.int .i64 0)])) w := by
  simp [execOp, Instr.build, Instr.fill, Try.zeroValue30, Try.runUnderlying30, Try.sizeOf3, h0, h1, Value.cells]

def cache_Store_Line.L1 (x0 : S_cache_Store) (x1 : Int) (x2 : Int) : Nat → (List (List Int)) → (List (List Int)) → Int → Option ((List (List Int)) × (List (List Int)))
  | 0, _, _, _ => none
  | m1 + 1, j5, j9, j14 =>
    (cache_Store_Get x0 (⟨x1, x2, j14⟩ : S_api_Spot)).bind fun r18 =>
    if r18.2.2 = true then
      (app j5 ([r18.1])).bind fun z31 =>
      (app j9 ([r18.2.1])).bind fun z39 =>
      (cache_Store_Line.L1 x0 x1 x2 m1) z31 z39 (IntKind.i64.wrap (j14 + 1))
    else
      some (j5, j9)

def cache_Store_Line (N : Nat) (x0 : S_cache_Store) (x1 : Int) (x2 : Int) : Option ((List (List Int)) × (List (List Int))) :=
  cache_Store_Line.L1 x0 x1 x2 N ([]) ([]) 0

theorem cache_Store_Line_any {N b0 : Nat} {x0 : S_cache_Store} {x1 x2 : Int} {Fr : List HP} {w : World} {r : (List (List Int)) × (List (List Int))} {K : Value → World → Prop}  (hc : Ctx w (S_cache_Store.hp b0 x0 :: Fr)) (hp : cache_Store_Line N x0 x1 x2 = some r)
    (k : ∀ a50 n51 q52 a53 n54 q55 w', Ctx w' (OwnV (vOwn (pInt .i8) 42) 31 (.slice a50 n51 q52) r.1 :: OwnV (vOwn (pInt .i8) 42) 31 (.slice a53 n54 q55) r.2 :: S_cache_Store.hp b0 x0 :: Fr) → K (.tuple #[.slice a50 n51 q52, .slice a53 n54 q55]) w') : Calls Try.prog 12 #[pt b0 0, .int .i64 x1, .int .i64 x2] w (Ret K) := by
 unfold cache_Store_Line at hp; refine Center3 F12 M12 rfl rfl ?_; refine Wseq (Wreg ?_); refine au 2 rfl <| rn (qn (Wseq (Wreg ?_))); refine au 2 rfl <| rn (qn (Wseq (Wreg ?_))); refine au 2 rfl <| sz (v := .agg #[.int .i64 x1, .int .i64 x2, .int .i64 0]) (bd_30_0_1 rfl rfl) ?_; refine rsE (Ctx.allocOp (cs := [.int .i64 0, .int .i64 0, .int .i64 0]) hc V30 rfl) rfl ?_; clear hc; rintro _ w3 ⟨b1, rfl, hc⟩; refine pa hc 0 Z30 ?_; clear hc; rintro w4 hc; refine rn (qn (Wblk ?_)); replace hc := hc.nilOwnV (vOwn (pInt .i8) 42) 31; replace hc := hc.nilOwnV (vOwn (pInt .i8) 42) 31; replace hc := hc.m [4, 2, 4, 6]; refine Wloop (rg [6, 8, 17, 24]) [8, 9, 10] (fun m vs w' => ∃ j5 : (List (List Int)), ∃ j9 : (List (List Int)), ∃ j14 : Int, ∃ a6 n7, ∃ q8 a10, ∃ n11 q12, ∃ b13 : Nat, vs = [.slice a6 n7 q8, .slice a10 n11 q12, pt b13 0] ∧ cache_Store_Line.L1 x0 x1 x2 m j5 j9 j14 = some r ∧ Ctx w' (S_cache_Store.hp b0 x0 :: OwnV (vOwn (pInt .i8) 42) 31 (.slice a6 n7 q8) j5 :: OwnV (vOwn (pInt .i8) 42) 31 (.slice a10 n11 q12) j9 :: B b13 [.int .i64 x1, .int .i64 x2, .int .i64 j14] 30 :: Fr)) N ?_ ?_
 · exact ⟨[], [], 0, none, 0, 0, none, 0, 0, b1, rfl, hp, hc⟩
 · clear hp hc; intro m vs u w15 hJ; obtain ⟨j5, j9, j14, a6, n7, q8, a10, n11, q12, b13, rfl, hp, hc⟩ := hJ; have u16 := Ctx.ownVLen' hc (k := 1) rfl rfl; subst u16; have u17 := Ctx.ownVLen' hc (k := 2) rfl rfl; subst u17; rcases m with _ | m1
   · cases (show none = some r from hp)
   rw [cache_Store_Line.L1] at hp; refine Wseq (Wblk (Wseq (Wreg ?_))); refine au 1 rfl <| lg G30 Z30 hc 3 ?_; obtain ⟨r18, hr18, hp⟩ := bind_some hp; refine kz C15 ?_; refine cache_Store_Get_any (x1 := (⟨x1, x2, j14⟩ : S_api_Spot)) hc hr18 ?_; clear hc; intro a19 n20 q21 a22 n23 q24 w25 hc; obtain rfl := hc.rz 0 reads_own; obtain rfl := hc.rz 1 reads_own; refine au 7 rfl <| rn (qn (Wseq (Wseq (Wreg ?_)))); refine au 1 rfl ?_; cases hb28 : r18.2.2
   · replace hp := gneg hp (by rw [hb28]; exact Bool.false_ne_true); refine au 1 rfl <| rn (qn (Wct rfl (Wseq (Wreg ?_)))); refine au 4 rfl <| rn (qn (Wret (qr (br (qr (qr (br ?_))))))); replace hc := hc.m [11, 3, 1, 4, 4]; obtain rfl := sj hp; exact fz2 R12 M12 (k _ _ _ _ _ _ _ hc)
   · replace hp := gpos hp hb28; refine au 1 rfl <| rn (qn (Wcf rfl (Wskip (qn (Wreg ?_))))); refine au 2 rfl ?_; replace hc : Ctx w25 ((vOwn (pInt .i8) 42).r [.slice a19 r18.1.length q21] r18.1 :: oR .i8 42 a22 q24 r18.2.1 :: S_cache_Store.hp b0 x0 :: OwnV (vOwn (pInt .i8) 42) 31 (.slice a6 j5.length q8) j5 :: OwnV (vOwn (pInt .i8) 42) 31 (.slice a10 j9.length q12) j9 :: B b13 [.int .i64 x1, .int .i64 x2, .int .i64 j14] 30 :: Fr) := Ctx.exB _ _ (Ctx.sepB (Ctx.puB rfl hc)); replace hc := Ctx.anyB (m := 1) [.slice a19 r18.1.length q21] rfl rfl hc; refine rsE (Ctx.builtOp (css := [[.slice a19 r18.1.length q21]]) (xs := ([[.slice a19 r18.1.length q21]] : List (List Value))) (E := pAny 1) hc U37 Z31 V31 rfl rfl rfl rfl rfl rfl rfl rfl) rfl ?_; clear hc; rintro _ w30 ⟨a29, rfl, hc⟩; replace hc : Ctx w30 (OwnV (vOwn (pInt .i8) 42) 31 (.slice a29 1 1) ([r18.1]) :: oR .i8 42 a22 q24 r18.2.1 :: S_cache_Store.hp b0 x0 :: OwnV (vOwn (pInt .i8) 42) 31 (.slice a6 j5.length q8) j5 :: OwnV (vOwn (pInt .i8) 42) 31 (.slice a10 j9.length q12) j9 :: B b13 [.int .i64 x1, .int .i64 x2, .int .i64 j14] 30 :: Fr) := Ctx.ownV1 hc; obtain ⟨z31, hz31, hp⟩ := bind_some hp; obtain ⟨hg32, e33⟩ := app_some hz31; replace hc := hc.m [6]; refine rsE (Ctx.appendV hc U37 (i := Try.t31) rfl rfl rfl rfl rfl rfl rfl rfl hg32) rfl ?_; clear hc; rintro _ w36 ⟨a34, q35, rfl, hc⟩; rw [← e33] at hc ⊢; refine au 2 rfl ?_; replace hc := hc.m [2]; replace hc : Ctx w36 ((vOwn (pInt .i8) 42).r [.slice a22 r18.2.1.length q24] r18.2.1 :: OwnV (vOwn (pInt .i8) 42) 31 (.slice a34 z31.length q35) z31 :: S_cache_Store.hp b0 x0 :: OwnV (vOwn (pInt .i8) 42) 31 (.slice a10 j9.length q12) j9 :: B b13 [.int .i64 x1, .int .i64 x2, .int .i64 j14] 30 :: Fr) := Ctx.exB _ _ (Ctx.sepB (Ctx.puB rfl hc)); replace hc := Ctx.anyB (m := 1) [.slice a22 r18.2.1.length q24] rfl rfl hc; refine rsE (Ctx.builtOp (css := [[.slice a22 r18.2.1.length q24]]) (xs := ([[.slice a22 r18.2.1.length q24]] : List (List Value))) (E := pAny 1) hc U37 Z31 V31 rfl rfl rfl rfl rfl rfl rfl rfl) rfl ?_; clear hc; rintro _ w38 ⟨a37, rfl, hc⟩; replace hc : Ctx w38 (OwnV (vOwn (pInt .i8) 42) 31 (.slice a37 1 1) ([r18.2.1]) :: OwnV (vOwn (pInt .i8) 42) 31 (.slice a34 z31.length q35) z31 :: S_cache_Store.hp b0 x0 :: OwnV (vOwn (pInt .i8) 42) 31 (.slice a10 j9.length q12) j9 :: B b13 [.int .i64 x1, .int .i64 x2, .int .i64 j14] 30 :: Fr) := Ctx.ownV1 hc; obtain ⟨z39, hz39, hp⟩ := bind_some hp; obtain ⟨hg40, e41⟩ := app_some hz39; replace hc := hc.m [6]; refine rsE (Ctx.appendV hc U37 (i := Try.t31) rfl rfl rfl rfl rfl rfl rfl rfl hg40) rfl ?_; clear hc; rintro _ w44 ⟨a42, q43, rfl, hc⟩; rw [← e41] at hc ⊢; refine au 2 rfl <| rn (bn (qn (Wseq (Wseq (Wreg ?_))))); refine lg G30 Z30 hc 3 ?_; refine rn (qn (Wreg ?_)); refine rsE (Ctx.allocOp (cs := [.int .i64 0, .int .i64 0, .int .i64 0]) hc V30 rfl) rfl ?_; clear hc; rintro _ w47 ⟨b45, rfl, hc⟩; refine pa hc 0 Z30 ?_; clear hc; rintro w48 hc; refine rn (qn (Wreg ?_)); refine fq 2 U30 Z3 G3 hc 0 ?_; refine au 1 rfl <| sz (v := pt b45 2) (fax 2 rfl U30 rfl Z3 rfl rfl rfl) <| po hc 0 Z3 ?_; clear hc; rintro w49 hc; refine rn (qn ?_); replace hc := hc.m [9, 2, 4, 6]; exact ⟨m1, Nat.lt_succ_self _, ⟨z31, z39, (IntKind.i64.wrap (j14 + 1)), a34, z31.length, q35, a42, z39.length, q43, b45, rfl, hp, hc⟩, (kl rfl k0)⟩

def cache_Store_Requests.L1 (x0 : S_cache_Store) : Nat → (List S_api_Spot) → (List (Int × Bool)) → Option ((List Int))
  | 0, _, _ => none
  | m1 + 1, j7, j9 =>
    anyK (remK x0.m j7) (
      (it_sorted j9).bind fun r20 =>
      some r20) fun kk11 =>
      (mget x0.m kk11).bind fun y16 =>
      (cache_Store_Requests.L1 x0 m1) (kk11 :: j7) (mset j9 kk11.Request true)

def cache_Store_Requests (N : Nat) (x0 : S_cache_Store) : Option ((List Int)) :=
  chk ((x0.m.map Prod.fst).Nodup) <|
  cache_Store_Requests.L1 x0 N ([]) ([])

theorem cache_Store_Requests_any {N b0 : Nat} {x0 : S_cache_Store} {Fr : List HP} {w : World} {r : (List Int)} {K : Value → World → Prop}  (hc : Ctx w (S_cache_Store.hp b0 x0 :: Fr)) (hp : cache_Store_Requests N x0 = some r)
    (k : ∀ a36 n37 q38 w', Ctx w' (Own (pInt .i64) 3 (.slice a36 n37 q38) r :: S_cache_Store.hp b0 x0 :: Fr) → K (.slice a36 n37 q38) w') : Calls Try.prog 17 #[pt b0 0] w (Ret K) := by
 unfold cache_Store_Requests at hp; refine Center1 F17 M17 rfl rfl ?_; refine Wseq (Wreg ?_); refine au 1 rfl <| rn (qn (Wseq (Wreg ?_))); refine rsE (Ctx.mpMake (ekI .i64) (HV vf1 pBool) hc) rfl ?_; clear hc; rintro _ w2 ⟨b1, rfl, hc⟩; refine au 1 rfl <| rn (qn (Wseq (Wseq (Wreg ?_)))); refine au 2 rfl <| sz (v := pt b0 1) (fax 1 rfl U63 rfl Z61 rfl rfl rfl) ?_; replace hc := hc.m [2]; replace hc := S_cache_Store.uf hc; obtain ⟨v3, hc⟩ := hc; refine sz (ld rfl G61 (Ctx.cell hc (k := 0) rfl rfl rfl)) ?_; obtain ⟨hg4, hp⟩ := chk_some hp; replace hc := hc.m [2]; refine rsE (Ctx.itMake hc (i := 0) rfl rfl U61 rfl hg4) rfl ?_; clear hc; rintro _ w6 ⟨b5, rfl, hc⟩; replace hc := Ctx.n0 hc; refine rn (qn (Wblk ?_)); refine Wloop (rg [4, 1, 11, 7]) [] (fun m vs w' => ∃ j7 : (List S_api_Spot), ∃ j9 : (List (Int × Bool)), ∃ c8 : Option (S_api_Spot × Value), vs = [] ∧ cache_Store_Requests.L1 x0 m j7 j9 = some r ∧ Ctx w' (MpI S_api_Spot.ek (HV vfA S_cache_rows.pr) v3 b5 x0.m j7 c8 :: B b0 [.int .i64 x0.room, .map (some v3)] 63 :: Mp (ekI .i64) (HV vf1 pBool) b1 j9 :: Fr)) N ?_ ?_
 · exact ⟨[], [], none, rfl, hp, hc⟩
 · clear hp hc; intro m vs u w10 hJ; obtain ⟨j7, j9, c8, rfl, hp, hc⟩ := hJ; rcases m with _ | m1
   · cases (show none = some r from hp)
   rw [cache_Store_Requests.L1] at hp; refine Wseq (Wreg ?_); refine rsE (Ctx.itNext hc (i := 0) rfl rfl rfl) rfl ?_; clear hc; rintro _ w15 (⟨hr12, rfl, hc⟩ | ⟨kk11, y16, c17, hk13, hg14, rfl, hc⟩)
   · replace hp := anyK_nil hp hr12; replace hc := Ctx.itEnd hc (i := 0) rfl rfl rfl; replace hc : Ctx w15 (Mp S_api_Spot.ek (HV vfA S_cache_rows.pr) v3 x0.m :: B b0 [.int .i64 x0.room, .map (some v3)] 63 :: Mp (ekI .i64) (HV vf1 pBool) b1 j9 :: Fr) := hc; refine au 1 rfl <| rn (qn (Wseq (Wcf rfl (Wexit (qx (qx (be (qn (Wseq (Wreg ?_)))))))))); refine au 1 rfl <| rc (cl C31 rfl rfl) rfl ?_; refine it_keys_any hc ?_; clear hc; intro b18 w19 hc; obtain ⟨r20, hr20, hp⟩ := bind_some hp; replace hc := hc.m [6, 2]; refine kz C30 ?_; refine it_sorted_any hc hr20 ?_; clear hc; intro a21 n22 q23 w24 hc; obtain rfl := hc.rz 0 reads_own; refine au 1 rfl <| rn (qn (Wret ?_)); replace hc := hc.m [6, 8]; replace hc := S_cache_Store.fd (x := x0) hc; replace hc := hc.m [7, 5, 2]; obtain rfl := sj hp; exact fz R17 M17 (k _ _ _ _ hc)
   · replace hp := anyK_mem hp hk13; replace hp := bind_of hp hg14; replace hc := S_cache_rows.op hc; obtain ⟨a27, q28, a29, q30, u26, hc⟩ := hc; subst u26; replace hc : Ctx w15 (hR .i8 a27 q28 y16.k :: hR .i8 a29 q30 y16.v :: MpI S_api_Spot.ek (HV vfA S_cache_rows.pr) v3 b5 x0.m (kk11 :: j7) (some (kk11, vfA [.slice a27 y16.k.length q28, .slice a29 y16.v.length q30])) :: B b0 [.int .i64 x0.room, .map (some v3)] 63 :: Mp (ekI .i64) (HV vf1 pBool) b1 j9 :: Fr) := hc; refine au 1 rfl <| rn (qn (Wseq (Wct rfl (Wskip (qn (Wblk (Wseq (Wreg ?_)))))))); refine sz (v := .tuple #[.agg (S_api_Spot.cz kk11).toArray, .agg #[.slice a27 y16.k.length q28, .slice a29 y16.v.length q30]]) (Ctx.itEntry (k := kk11) hc (i := 2) rfl rfl rfl) <| au 1 rfl ?_; refine rsE (Ctx.allocOp (cs := [.int .i64 0, .int .i64 0, .int .i64 0]) hc V30 rfl) rfl ?_; clear hc; rintro _ w33 ⟨b31, rfl, hc⟩; refine pa hc 0 Z30 ?_; clear hc; rintro w34 hc; refine rn (qn (Wreg ?_)); refine au 1 rfl ?_; refine fq 0 U30 Z3 G3 hc 0 ?_; replace hc : Ctx w34 (Hold pBool [.bool true] true :: B b31 (S_api_Spot.cz kk11) 30 :: hR .i8 a27 q28 y16.k :: hR .i8 a29 q30 y16.v :: MpI S_api_Spot.ek (HV vfA S_cache_rows.pr) v3 b5 x0.m (kk11 :: j7) (some (kk11, vfA [.slice a27 y16.k.length q28, .slice a29 y16.v.length q30])) :: B b0 [.int .i64 x0.room, .map (some v3)] 63 :: Mp (ekI .i64) (HV vf1 pBool) b1 j9 :: Fr) := hc.add _ fun _ _ _ => ⟨rfl, rfl⟩; refine ruE (Ctx.mpSet (keyL_int U3) hc (i := 5) rfl rfl U72 rfl rfl rfl) rfl ?_; clear hc; rintro w35 hc; replace hc := Ctx.n5 hc; refine rn (bn (qn ?_)); replace hc := hc.m [5, 3, 1]; exact ⟨m1, Nat.lt_succ_self _, ⟨(kk11 :: j7), (mset j9 kk11.Request true), (some (kk11, vfA [.slice a27 y16.k.length q28, .slice a29 y16.v.length q30])), rfl, hp, hc⟩, (kl rfl k0)⟩

theorem bd_30_0_1_2 {ρ : Operand → Value} {w : World} {dst : Option Nat} {ty : TypeId} {pos : String} {after : Array Edge} {g : Option (Nat × Bool)} {x0 x1 x2 : Operand} {k0 : IntKind} {a0 : Int} {k1 : IntKind} {a1 : Int} {k2 : IntKind} {a2 : Int} (h0 : ρ x0 = (.int k0 a0)) (h1 : ρ x1 = (.int k1 a1)) (h2 : ρ x2 = (.int k2 a2)) :
    (execOp ρ ⟨dst, .build 30 #[(0, x0), (1, x1), (2, x2)], ty, pos, after, g⟩).run Try.prog w = .ok (.value (.agg #[(.int k0 a0), (.int k1 a1), (.int k2 a2)])) w := by
  simp [execOp, Instr.build, Instr.fill, Try.zeroValue30, Try.runUnderlying30, Try.sizeOf3, h0, h1, h2, Value.cells]

def law12_spot (x0 : Int) (x1 : Int) (x2 : Int) : Option (S_api_Spot) :=
  some (⟨x0, x1, x2⟩ : S_api_Spot)

theorem law12_spot_any {x0 x1 x2 : Int} {Fr : List HP} {w : World} {r : S_api_Spot} {K : Value → World → Prop}  (hc : Ctx w (Fr)) (hp : law12_spot x0 x1 x2 = some r)
    (k : ∀ w', Ctx w' (Fr) → K (.agg (S_api_Spot.cz r).toArray) w') : Calls Try.prog 9 #[.int .i64 x0, .int .i64 x1, .int .i64 x2] w (Ret K) := by
 unfold law12_spot at hp; refine Center3 F9 M9 rfl rfl ?_; refine Wseq (Wreg ?_); refine rsE (Ctx.allocOp (cs := [.int .i64 0, .int .i64 0, .int .i64 0]) hc V30 rfl) rfl ?_; clear hc; rintro _ w3 ⟨b1, rfl, hc⟩; refine rn (qn (Wseq (Wreg ?_))); refine au 3 rfl <| sz (v := .agg #[.int .i64 x0, .int .i64 x1, .int .i64 x2]) (bd_30_0_1_2 rfl rfl rfl) <| pa hc 0 Z30 ?_; clear hc; rintro w4 hc; refine rn (qn (Wret ?_)); have hres := Ctx.cells hc (k := 0) rfl rfl 0 (vs := [.int .i64 x0, .int .i64 x1, .int .i64 x2]) rfl; replace hc := hc.m [1]; obtain rfl := sj hp; refine f1c (cs := [.int .i64 x0, .int .i64 x1, .int .i64 x2]) R9 M9 rfl G30 Z30 rfl hres ?_; exact ⟨_, rfl, k _ hc⟩

def cache_Store_Drop (N : Nat) (x0 : S_cache_Store) (x1 : (List Int)) : Option (Int × S_cache_Store) :=
  (maps_DeleteFunc_map_api_Spot_cache_rows_api_Spot_cache_rows N x0.m (fun (y6_ : S_api_Spot) (y7_ : S_cache_rows) =>
    (slices_Contains_s_int_int N x1 y6_.Request).bind fun r22_ =>
    some r22_)).bind fun r24 =>
  (some (IntKind.i64.wrap (((x0.m.length : Nat) : Int) - ((r24.length : Nat) : Int)))).bind fun e26 =>
  some (e26, (⟨x0.room, r24⟩ : S_cache_Store))

theorem cache_Store_Drop_any {N b0 nx1 qx1 : Nat} {x0 : S_cache_Store} {x1 : (List Int)} {ax1 : Option Addr} {P1 : HP} {Fr : List HP} {w : World} {r : Int × S_cache_Store} {K : Value → World → Prop} (hrd1 : Reads P1 (pInt .i64) (.slice ax1 nx1 qx1) x1) (hc : Ctx w (S_cache_Store.hp b0 x0 :: P1 :: Fr)) (hp : cache_Store_Drop N x0 x1 = some r)
    (k : ∀ w', Ctx w' (S_cache_Store.hp b0 r.2 :: P1 :: Fr) → K (.int .i64 r.1) w') : Calls Try.prog 10 #[pt b0 0, .slice ax1 nx1 qx1] w (Ret K) := by
 unfold cache_Store_Drop at hp; refine Center2 F10 M10 rfl rfl ?_; obtain ⟨hn1, _⟩ := Ctx.rdLen hc (k := 1) rfl rfl hrd1; subst hn1; refine Wseq (Wreg ?_); refine rsE (Ctx.boxOp (cs := [.slice ax1 x1.length qx1]) (v := .slice ax1 x1.length qx1) hc rfl rfl) rfl ?_; clear hc; rintro _ w3 ⟨b1, rfl, hc⟩; refine au 1 rfl <| rn (qn (Wseq (Wreg ?_))); refine au 2 rfl <| sz (v := pt b0 1) (fax 1 rfl U63 rfl Z61 rfl rfl rfl) ?_; replace hc := hc.m [2]; replace hc := S_cache_Store.uf hc; obtain ⟨v4, hc⟩ := hc; refine sz (ld rfl G61 (Ctx.cell hc (k := 0) rfl rfl rfl)) <| sz (v := .int .i64 ((x0.m.length : Nat) : Int)) (Ctx.mpLen hc (i := 1) rfl rfl U61 rfl) <| au 1 rfl <| rn (qn (Wseq (Wreg ?_))); refine au 2 rfl ?_; refine fq 1 U63 Z61 G61 hc 0 ?_; refine sz (v := .func (.func 25) #[] #[pt b1 0]) (mkf rfl rfl) ?_; replace hc := hc.m [2]; have hf5 : ∀ (y0 : S_api_Spot) (y1 : S_cache_rows) (a24 : Option Addr) (n25 : Nat) (q26 : Nat) (a27 : Option Addr) (n28 : Nat) (q29 : Nat) (Qs : List HP) (w : World) (r : Bool) (K : Value → World → Prop), Ctx w (Hold (pRo (pInt .i8)) [.slice a24 n25 q26] y1.k :: Hold (pRo (pInt .i8)) [.slice a27 n28 q29] y1.v :: (Qs ++ (B b0 [.int .i64 x0.room, .map (some v4)] 63 :: B b1 [.slice ax1 x1.length qx1] 47 :: P1 :: Fr))) → (fun (y6_ : S_api_Spot) (y7_ : S_cache_rows) =>
          (slices_Contains_s_int_int N x1 y6_.Request).bind fun r22_ =>
          some r22_) y0 y1 = some r → (∀ w', Ctx w' (Qs ++ (B b0 [.int .i64 x0.room, .map (some v4)] 63 :: B b1 [.slice ax1 x1.length qx1] 47 :: P1 :: Fr)) → K (.bool r) w') → Calls Try.prog 25 (([.agg (S_api_Spot.cz y0).toArray, .agg #[.slice a24 n25 q26, .slice a27 n28 q29]] : List Value) ++ ([pt b1 0] : List Value)).toArray w (Ret K) := by
  intro y6 y7 a8 n9 q10 a11 n12 q13 Qs w r K hc hp k; replace hc : Ctx w (B b0 [.int .i64 x0.room, .map (some v4)] 63 :: B b1 [.slice ax1 x1.length qx1] 47 :: P1 :: Hold (pRo (pInt .i8)) [.slice a8 n9 q10] y7.k :: Hold (pRo (pInt .i8)) [.slice a11 n12 q13] y7.v :: (Qs ++ Fr)) := Ctx.front (As := [B b0 [.int .i64 x0.room, .map (some v4)] 63, B b1 [.slice ax1 x1.length qx1] 47, P1]) (Qs := Hold (pRo (pInt .i8)) [.slice a8 n9 q10] y7.k :: Hold (pRo (pInt .i8)) [.slice a11 n12 q13] y7.v :: Qs) hc; refine Center (args := [.agg (S_api_Spot.cz y6).toArray, .agg #[.slice a8 n9 q10, .slice a11 n12 q13], pt b1 0]) (l := [(0, .agg (S_api_Spot.cz y6).toArray), (1, .agg #[.slice a8 n9 q10, .slice a11 n12 q13]), (2, pt b1 0)]) F25 M25 rfl rfl rfl ?_; obtain rfl := hc.rz 3 reads_ro; obtain rfl := hc.rz 4 reads_ro; refine Wseq (Wreg ?_); refine rsE (Ctx.boxOp (cs := (S_api_Spot.cz y6)) (v := .agg (S_api_Spot.cz y6).toArray) hc rfl rfl) rfl ?_; clear hc; rintro _ w18 ⟨b16, rfl, hc⟩; refine rsE (Ctx.boxOp (cs := [.slice a8 y7.k.length q10, .slice a11 y7.v.length q13]) (v := .agg #[.slice a8 y7.k.length q10, .slice a11 y7.v.length q13]) hc rfl rfl) rfl ?_; clear hc; rintro _ w21 ⟨b19, rfl, hc⟩; refine au 1 rfl <| rn (qn (Wseq (Wreg ?_))); refine sz (ld rfl G47 (Ctx.cell hc (k := 3) rfl rfl rfl)) ?_; refine fq 0 U30 Z3 G3 hc 1 ?_; obtain ⟨r22, hr22, hp⟩ := bind_some hp; replace hc := hc.m [8]; refine kz C26 ?_; refine slices_Contains_s_int_int_any hrd1 hc hr22 ?_; clear hc; intro w23 hc; refine au 1 rfl <| rn (qn (Wret ?_)); replace hc := hc.m [13, 11, 5, 3, 4, 4]; obtain rfl := sj hp; replace hc : Ctx w23 (Qs ++ (B b0 [.int .i64 x0.room, .map (some v4)] 63 :: B b1 [.slice ax1 x1.length qx1] 47 :: P1 :: Fr)) := Ctx.front (Qs := [B b0 [.int .i64 x0.room, .map (some v4)] 63, B b1 [.slice ax1 x1.length qx1] 47, P1]) (As := Qs) hc; exact fz R25 M25 (k _ hc)
 obtain ⟨r24, hr24, hp⟩ := bind_some hp; refine kz C24 ?_; refine maps_DeleteFunc_map_api_Spot_cache_rows_api_Spot_cache_rows_any C25 hf5 hc hr24 ?_; clear hc; intro w25 hc; refine rn (qn (Wseq (Wreg ?_))); refine au 3 rfl ?_; refine fq 1 U63 Z61 G61 hc 1 ?_; refine sz (v := .int .i64 ((r24.length : Nat) : Int)) (Ctx.mpLen hc (i := 0) rfl rfl U61 rfl) <| au 1 rfl ?_; obtain ⟨e26, he26, hp⟩ := bind_some hp; injection he26 with he26; refine sz (v := .int .i64 e26) (av (v := .int .i64 e26) (by rw [← he26]; rfl)) <| rn (qn (Wret ?_)); replace hc := hc.m [2]; replace hc := S_cache_Store.fd (x := (⟨x0.room, r24⟩ : S_cache_Store)) hc; replace hc := hc.m [3]; obtain rfl := sj hp; exact fz R10 M10 (k _ hc)

def law12_awake (N : Nat) : Option (Bool) :=
  (cache_New 2).bind fun r1 =>
  optc r1.1 (
    some false) fun y5 =>
  if r1.2 ≠ 0 then
    some false
  else
    (law12_spot 7 0 1).bind fun r12 =>
    (cache_Store_Put N y5 r12 ([1]) ([1])).bind fun r14 =>
    (law12_spot 7 0 0).bind fun r16 =>
    (cache_Store_Put N r14.2 r16 ([1]) ([1])).bind fun r18 =>
    (law12_spot 7 0 1).bind fun r20 =>
    (cache_Store_Put N r18.2 r20 ([1]) ([1])).bind fun r22 =>
    (law12_spot 7 1 0).bind fun r24 =>
    (cache_Store_Put N r22.2 r24 ([1]) ([1])).bind fun r26 =>
    (law12_spot 7 0 0).bind fun r28 =>
    (cache_Store_Put N r26.2 r28 ([1]) ([1])).bind fun r30 =>
    (law12_spot 7 0 0).bind fun r32 =>
    (cache_Store_Put N r30.2 r32 ([1]) ([2])).bind fun r36 =>
    if r14.1 = 120 then
      if r18.1 = 0 then
        if r22.1 = 0 then
          if r26.1 = 80 then
            if r30.1 = 0 then
              if r36.1 = 2 then
                (cache_Store_Drop N r36.2 ([7])).bind fun r46 =>
                some (decide (r46.1 = 2))
              else
                some false
            else
              some false
          else
            some false
        else
          some false
      else
        some false
    else
      some false

theorem law12_awake_any {N : Nat} {Fr : List HP} {w : World} {r : Bool} {K : Value → World → Prop}  (hc : Ctx w (Fr)) (hp : law12_awake N = some r)
    (k : ∀ w', Ctx w' (Fr) → K (.bool r) w') : Calls Try.prog 7 #[] w (Ret K) := by
 unfold law12_awake at hp; refine Center (args := []) (l := []) F7 M7 rfl rfl rfl ?_; refine Wseq (Wreg ?_); refine au 1 rfl <| rn (qn (Wseq (Wreg ?_))); obtain ⟨r1, hr1, hp⟩ := bind_some hp; refine kz C8 ?_; refine cache_New_any hc hr1 ?_; clear hc; intro v2 w3 hc; refine au 5 rfl <| rn (qn (Wseq (Wseq (Wreg ?_)))); refine au 1 rfl ?_; cases hb4 : r1.1
 · replace hp := optN hp hb4; rw [hb4] at hc; replace hc := Ctx.ptoN hc; obtain ⟨u6, hc⟩ := hc; subst u6; refine sz (v := .bool true) (ept U24 rfl rfl) <| au 1 rfl ?_; (iterate 2 refine r0 rfl ?_); refine au 1 rfl <| rn (qn (Wct rfl (Wseq (Wreg ?_)))); refine au 1 rfl <| rn (qn (Wret (qr ?_))); obtain rfl := sj hp; exact fz R7 M7 (k _ hc)
 · rename_i y5; replace hp := optS hp hb4; rw [hb4] at hc; replace hc := Ctx.ptoS hc; obtain ⟨b7, u8, hc⟩ := hc; subst u8; refine sz (v := .bool false) (epf U24 rfl rfl) <| au 4 rfl <| rn (qn ?_); refine Wif hp (fun _ hp => ?_) fun _ hp => ?_
   · refine Wskip (qn (Wseq (Wreg ?_))); refine rsE (oneI hc U31 Z42 V42) rfl ?_; clear hc; rintro _ w11 ⟨a10, rfl, hc⟩; refine au 1 rfl <| rn (qn (Wseq (Wreg ?_))); refine au 1 rfl ?_; obtain ⟨r12, hr12, hp⟩ := bind_some hp; refine kz C9 ?_; refine law12_spot_any hc hr12 ?_; clear hc; intro w13 hc; refine au 2 rfl ?_; replace hc := hc.freeze (k := 0) rfl rfl rfl; replace hc := Ctx.n0 hc; replace hc := hc.dz 0; replace hc := hc.dz 1; obtain ⟨r14, hr14, hp⟩ := bind_some hp; replace hc := hc.m [2, 6]; refine kz C11 ?_; refine cache_Store_Put_any reads_ro reads_ro hc hr14 ?_; clear hc; intro w15 hc; refine au 1 rfl ?_; obtain ⟨r16, hr16, hp⟩ := bind_some hp; refine kz C9 ?_; refine law12_spot_any hc hr16 ?_; clear hc; intro w17 hc; refine au 2 rfl ?_; replace hc := hc.dz 3; replace hc := hc.dz 4; obtain ⟨r18, hr18, hp⟩ := bind_some hp; replace hc := hc.m [2, 4]; refine kz C11 ?_; refine cache_Store_Put_any reads_ro reads_ro hc hr18 ?_; clear hc; intro w19 hc; refine au 1 rfl ?_; obtain ⟨r20, hr20, hp⟩ := bind_some hp; refine kz C9 ?_; refine law12_spot_any hc hr20 ?_; clear hc; intro w21 hc; refine au 2 rfl ?_; replace hc := hc.dz 5; replace hc := hc.dz 6; obtain ⟨r22, hr22, hp⟩ := bind_some hp; replace hc := hc.m [2, 4]; refine kz C11 ?_; refine cache_Store_Put_any reads_ro reads_ro hc hr22 ?_; clear hc; intro w23 hc; refine au 3 rfl <| rn (qn (Wseq (Wreg ?_))); refine au 1 rfl ?_; obtain ⟨r24, hr24, hp⟩ := bind_some hp; refine kz C9 ?_; refine law12_spot_any hc hr24 ?_; clear hc; intro w25 hc; refine au 2 rfl ?_; replace hc := hc.dz 7; replace hc := hc.dz 8; obtain ⟨r26, hr26, hp⟩ := bind_some hp; replace hc := hc.m [2, 4]; refine kz C11 ?_; refine cache_Store_Put_any reads_ro reads_ro hc hr26 ?_; clear hc; intro w27 hc; refine au 1 rfl ?_; obtain ⟨r28, hr28, hp⟩ := bind_some hp; refine kz C9 ?_; refine law12_spot_any hc hr28 ?_; clear hc; intro w29 hc; refine au 2 rfl ?_; replace hc := hc.dz 9; replace hc := hc.dz 10; obtain ⟨r30, hr30, hp⟩ := bind_some hp; replace hc := hc.m [2, 4]; refine kz C11 ?_; refine cache_Store_Put_any reads_ro reads_ro hc hr30 ?_; clear hc; intro w31 hc; refine au 1 rfl ?_; obtain ⟨r32, hr32, hp⟩ := bind_some hp; refine kz C9 ?_; refine law12_spot_any hc hr32 ?_; clear hc; intro w33 hc; refine au 1 rfl ?_; refine rsE (oneI hc U31 Z42 V42) rfl ?_; clear hc; rintro _ w35 ⟨a34, rfl, hc⟩; replace hc := hc.dz 12; obtain ⟨r36, hr36, hp⟩ := bind_some hp; replace hc := hc.m [2, 2, 4]; refine kz C11 ?_; refine cache_Store_Put_any reads_ro reads_own hc hr36 ?_; clear hc; intro w37 hc; refine au 3 rfl <| rn (qn (Wseq (Wreg ?_))); refine au 3 rfl ?_; cases hb38 : (decide (r14.1 = 120))
     · replace hp := gneg hp (of_decide_eq_false hb38); (iterate 2 refine r0 rfl ?_); refine au 2 rfl ?_; (iterate 2 refine r0 rfl ?_); refine au 2 rfl ?_; (iterate 2 refine r0 rfl ?_); refine au 2 rfl ?_; (iterate 2 refine r0 rfl ?_); refine au 2 rfl ?_; (iterate 2 refine r0 rfl ?_); refine au 2 rfl ?_; (iterate 4 refine r0 rfl ?_); refine au 2 rfl <| rn (qn (Wret ?_)); replace hc := hc.m [27, 25, 23, 21, 19, 17, 15, 13, 11, 9, 7, 5, 3, 1]; obtain rfl := sj hp; exact fz R7 M7 (k _ hc)
     · replace hp := gpos hp (of_decide_eq_true hb38); refine au 4 rfl ?_; cases hb39 : (decide (r18.1 = 0))
       · replace hp := gneg hp (of_decide_eq_false hb39); (iterate 2 refine r0 rfl ?_); refine au 2 rfl ?_; (iterate 2 refine r0 rfl ?_); refine au 2 rfl ?_; (iterate 2 refine r0 rfl ?_); refine au 2 rfl ?_; (iterate 2 refine r0 rfl ?_); refine au 2 rfl ?_; (iterate 4 refine r0 rfl ?_); refine au 2 rfl <| rn (qn (Wret ?_)); replace hc := hc.m [27, 25, 23, 21, 19, 17, 15, 13, 11, 9, 7, 5, 3, 1]; obtain rfl := sj hp; exact fz R7 M7 (k _ hc)
       · replace hp := gpos hp (of_decide_eq_true hb39); refine au 4 rfl ?_; cases hb40 : (decide (r22.1 = 0))
         · replace hp := gneg hp (of_decide_eq_false hb40); (iterate 2 refine r0 rfl ?_); refine au 2 rfl ?_; (iterate 2 refine r0 rfl ?_); refine au 2 rfl ?_; (iterate 2 refine r0 rfl ?_); refine au 2 rfl ?_; (iterate 4 refine r0 rfl ?_); refine au 2 rfl <| rn (qn (Wret ?_)); replace hc := hc.m [27, 25, 23, 21, 19, 17, 15, 13, 11, 9, 7, 5, 3, 1]; obtain rfl := sj hp; exact fz R7 M7 (k _ hc)
         · replace hp := gpos hp (of_decide_eq_true hb40); refine au 4 rfl ?_; cases hb41 : (decide (r26.1 = 80))
           · replace hp := gneg hp (of_decide_eq_false hb41); (iterate 2 refine r0 rfl ?_); refine au 2 rfl ?_; (iterate 2 refine r0 rfl ?_); refine au 2 rfl ?_; (iterate 4 refine r0 rfl ?_); refine au 2 rfl <| rn (qn (Wret ?_)); replace hc := hc.m [27, 25, 23, 21, 19, 17, 15, 13, 11, 9, 7, 5, 3, 1]; obtain rfl := sj hp; exact fz R7 M7 (k _ hc)
           · replace hp := gpos hp (of_decide_eq_true hb41); refine au 4 rfl ?_; cases hb42 : (decide (r30.1 = 0))
             · replace hp := gneg hp (of_decide_eq_false hb42); (iterate 2 refine r0 rfl ?_); refine au 2 rfl ?_; (iterate 4 refine r0 rfl ?_); refine au 2 rfl <| rn (qn (Wret ?_)); replace hc := hc.m [27, 25, 23, 21, 19, 17, 15, 13, 11, 9, 7, 5, 3, 1]; obtain rfl := sj hp; exact fz R7 M7 (k _ hc)
             · replace hp := gpos hp (of_decide_eq_true hb42); refine au 4 rfl ?_; cases hb43 : (decide (r36.1 = 2))
               · replace hp := gneg hp (of_decide_eq_false hb43); (iterate 4 refine r0 rfl ?_); refine au 2 rfl <| rn (qn (Wret ?_)); replace hc := hc.m [27, 25, 23, 21, 19, 17, 15, 13, 11, 9, 7, 5, 3, 1]; obtain rfl := sj hp; exact fz R7 M7 (k _ hc)
               · replace hp := gpos hp (of_decide_eq_true hb43); refine au 1 rfl ?_; refine rsE (oneI hc U47 Z3 V3) rfl ?_; clear hc; rintro _ w45 ⟨a44, rfl, hc⟩; obtain ⟨r46, hr46, hp⟩ := bind_some hp; replace hc := hc.m [2]; refine kz C10 ?_; refine cache_Store_Drop_any reads_own hc hr46 ?_; clear hc; intro w47 hc; refine au 3 rfl <| rn (qn (Wret ?_)); replace hc := hc.m [29, 27, 25, 23, 21, 19, 17, 15, 13, 11, 9, 7, 5, 3, 1]; obtain rfl := sj hp; exact fz R7 M7 (k _ hc)
   · refine Wseq (Wreg ?_); refine au 1 rfl <| rn (qn (Wret (qr ?_))); replace hc := hc.m [1]; obtain rfl := sj hp; exact fz R7 M7 (k _ hc)

def ref04_Bytes.L1 (x0 : (List Int)) (x1 : (List Int)) : Nat → Int → Option (Bool)
  | 0, _ => none
  | m1 + 1, j2 =>
    if j2 < ((x0.length : Nat) : Int) then
      (idx x0 j2).bind fun y6 =>
      (idx x1 j2).bind fun y15 =>
      if y6 ≠ y15 then
        some false
      else
        (ref04_Bytes.L1 x0 x1 m1) (IntKind.i64.wrap (j2 + 1))
    else
      some true

def ref04_Bytes (N : Nat) (x0 : (List Int)) (x1 : (List Int)) : Option (Bool) :=
  if ((x0.length : Nat) : Int) ≠ ((x1.length : Nat) : Int) then
    some false
  else
    ref04_Bytes.L1 x0 x1 N 0

theorem ref04_Bytes_any {N nx0 qx0 nx1 qx1 : Nat} {x0 x1 : (List Int)} {ax0 ax1 : Option Addr} {P0 P1 : HP} {Fr : List HP} {w : World} {r : Bool} {K : Value → World → Prop} (hrd0 : Reads P0 (pInt .i8) (.slice ax0 nx0 qx0) x0) (hrd1 : Reads P1 (pInt .i8) (.slice ax1 nx1 qx1) x1) (hc : Ctx w (P0 :: P1 :: Fr)) (hp : ref04_Bytes N x0 x1 = some r)
    (k : ∀ w', Ctx w' (P0 :: P1 :: Fr) → K (.bool r) w') : Calls Try.prog 16 #[.slice ax0 nx0 qx0, .slice ax1 nx1 qx1] w (Ret K) := by
 unfold ref04_Bytes at hp; refine Center2 F16 M16 rfl rfl ?_; obtain ⟨hn0, _⟩ := Ctx.rdLen hc (k := 0) rfl rfl hrd0; subst hn0; obtain ⟨hn1, _⟩ := Ctx.rdLen hc (k := 1) rfl rfl hrd1; subst hn1; refine Wseq (Wreg ?_); refine au 1 rfl <| rn (qn (Wseq (Wseq (Wreg ?_)))); refine au 1 rfl <| sz (ln rfl U31) <| au 1 rfl <| sz (ln rfl U31) <| au 1 rfl <| rn (qn ?_); refine Wif hp (fun _ hp => ?_) fun _ hp => ?_
 · refine Wskip (qn (Wseq (Wseq (Wreg ?_)))); refine au 1 rfl <| rn (qn (Wblk ?_)); refine Wloop (rg [4, 2, 11, 15]) [5] (fun m vs w' => ∃ j2 : Int, vs = [.int .i64 j2] ∧ ref04_Bytes.L1 x0 x1 m j2 = some r ∧ Ctx w' (P0 :: P1 :: Fr)) N ?_ ?_
   · exact ⟨0, rfl, hp, hc⟩
   · clear hp hc; intro m vs u w3 hJ; obtain ⟨j2, rfl, hp, hc⟩ := hJ; rcases m with _ | m1
     · cases (show none = some r from hp)
     rw [ref04_Bytes.L1] at hp; refine Wseq (Wseq (Wreg ?_)); refine au 2 rfl <| sz (ln rfl U31) <| au 1 rfl <| rn (qn ?_); refine Wif hp (fun _ hp => ?_) fun _ hp => ?_
     · refine Wexit (qx (qx (be (qn (Wseq (Wreg ?_)))))); refine au 1 rfl <| rn (qn (Wret ?_)); obtain rfl := sj hp; exact fz R16 M16 (k _ hc)
     · refine Wskip (qn (Wseq (Wblk (Wseq ?_)))); replace hc := hc.drew; refine Wdrw (fun _ w' => w' = World.drew w3) [0, 0, 3, 7, 0, 0, 48, 112, 255] 0 0 rfl (by kernel_rfl) (fun _ _ => rfl) ?_; generalize hw : World.drew w3 = w5 at *; clear hw; refine ad_ 2 rfl ?_; obtain ⟨y6, hy6, hp⟩ := bind_some hp; obtain ⟨b9, o10, rfl, hi7, hi8⟩ := hc.ra 0 hrd0 hy6; refine dE (ixx rfl rfl U31 Z42 hi7 hi8 rfl) rfl rfl ?_; have hcell13 := hc.rv 0 hrd0 hy6; refine dE (ld rfl G42 (hcell13 0 _ rfl)) rfl rfl <| ad_ 2 rfl ?_; obtain ⟨y15, hy15, hp⟩ := bind_some hp; obtain ⟨b18, o19, rfl, hi16, hi17⟩ := hc.ra 1 hrd1 hy15; refine dE (ixx rfl rfl U31 Z42 hi16 hi17 rfl) rfl rfl ?_; have hcell22 := hc.rv 1 hrd1 hy15; refine dE (ld rfl G42 (hcell22 0 _ rfl)) rfl rfl <| ad_ 1 rfl <| dn (qn ?_); refine Wif hp (fun _ hp => ?_) fun _ hp => ?_
       · refine Wskip (bn (qn (Wreg ?_))); refine au 3 rfl <| rn (qn ?_); exact ⟨m1, Nat.lt_succ_self _, ⟨(IntKind.i64.wrap (j2 + 1)), rfl, hp, hc⟩, (kl rfl k0)⟩
       · refine Wseq (Wreg ?_); refine au 1 rfl <| rn (qn (Wret (br (qr (qr (br (qr ?_))))))); obtain rfl := sj hp; exact fz R16 M16 (k _ hc)
 · refine Wseq (Wreg ?_); refine au 1 rfl <| rn (qn (Wret (qr ?_))); obtain rfl := sj hp; exact fz R16 M16 (k _ hc)

def ref12_Store_Find.L1 (x0 : S_ref12_Store) (x1 : S_api_Spot) : Nat → Int → Option (Int)
  | 0, _ => none
  | m1 + 1, j4 =>
    if j4 < ((x0.L.length : Nat) : Int) then
      (idx x0.L j4).bind fun y10 =>
      if (⟨y10.At.Request, y10.At.Layer, y10.At.Place⟩ : S_api_Spot) = (⟨x1.Request, x1.Layer, x1.Place⟩ : S_api_Spot) then
        some j4
      else
        (ref12_Store_Find.L1 x0 x1 m1) (IntKind.i64.wrap (j4 + 1))
    else
      some (-1)

def ref12_Store_Find (N : Nat) (x0 : S_ref12_Store) (x1 : S_api_Spot) : Option (Int) :=
  ref12_Store_Find.L1 x0 x1 N 0

theorem ref12_Store_Find_any {N b0 : Nat} {x0 : S_ref12_Store} {x1 : S_api_Spot} {Fr : List HP} {w : World} {r : Int} {K : Value → World → Prop}  (hc : Ctx w (S_ref12_Store.hp b0 x0 :: Fr)) (hp : ref12_Store_Find N x0 x1 = some r)
    (k : ∀ w', Ctx w' (S_ref12_Store.hp b0 x0 :: Fr) → K (.int .i64 r) w') : Calls Try.prog 21 #[pt b0 0, .agg (S_api_Spot.cz x1).toArray] w (Ret K) := by
 unfold ref12_Store_Find at hp; refine Center2 F21 M21 rfl rfl ?_; refine Wseq (Wreg ?_); refine rsE (Ctx.boxOp (cs := (S_api_Spot.cz x1)) (v := .agg (S_api_Spot.cz x1).toArray) hc rfl rfl) rfl ?_; clear hc; rintro _ w3 ⟨b1, rfl, hc⟩; refine au 1 rfl <| rn (qn (Wseq (Wseq (Wreg ?_)))); refine au 1 rfl <| rn (qn (Wblk ?_)); refine Wloop (rg [4, 22]) [5] (fun m vs w' => ∃ j4 : Int, vs = [.int .i64 j4] ∧ ref12_Store_Find.L1 x0 x1 m j4 = some r ∧ Ctx w' (B b1 (S_api_Spot.cz x1) 30 :: S_ref12_Store.hp b0 x0 :: Fr)) N ?_ ?_
 · exact ⟨0, rfl, hp, hc⟩
 · clear hp hc; intro m vs u w5 hJ; obtain ⟨j4, rfl, hp, hc⟩ := hJ; rcases m with _ | m1
   · cases (show none = some r from hp)
   rw [ref12_Store_Find.L1] at hp; refine Wseq (Wseq (Wreg ?_)); refine au 3 rfl <| sz (v := pt b0 1) (fax 1 rfl U53 rfl Z51 rfl rfl rfl) ?_; replace hc := hc.m [2]; replace hc := S_ref12_Store.uf hc; obtain ⟨a6, q7, hc⟩ := hc; refine sz (ld rfl G51 (Ctx.cell hc (k := 0) rfl rfl rfl)) <| sz (ln rfl U51) <| au 1 rfl <| rn (qn ?_); refine Wif hp (fun _ hp => ?_) fun _ hp => ?_
   · refine Wexit (qx (qx (be (qn (Wseq (Wreg ?_)))))); refine au 1 rfl <| rn (qn (Wret ?_)); replace hc := hc.m [2, 2]; replace hc := S_ref12_Store.fd (x := x0) hc; replace hc := hc.m [3]; obtain rfl := sj hp; exact fz R21 M21 (k _ hc)
   · refine Wskip (qn (Wseq (Wblk (Wseq ?_)))); replace hc := hc.drew; refine Wdrw (fun _ w' => w' = World.drew w5) [0, 1, 3, 7, 0, 31, 63, 127, 0, 511] 0 0 rfl (by kernel_rfl) (fun _ _ => rfl) ?_; generalize hw : World.drew w5 = w9 at *; clear hw; refine ad_ 2 rfl <| dE (v := pt b0 1) (fax 1 rfl U53 rfl Z51 rfl rfl rfl) rfl rfl <| dE (ld rfl G51 (Ctx.cell hc (k := 0) rfl rfl rfl)) rfl rfl <| ad_ 1 rfl ?_; obtain ⟨y10, hy10, hp⟩ := bind_some hp; obtain ⟨b13, o14, rfl, hi11, hi12⟩ := hc.ra 1 reads_own hy10; refine dE (ixx rfl rfl U51 Z57 hi11 hi12 rfl) rfl rfl <| dE (v := .pointer (some ⟨b13, o14 + (j4).toNat * 5 + 0, none⟩)) (fax 0 rfl U57 rfl Z30 rfl rfl rfl) rfl rfl ?_; replace hc := Ctx.rdCell hc (k := 1) rfl rfl reads_own hy10; obtain ⟨cs16, hc, hcell17⟩ := hc; replace hc := S_ref12_Row.op hc; obtain ⟨a19, q20, a21, q22, u18, hc⟩ := hc; subst u18; refine dE (v := .agg (S_api_Spot.cz y10.At).toArray) (ldg rfl G30 Z30 rfl (elCells hcell17 0 (vs := (S_api_Spot.cz y10.At)) rfl)) rfl rfl <| dE (v := .agg (S_api_Spot.cz x1).toArray) (ldg rfl G30 Z30 rfl (Ctx.cells hc (k := 4) rfl rfl 0 (vs := (S_api_Spot.cz x1)) rfl)) rfl rfl <| dE (v := .bool (decide (y10.At = x1))) (eqs rfl rfl (by kernel_rfl) (fun w => S_api_Spot.eql w y10.At x1)) rfl rfl <| dn (qn ?_); refine Wif hp (fun _ hp => ?_) fun _ hp => ?_
     · refine Wskip (bn (qn (Wreg ?_))); refine au 3 rfl <| rn (qn ?_); replace hc := hc.m [6, 6]; replace hc := S_ref12_Store.fd (x := x0) hc; replace hc := hc.m [5, 3, 2]; exact ⟨m1, Nat.lt_succ_self _, ⟨(IntKind.i64.wrap (j4 + 1)), rfl, hp, hc⟩, (kl rfl k0)⟩
     · refine Wseq (Wreg ?_); refine au 2 rfl <| rn (qn (Wret (br (qr (qr (br (qr ?_))))))); replace hc := hc.m [6, 6]; replace hc := S_ref12_Store.fd (x := x0) hc; replace hc := hc.m [7, 5, 3]; obtain rfl := sj hp; exact fz R21 M21 (k _ hc)

theorem bd_57_0_1_2 {ρ : Operand → Value} {w : World} {dst : Option Nat} {ty : TypeId} {pos : String} {after : Array Edge} {g : Option (Nat × Bool)} {x0 x1 x2 : Operand} {c0_0 c0_1 c0_2 : Value} {a1 : Option Addr} {l1 c1 : Nat} {a2 : Option Addr} {l2 c2 : Nat} (h0 : ρ x0 = .agg #[c0_0, c0_1, c0_2]) (h1 : ρ x1 = (.slice a1 l1 c1)) (h2 : ρ x2 = (.slice a2 l2 c2)) :
    (execOp ρ ⟨dst, .build 57 #[(0, x0), (1, x1), (2, x2)], ty, pos, after, g⟩).run Try.prog w = .ok (.value (.agg #[c0_0, c0_1, c0_2, (.slice a1 l1 c1), (.slice a2 l2 c2)])) w := by
  simp [execOp, Instr.build, Instr.fill, Try.zeroValue57, Try.runUnderlying57, Try.sizeOf30, Try.sizeOf31, h0, h1, h2, Value.cells]

def ref12_Store_Put.J2 (j21 : S_ref12_Store) : Option (Int × S_ref12_Store) :=
  some (0, j21)

def ref12_Store_Put.J3 (x0 : S_ref12_Store) (j92 : Bool) : Option (Int × S_ref12_Store) :=
  if j92 = true then
    some (0, x0)
  else
    some (2, x0)

def ref12_Store_Put.J1 (N : Nat) (x0 : S_ref12_Store) (x1 : S_api_Spot) (x2 : (List Int)) (x3 : (List Int)) (j8 : Bool) : Option (Int × S_ref12_Store) :=
  if j8 = true then
    some (120, x0)
  else
    (ref12_Store_Find N x0 x1).bind fun r14 =>
    if r14 ≥ 0 then
      (idx x0.L r14).bind fun y95 =>
      (ref04_Bytes N y95.K x2).bind fun r108 =>
      if r108 = true then
        (idx x0.L r14).bind fun y111 =>
        (ref04_Bytes N y111.V x3).bind fun r124 =>
        ref12_Store_Put.J3 x0 r124
      else
        ref12_Store_Put.J3 x0 false
    else
      if ((x0.L.length : Nat) : Int) ≥ x0.Room then
        some (80, x0)
      else
        (app ([]) x2).bind fun z100013 =>
        (app ([]) x3).bind fun z100014 =>
        (app x0.L ([(⟨x1, z100013, z100014⟩ : S_ref12_Row)])).bind fun z100015 =>
        ref12_Store_Put.J2 (⟨x0.Room, z100015⟩ : S_ref12_Store)

def ref12_Store_Put (N : Nat) (x0 : S_ref12_Store) (x1 : S_api_Spot) (x2 : (List Int)) (x3 : (List Int)) : Option (Int × S_ref12_Store) :=
  if x1.Request < 0 then
    some (2, x0)
  else
    if x1.Layer < 0 then
      some (2, x0)
    else
      if x1.Place < 0 then
        some (2, x0)
      else
        if ((x2.length : Nat) : Int) ≠ ((x3.length : Nat) : Int) then
          some (30, x0)
        else
          if x1.Place > 0 then
            (ref12_Store_Find N x0 (⟨x1.Request, x1.Layer, (IntKind.i64.wrap (x1.Place - 1))⟩ : S_api_Spot)).bind fun r10 =>
            ref12_Store_Put.J1 N x0 x1 x2 x3 (decide (r10 < 0))
          else
            ref12_Store_Put.J1 N x0 x1 x2 x3 false

theorem ref12_Store_Put_any {N b0 nx2 qx2 nx3 qx3 : Nat} {x0 : S_ref12_Store} {x1 : S_api_Spot} {x2 x3 : (List Int)} {ax2 ax3 : Option Addr} {P2 P3 : HP} {Fr : List HP} {w : World} {r : Int × S_ref12_Store} {K : Value → World → Prop} (hrd2 : Reads P2 (pInt .i8) (.slice ax2 nx2 qx2) x2) (hrd3 : Reads P3 (pInt .i8) (.slice ax3 nx3 qx3) x3) (hc : Ctx w (S_ref12_Store.hp b0 x0 :: P2 :: P3 :: Fr)) (hp : ref12_Store_Put N x0 x1 x2 x3 = some r)
    (k : ∀ w', Ctx w' (S_ref12_Store.hp b0 r.2 :: P2 :: P3 :: Fr) → K (.int .i64 r.1) w') : Calls Try.prog 18 #[pt b0 0, .agg (S_api_Spot.cz x1).toArray, .slice ax2 nx2 qx2, .slice ax3 nx3 qx3] w (Ret K) := by
 unfold ref12_Store_Put at hp; refine Center4 F18 M18 rfl rfl ?_; obtain ⟨hn2, _⟩ := Ctx.rdLen hc (k := 1) rfl rfl hrd2; subst hn2; obtain ⟨hn3, _⟩ := Ctx.rdLen hc (k := 2) rfl rfl hrd3; subst hn3; refine Wseq (Wreg ?_); refine rsE (Ctx.boxOp (cs := (S_api_Spot.cz x1)) (v := .agg (S_api_Spot.cz x1).toArray) hc rfl rfl) rfl ?_; clear hc; rintro _ w3 ⟨b1, rfl, hc⟩; refine au 1 rfl <| rn (qn (Wseq (Wseq (Wreg ?_)))); refine fq 0 U30 Z3 G3 hc 0 ?_; refine au 2 rfl ?_; cases hb4 : (decide (x1.Request < 0))
 · replace hp := gneg hp (of_decide_eq_false hb4); refine fq 1 U30 Z3 G3 hc 0 ?_; refine au 3 rfl ?_; cases hb5 : (decide (x1.Layer < 0))
   · replace hp := gneg hp (of_decide_eq_false hb5); refine fq 2 U30 Z3 G3 hc 0 ?_; refine au 2 rfl <| rn (qn ?_); refine Wif hp (fun _ h => ?_) fun _ h => ?_
     · replace hp := h; clear h; refine Wskip (qn (Wseq (Wseq (Wreg ?_)))); refine au 1 rfl <| sz (ln rfl U31) <| au 1 rfl <| sz (ln rfl U31) <| au 1 rfl <| rn (qn ?_); refine Wif hp (fun _ h => ?_) fun _ h => ?_
       · replace hp := h; clear h; refine Wskip (qn (Wseq ?_)); refine Wseqm (rg [28, 16]) [43] (fun vs w' => ∃ j8 : Bool, vs = [.bool j8] ∧ ref12_Store_Put.J1 N x0 x1 x2 x3 j8 = some r ∧ Ctx w' (B b1 (S_api_Spot.cz x1) 30 :: S_ref12_Store.hp b0 x0 :: P2 :: P3 :: Fr)) ?_ ?_
         · refine Wreg ?_; refine fq 2 U30 Z3 G3 hc 0 ?_; refine au 2 rfl ?_; cases hb9 : (decide (x1.Place > 0))
           · replace hp := gneg hp (of_decide_eq_false hb9); (iterate 11 refine r0 rfl ?_); refine au 1 rfl <| rn (qn ?_); exact ⟨⟨false, rfl, hp, hc⟩, (kl rfl kb)⟩
           · replace hp := gpos hp (of_decide_eq_true hb9); refine au 1 rfl ?_; refine fq 0 U30 Z3 G3 hc 0 ?_; refine fq 1 U30 Z3 G3 hc 0 ?_; refine fq 2 U30 Z3 G3 hc 0 ?_; refine au 1 rfl <| sz (v := .agg #[.int .i64 x1.Request, .int .i64 x1.Layer, .int .i64 (IntKind.i64.wrap (x1.Place - 1))]) (bd_30_0_1_2 rfl rfl rfl) ?_; replace hp := bind_some hp; obtain ⟨r10, hr10, hp⟩ := hp; replace hc := hc.m [2]; refine kz C21 ?_; refine ref12_Store_Find_any (x1 := (⟨x1.Request, x1.Layer, (IntKind.i64.wrap (x1.Place - 1))⟩ : S_api_Spot)) hc hr10 ?_; clear hc; intro w11 hc; refine au 2 rfl <| rn (qn ?_); replace hc := hc.m [6, 6, 4, 6]; exact ⟨⟨decide (r10 < 0), rfl, hp, hc⟩, (kl rfl kb)⟩
         · clear hp hc; intro vs u w12 hJ; obtain ⟨j8, rfl, hp, hc⟩ := hJ; unfold ref12_Store_Put.J1 at hp; cases hb13 : j8
           · replace hp := gneg hp (by rw [hb13]; exact Bool.false_ne_true); subst hb13; refine Wcf rfl (Wskip (qn (Wseq (Wreg ?_)))); refine au 1 rfl <| lg G30 Z30 hc 0 ?_; replace hp := bind_some hp; obtain ⟨r14, hr14, hp⟩ := hp; replace hc := hc.m [2]; refine kz C21 ?_; refine ref12_Store_Find_any (x1 := x1) hc hr14 ?_; clear hc; intro w15 hc; refine au 1 rfl <| rn (qn (Wseq (Wseq (Wreg ?_)))); refine au 2 rfl <| rn (qn ?_); refine Wif hp (fun _ h => ?_) fun _ h => ?_
             · replace hp := h; clear h; refine Wskip (qn (Wseq (Wseq ?_))); replace hc := S_ref12_Store.uf hc; obtain ⟨a17, q18, hc⟩ := hc; replace hc := hc.drew; refine Wdrw (fun _ w' => w' = World.drew w15) [0, 1, 3, 7, 15, 0, 32, 96, 224, 511] 0 0 rfl (by kernel_rfl) (fun _ _ => rfl) ?_; generalize hw : World.drew w15 = w19 at *; clear hw; refine ad_ 2 rfl <| dE (v := pt b0 1) (fax 1 rfl U53 rfl Z51 rfl rfl rfl) rfl rfl <| dE (ld rfl G51 (Ctx.cell hc (k := 0) rfl rfl rfl)) rfl rfl <| dE (ln rfl U51) rfl rfl <| ad_ 2 rfl <| dE (v := pt b0 0) (fax 0 rfl U53 rfl Z3 rfl rfl rfl) rfl rfl <| dE (ld rfl G3 (Ctx.cell hc (k := 0) rfl rfl rfl)) rfl rfl <| ad_ 1 rfl <| dn (qn ?_); refine Wif hp (fun _ h => ?_) fun _ h => ?_
               · replace hp := h; clear h; refine Wskip (qn ?_); refine Wseqm (rg [81, 17]) [] (fun vs w' => ∃ j21 : S_ref12_Store, vs = [] ∧ ref12_Store_Put.J2 j21 = some r ∧ Ctx w' (S_ref12_Store.hp b0 j21 :: P2 :: P3 :: Fr)) ?_ ?_
                 · replace hp := bind_some hp; obtain ⟨z100013, hz100013, hp⟩ := hp; replace hp := bind_some hp; obtain ⟨z100014, hz100014, hp⟩ := hp; replace hp := bind_some hp; obtain ⟨z100015, hz100015, hp⟩ := hp; refine Wrg rfl ?_; refine RGsplit 6 9 rfl ?_ ?_
                   · refine RGsplit 8 9 rfl ?_ ?_
                     · replace hc := hc.drew; refine RGleaf [0, 1, 2, 3, 4, 5, 6, 7, 8, 9, 10, 11, 12, 13, 14, 15, 16, 17] (fun j w' => (j = 4 → w'.cell? ⟨b0, 1, none⟩ = some (.slice a17 x0.L.length q18)) ∧ (j = 5 → ∀ j v, ((S_api_Spot.cz x1) : List Value)[j]? = some v → w'.cell? ((⟨b1, 0, none⟩ : Addr).add j) = some v) ∧ True) [0, 0, 2, 6, 14, 0, 0, 0, 192, 448, 0, 1984, 4064, 8160, 16382, 32767, 65535, 131071] 0 0 (by kernel_rfl) (by kernel_rfl) (fun j hj => ⟨fun _ => hc.cell (k := 0) rfl rfl rfl, fun _ => Ctx.cells hc (k := 2) rfl rfl 0 (vs := (S_api_Spot.cz x1)) rfl, trivial⟩) ?_; generalize hw : World.drew w19 = w22 at *; clear hw; refine ad_ 3 rfl <| ds (v := pt b0 1) rfl (fun w' hF => fax 1 rfl U53 rfl Z51 rfl rfl rfl) rfl <| ds rfl (fun w' hF => ld rfl G51 ((hF.1 rfl))) rfl <| ds (v := .agg (S_api_Spot.cz x1).toArray) rfl (fun w' hF => ldg rfl G30 Z30 rfl (hF.2.1 rfl)) rfl ?_; refine deE (Ctx.builtOp (css := []) (xs := ([] : List Int)) (E := (pInt .i8)) hc U31 Z42 V42 rfl rfl rfl rfl rfl rfl rfl rfl) rfl rfl ?_; clear hc; rintro _ w24 ⟨a23, rfl, hc⟩; refine ⟨fun j hj hb => ⟨fun _ => hc.cell (k := 1) rfl rfl rfl, fun _ => Ctx.cells hc (k := 3) rfl rfl 0 (vs := (S_api_Spot.cz x1)) rfl, trivial⟩, ?_⟩; refine ad_ 1 rfl ?_; obtain ⟨hg25, e26⟩ := app_some hz100013; refine deE (hc.ap 0 4 hrd2 U31 Try.t42 hg25) rfl rfl ?_; clear hc; rintro _ w29 ⟨a27, q28, rfl, hc⟩; rw [← e26] at hc ⊢; replace hc := Ctx.n0 hc; refine ⟨fun j hj hb => ⟨fun _ => hc.cell (k := 1) rfl rfl rfl, fun _ => Ctx.cells hc (k := 3) rfl rfl 0 (vs := (S_api_Spot.cz x1)) rfl, trivial⟩, ?_⟩; refine deE (Ctx.builtOp (css := []) (xs := ([] : List Int)) (E := (pInt .i8)) hc U31 Z42 V42 rfl rfl rfl rfl rfl rfl rfl rfl) rfl rfl ?_; clear hc; rintro _ w31 ⟨a30, rfl, hc⟩; refine ⟨fun j hj hb => ⟨fun _ => hc.cell (k := 2) rfl rfl rfl, fun _ => Ctx.cells hc (k := 4) rfl rfl 0 (vs := (S_api_Spot.cz x1)) rfl, trivial⟩, ?_⟩; refine ad_ 1 rfl ?_; obtain ⟨hg32, e33⟩ := app_some hz100014; refine deE (hc.ap 0 6 hrd3 U31 Try.t42 hg32) rfl rfl ?_; clear hc; rintro _ w36 ⟨a34, q35, rfl, hc⟩; rw [← e33] at hc ⊢; replace hc := Ctx.n0 hc; refine ⟨fun j hj hb => ⟨fun _ => hc.cell (k := 2) rfl rfl rfl, fun _ => Ctx.cells hc (k := 4) rfl rfl 0 (vs := (S_api_Spot.cz x1)) rfl, trivial⟩, ?_⟩; refine ds (v := .agg #[.int .i64 x1.Request, .int .i64 x1.Layer, .int .i64 x1.Place, .slice a27 z100013.length q28, .slice a34 z100014.length q35]) rfl (fun w' hF => bd_57_0_1_2 rfl rfl rfl) rfl ?_; replace hc := hc.freeze (k := 0) rfl rfl rfl; replace hc := Ctx.n0 hc; replace hc := hc.dz 0; replace hc := hc.freeze (k := 2) rfl rfl rfl; replace hc := Ctx.n2 hc; replace hc := hc.dz 2; replace hc : Ctx w36 (Hold S_ref12_Row.pr [.int .i64 x1.Request, .int .i64 x1.Layer, .int .i64 x1.Place, .slice a27 z100013.length q28, .slice a34 z100014.length q35] (⟨x1, z100013, z100014⟩ : S_ref12_Row) :: hR .i8 a34 q35 z100014 :: hR .i8 a27 q28 z100013 :: B b0 [.int .i64 x0.Room, .slice a17 x0.L.length q18] 53 :: Own S_ref12_Row.pr 57 (.slice a17 x0.L.length q18) x0.L :: B b1 (S_api_Spot.cz x1) 30 :: P2 :: P3 :: Fr) := S_ref12_Row.cl hc; refine deE (Ctx.builtOp (css := [[.int .i64 x1.Request, .int .i64 x1.Layer, .int .i64 x1.Place, .slice a27 z100013.length q28, .slice a34 z100014.length q35]]) (xs := ([(⟨x1, z100013, z100014⟩ : S_ref12_Row)] : List S_ref12_Row)) (E := S_ref12_Row.pr) hc U51 Z57 V57 rfl rfl rfl rfl rfl rfl rfl rfl) rfl rfl ?_; clear hc; rintro _ w38 ⟨a37, rfl, hc⟩; refine ⟨fun j hj hb => ⟨fun _ => hc.cell (k := 3) rfl rfl rfl, fun e => nja hj e, trivial⟩, ?_⟩; obtain ⟨hg39, e40⟩ := app_some hz100015; refine deE (hc.ap 4 0 reads_own U51 Try.t57 hg39) rfl rfl ?_; clear hc; rintro _ w43 ⟨a41, q42, rfl, hc⟩; rw [← e40] at hc ⊢; replace hc := Ctx.n4 hc; refine ⟨fun j hj hb => ⟨fun e => nja hj e, fun e => nja hj e, trivial⟩, ?_⟩; refine ad_ 1 rfl <| ds (v := pt b0 1) rfl (fun w' hF => fax 1 rfl U53 rfl Z51 rfl rfl rfl) rfl ?_; refine pod hc 3 Z51 ?_; clear hc; rintro w44 hc; refine ⟨fun j hj hb => ⟨fun e => nja hj e, fun e => nja hj e, trivial⟩, ?_⟩; refine dn (qn ?_); replace hc := hc.m [8, 8]; replace hc := S_ref12_Store.fd (x := (⟨x0.Room, z100015⟩ : S_ref12_Store)) hc; replace hc := hc.m [9, 7, 5, 3]; exact ⟨⟨(⟨x0.Room, z100015⟩ : S_ref12_Store), rfl, hp, hc⟩, (kl rfl kb)⟩
                     · replace hc := hc.drew; refine RGleaf [0, 1, 2, 3, 4, 5, 6, 7, 9, 8, 10, 11, 12, 13, 14, 15, 16, 17] (fun j w' => (j = 4 → w'.cell? ⟨b0, 1, none⟩ = some (.slice a17 x0.L.length q18)) ∧ (j = 5 → ∀ j v, ((S_api_Spot.cz x1) : List Value)[j]? = some v → w'.cell? ((⟨b1, 0, none⟩ : Addr).add j) = some v) ∧ True) [0, 0, 2, 6, 14, 0, 0, 0, 64, 448, 0, 1984, 4064, 8160, 16382, 32767, 65535, 131071] 0 0 (by kernel_rfl) (by kernel_rfl) (fun j hj => ⟨fun _ => hc.cell (k := 0) rfl rfl rfl, fun _ => Ctx.cells hc (k := 2) rfl rfl 0 (vs := (S_api_Spot.cz x1)) rfl, trivial⟩) ?_; generalize hw : World.drew w19 = w45 at *; clear hw; refine ad_ 3 rfl <| ds (v := pt b0 1) rfl (fun w' hF => fax 1 rfl U53 rfl Z51 rfl rfl rfl) rfl <| ds rfl (fun w' hF => ld rfl G51 ((hF.1 rfl))) rfl <| ds (v := .agg (S_api_Spot.cz x1).toArray) rfl (fun w' hF => ldg rfl G30 Z30 rfl (hF.2.1 rfl)) rfl ?_; refine deE (Ctx.builtOp (css := []) (xs := ([] : List Int)) (E := (pInt .i8)) hc U31 Z42 V42 rfl rfl rfl rfl rfl rfl rfl rfl) rfl rfl ?_; clear hc; rintro _ w47 ⟨a46, rfl, hc⟩; refine ⟨fun j hj hb => ⟨fun _ => hc.cell (k := 1) rfl rfl rfl, fun _ => Ctx.cells hc (k := 3) rfl rfl 0 (vs := (S_api_Spot.cz x1)) rfl, trivial⟩, ?_⟩; refine ad_ 1 rfl ?_; refine deE (Ctx.builtOp (css := []) (xs := ([] : List Int)) (E := (pInt .i8)) hc U31 Z42 V42 rfl rfl rfl rfl rfl rfl rfl rfl) rfl rfl ?_; clear hc; rintro _ w49 ⟨a48, rfl, hc⟩; refine ⟨fun j hj hb => ⟨fun _ => hc.cell (k := 2) rfl rfl rfl, fun _ => Ctx.cells hc (k := 4) rfl rfl 0 (vs := (S_api_Spot.cz x1)) rfl, trivial⟩, ?_⟩; obtain ⟨hg50, e51⟩ := app_some hz100013; refine deE (hc.ap 1 5 hrd2 U31 Try.t42 hg50) rfl rfl ?_; clear hc; rintro _ w54 ⟨a52, q53, rfl, hc⟩; rw [← e51] at hc ⊢; replace hc := Ctx.n1 hc; refine ⟨fun j hj hb => ⟨fun _ => hc.cell (k := 2) rfl rfl rfl, fun _ => Ctx.cells hc (k := 4) rfl rfl 0 (vs := (S_api_Spot.cz x1)) rfl, trivial⟩, ?_⟩; refine ad_ 1 rfl ?_; obtain ⟨hg55, e56⟩ := app_some hz100014; refine deE (hc.ap 0 6 hrd3 U31 Try.t42 hg55) rfl rfl ?_; clear hc; rintro _ w59 ⟨a57, q58, rfl, hc⟩; rw [← e56] at hc ⊢; replace hc := Ctx.n0 hc; refine ⟨fun j hj hb => ⟨fun _ => hc.cell (k := 2) rfl rfl rfl, fun _ => Ctx.cells hc (k := 4) rfl rfl 0 (vs := (S_api_Spot.cz x1)) rfl, trivial⟩, ?_⟩; refine ds (v := .agg #[.int .i64 x1.Request, .int .i64 x1.Layer, .int .i64 x1.Place, .slice a52 z100013.length q53, .slice a57 z100014.length q58]) rfl (fun w' hF => bd_57_0_1_2 rfl rfl rfl) rfl ?_; replace hc := hc.freeze (k := 0) rfl rfl rfl; replace hc := Ctx.n0 hc; replace hc := hc.dz 0; replace hc := hc.freeze (k := 2) rfl rfl rfl; replace hc := Ctx.n2 hc; replace hc := hc.dz 2; replace hc : Ctx w59 (Hold S_ref12_Row.pr [.int .i64 x1.Request, .int .i64 x1.Layer, .int .i64 x1.Place, .slice a52 z100013.length q53, .slice a57 z100014.length q58] (⟨x1, z100013, z100014⟩ : S_ref12_Row) :: hR .i8 a57 q58 z100014 :: hR .i8 a52 q53 z100013 :: B b0 [.int .i64 x0.Room, .slice a17 x0.L.length q18] 53 :: Own S_ref12_Row.pr 57 (.slice a17 x0.L.length q18) x0.L :: B b1 (S_api_Spot.cz x1) 30 :: P2 :: P3 :: Fr) := S_ref12_Row.cl hc; refine deE (Ctx.builtOp (css := [[.int .i64 x1.Request, .int .i64 x1.Layer, .int .i64 x1.Place, .slice a52 z100013.length q53, .slice a57 z100014.length q58]]) (xs := ([(⟨x1, z100013, z100014⟩ : S_ref12_Row)] : List S_ref12_Row)) (E := S_ref12_Row.pr) hc U51 Z57 V57 rfl rfl rfl rfl rfl rfl rfl rfl) rfl rfl ?_; clear hc; rintro _ w61 ⟨a60, rfl, hc⟩; refine ⟨fun j hj hb => ⟨fun _ => hc.cell (k := 3) rfl rfl rfl, fun e => nja hj e, trivial⟩, ?_⟩; obtain ⟨hg62, e63⟩ := app_some hz100015; refine deE (hc.ap 4 0 reads_own U51 Try.t57 hg62) rfl rfl ?_; clear hc; rintro _ w66 ⟨a64, q65, rfl, hc⟩; rw [← e63] at hc ⊢; replace hc := Ctx.n4 hc; refine ⟨fun j hj hb => ⟨fun e => nja hj e, fun e => nja hj e, trivial⟩, ?_⟩; refine ad_ 1 rfl <| ds (v := pt b0 1) rfl (fun w' hF => fax 1 rfl U53 rfl Z51 rfl rfl rfl) rfl ?_; refine pod hc 3 Z51 ?_; clear hc; rintro w67 hc; refine ⟨fun j hj hb => ⟨fun e => nja hj e, fun e => nja hj e, trivial⟩, ?_⟩; refine dn (qn ?_); replace hc := hc.m [8, 8]; replace hc := S_ref12_Store.fd (x := (⟨x0.Room, z100015⟩ : S_ref12_Store)) hc; replace hc := hc.m [9, 7, 5, 3]; exact ⟨⟨(⟨x0.Room, z100015⟩ : S_ref12_Store), rfl, hp, hc⟩, (kl rfl kb)⟩
                   · replace hc := hc.drew; refine RGleaf [0, 1, 2, 3, 4, 5, 7, 9, 6, 8, 10, 11, 12, 13, 14, 15, 16, 17] (fun j w' => (j = 4 → w'.cell? ⟨b0, 1, none⟩ = some (.slice a17 x0.L.length q18)) ∧ (j = 5 → ∀ j v, ((S_api_Spot.cz x1) : List Value)[j]? = some v → w'.cell? ((⟨b1, 0, none⟩ : Addr).add j) = some v) ∧ True) [0, 0, 2, 6, 14, 0, 0, 0, 128, 448, 0, 1984, 4064, 8160, 16382, 32767, 65535, 131071] 0 0 (by kernel_rfl) (by kernel_rfl) (fun j hj => ⟨fun _ => hc.cell (k := 0) rfl rfl rfl, fun _ => Ctx.cells hc (k := 2) rfl rfl 0 (vs := (S_api_Spot.cz x1)) rfl, trivial⟩) ?_; generalize hw : World.drew w19 = w68 at *; clear hw; refine ad_ 3 rfl <| ds (v := pt b0 1) rfl (fun w' hF => fax 1 rfl U53 rfl Z51 rfl rfl rfl) rfl <| ds rfl (fun w' hF => ld rfl G51 ((hF.1 rfl))) rfl <| ds (v := .agg (S_api_Spot.cz x1).toArray) rfl (fun w' hF => ldg rfl G30 Z30 rfl (hF.2.1 rfl)) rfl <| ad_ 1 rfl ?_; refine deE (Ctx.builtOp (css := []) (xs := ([] : List Int)) (E := (pInt .i8)) hc U31 Z42 V42 rfl rfl rfl rfl rfl rfl rfl rfl) rfl rfl ?_; clear hc; rintro _ w70 ⟨a69, rfl, hc⟩; refine ⟨fun j hj hb => ⟨fun _ => hc.cell (k := 1) rfl rfl rfl, fun _ => Ctx.cells hc (k := 3) rfl rfl 0 (vs := (S_api_Spot.cz x1)) rfl, trivial⟩, ?_⟩; refine deE (Ctx.builtOp (css := []) (xs := ([] : List Int)) (E := (pInt .i8)) hc U31 Z42 V42 rfl rfl rfl rfl rfl rfl rfl rfl) rfl rfl ?_; clear hc; rintro _ w72 ⟨a71, rfl, hc⟩; refine ⟨fun j hj hb => ⟨fun _ => hc.cell (k := 2) rfl rfl rfl, fun _ => Ctx.cells hc (k := 4) rfl rfl 0 (vs := (S_api_Spot.cz x1)) rfl, trivial⟩, ?_⟩; obtain ⟨hg73, e74⟩ := app_some hz100013; refine deE (hc.ap 0 5 hrd2 U31 Try.t42 hg73) rfl rfl ?_; clear hc; rintro _ w77 ⟨a75, q76, rfl, hc⟩; rw [← e74] at hc ⊢; replace hc := Ctx.n0 hc; refine ⟨fun j hj hb => ⟨fun _ => hc.cell (k := 2) rfl rfl rfl, fun _ => Ctx.cells hc (k := 4) rfl rfl 0 (vs := (S_api_Spot.cz x1)) rfl, trivial⟩, ?_⟩; refine ad_ 1 rfl ?_; obtain ⟨hg78, e79⟩ := app_some hz100014; refine deE (hc.ap 1 6 hrd3 U31 Try.t42 hg78) rfl rfl ?_; clear hc; rintro _ w82 ⟨a80, q81, rfl, hc⟩; rw [← e79] at hc ⊢; replace hc := Ctx.n1 hc; refine ⟨fun j hj hb => ⟨fun _ => hc.cell (k := 2) rfl rfl rfl, fun _ => Ctx.cells hc (k := 4) rfl rfl 0 (vs := (S_api_Spot.cz x1)) rfl, trivial⟩, ?_⟩; refine ds (v := .agg #[.int .i64 x1.Request, .int .i64 x1.Layer, .int .i64 x1.Place, .slice a75 z100013.length q76, .slice a80 z100014.length q81]) rfl (fun w' hF => bd_57_0_1_2 rfl rfl rfl) rfl ?_; replace hc := hc.freeze (k := 1) rfl rfl rfl; replace hc := Ctx.n1 hc; replace hc := hc.dz 1; replace hc := hc.freeze (k := 1) rfl rfl rfl; replace hc := Ctx.n1 hc; replace hc := hc.dz 1; replace hc : Ctx w82 (Hold S_ref12_Row.pr [.int .i64 x1.Request, .int .i64 x1.Layer, .int .i64 x1.Place, .slice a75 z100013.length q76, .slice a80 z100014.length q81] (⟨x1, z100013, z100014⟩ : S_ref12_Row) :: hR .i8 a75 q76 z100013 :: hR .i8 a80 q81 z100014 :: B b0 [.int .i64 x0.Room, .slice a17 x0.L.length q18] 53 :: Own S_ref12_Row.pr 57 (.slice a17 x0.L.length q18) x0.L :: B b1 (S_api_Spot.cz x1) 30 :: P2 :: P3 :: Fr) := S_ref12_Row.cl hc; refine deE (Ctx.builtOp (css := [[.int .i64 x1.Request, .int .i64 x1.Layer, .int .i64 x1.Place, .slice a75 z100013.length q76, .slice a80 z100014.length q81]]) (xs := ([(⟨x1, z100013, z100014⟩ : S_ref12_Row)] : List S_ref12_Row)) (E := S_ref12_Row.pr) hc U51 Z57 V57 rfl rfl rfl rfl rfl rfl rfl rfl) rfl rfl ?_; clear hc; rintro _ w84 ⟨a83, rfl, hc⟩; refine ⟨fun j hj hb => ⟨fun _ => hc.cell (k := 3) rfl rfl rfl, fun e => nja hj e, trivial⟩, ?_⟩; obtain ⟨hg85, e86⟩ := app_some hz100015; refine deE (hc.ap 4 0 reads_own U51 Try.t57 hg85) rfl rfl ?_; clear hc; rintro _ w89 ⟨a87, q88, rfl, hc⟩; rw [← e86] at hc ⊢; replace hc := Ctx.n4 hc; refine ⟨fun j hj hb => ⟨fun e => nja hj e, fun e => nja hj e, trivial⟩, ?_⟩; refine ad_ 1 rfl <| ds (v := pt b0 1) rfl (fun w' hF => fax 1 rfl U53 rfl Z51 rfl rfl rfl) rfl ?_; refine pod hc 3 Z51 ?_; clear hc; rintro w90 hc; refine ⟨fun j hj hb => ⟨fun e => nja hj e, fun e => nja hj e, trivial⟩, ?_⟩; refine dn (qn ?_); replace hc := hc.m [8, 8]; replace hc := S_ref12_Store.fd (x := (⟨x0.Room, z100015⟩ : S_ref12_Store)) hc; replace hc := hc.m [9, 7, 5, 3]; exact ⟨⟨(⟨x0.Room, z100015⟩ : S_ref12_Store), rfl, hp, hc⟩, (kl rfl kb)⟩
                 · clear hp hc; intro vs u w91 hJ; obtain ⟨j21, rfl, hp, hc⟩ := hJ; unfold ref12_Store_Put.J2 at hp; refine Wseq (Wreg ?_); refine au 1 rfl <| rn (qn (Wret ?_)); obtain rfl := sj hp; exact fz R18 M18 (k _ hc)
               · replace hp := h; clear h; refine Wseq (Wreg ?_); refine au 1 rfl <| rn (qn (Wret (qr ?_))); replace hc := hc.m [2, 2]; replace hc := S_ref12_Store.fd (x := x0) hc; replace hc := hc.m [3]; obtain rfl := sj hp; exact fz R18 M18 (k _ hc)
             · replace hp := h; clear h; refine Wseq ?_; refine Wseqm (rg [49, 22]) [70] (fun vs w' => ∃ j92 : Bool, vs = [.bool j92] ∧ ref12_Store_Put.J3 x0 j92 = some r ∧ Ctx w' (S_ref12_Store.hp b0 x0 :: P2 :: P3 :: Fr)) ?_ ?_
               · refine Wreg <| au 2 rfl <| sz (v := pt b0 1) (fax 1 rfl U53 rfl Z51 rfl rfl rfl) ?_; replace hc := S_ref12_Store.uf hc; obtain ⟨a93, q94, hc⟩ := hc; refine sz (ld rfl G51 (Ctx.cell hc (k := 0) rfl rfl rfl)) <| au 1 rfl ?_; replace hp := bind_some hp; obtain ⟨y95, hy95, hp⟩ := hp; obtain ⟨b98, o99, rfl, hi96, hi97⟩ := hc.ra 1 reads_own hy95; refine sz (ixx rfl rfl U51 Z57 hi96 hi97 rfl) <| sz (v := .pointer (some ⟨b98, o99 + (r14).toNat * 5 + 3, none⟩)) (fax 3 rfl U57 rfl Z31 rfl rfl rfl) ?_; replace hc := Ctx.rdCell hc (k := 1) rfl rfl reads_own hy95; obtain ⟨cs101, hc, hcell102⟩ := hc; replace hc := S_ref12_Row.op hc; obtain ⟨a104, q105, a106, q107, u103, hc⟩ := hc; subst u103; refine sz (ld rfl G31 (hcell102 3 _ rfl)) <| au 1 rfl ?_; replace hc := hc.dz 0; replace hp := bind_some hp; obtain ⟨r108, hr108, hp⟩ := hp; replace hc := hc.m [12, 2]; refine kz C16 ?_; refine ref04_Bytes_any reads_ro hrd2 hc hr108 ?_; clear hc; intro w109 hc; refine au 1 rfl ?_; cases hb110 : r108
                 · replace hp := gneg hp (by rw [hb110]; exact Bool.false_ne_true); subst hb110; (iterate 10 refine r0 rfl ?_); refine au 1 rfl <| rn (qn ?_); replace hc := hc.m [10, 10]; replace hc := S_ref12_Store.fd (x := x0) hc; replace hc := hc.m [11, 9, 7, 3]; exact ⟨⟨false, rfl, hp, hc⟩, (kl rfl kb)⟩
                 · replace hp := gpos hp hb110; subst hb110; refine au 2 rfl ?_; refine fq 1 U53 Z51 G51 hc 4 ?_; refine au 1 rfl ?_; replace hp := bind_some hp; obtain ⟨y111, hy111, hp⟩ := hp; obtain ⟨b114, o115, -, hi112, hi113⟩ := hc.ra 5 reads_own hy111; refine sz (ixx rfl rfl U51 Z57 hi112 hi113 rfl) <| sz (v := .pointer (some ⟨b98, o99 + (r14).toNat * 5 + 4, none⟩)) (fax 4 rfl U57 rfl Z31 rfl rfl rfl) ?_; replace hc := Ctx.rdCell hc (k := 5) rfl rfl reads_own hy111; obtain ⟨cs117, hc, hcell118⟩ := hc; replace hc := S_ref12_Row.op hc; obtain ⟨a120, q121, a122, q123, u119, hc⟩ := hc; subst u119; refine sz (ld rfl G31 (hcell118 4 _ rfl)) <| au 1 rfl ?_; replace hc := hc.dz 1; replace hp := bind_some hp; obtain ⟨r124, hr124, hp⟩ := hp; replace hc := hc.m [20, 2]; refine kz C16 ?_; refine ref04_Bytes_any reads_ro hrd3 hc hr124 ?_; clear hc; intro w125 hc; refine au 1 rfl <| rn (qn ?_); replace hc := hc.m [18, 18]; replace hc := S_ref12_Store.fd (x := x0) hc; replace hc := hc.m [19, 17, 15, 11, 9, 7, 3, 2, 4, 4]; exact ⟨⟨r124, rfl, hp, hc⟩, (kl rfl kb)⟩
               · clear hp hc; intro vs u w126 hJ; obtain ⟨j92, rfl, hp, hc⟩ := hJ; unfold ref12_Store_Put.J3 at hp; cases hb127 : j92
                 · replace hp := gneg hp (by rw [hb127]; exact Bool.false_ne_true); subst hb127; refine Wcf rfl (Wskip (qn (Wseq (Wreg ?_)))); refine au 1 rfl <| rn (qn (Wret (qr ?_))); obtain rfl := sj hp; exact fz R18 M18 (k _ hc)
                 · replace hp := gpos hp hb127; subst hb127; refine Wct rfl (Wseq (Wreg ?_)); refine au 1 rfl <| rn (qn (Wret (qr (qr ?_)))); obtain rfl := sj hp; exact fz R18 M18 (k _ hc)
           · replace hp := gpos hp hb13; subst hb13; refine Wct rfl (Wseq (Wreg ?_)); refine au 1 rfl <| rn (qn (Wret (qr ?_))); replace hc := hc.m [1]; obtain rfl := sj hp; exact fz R18 M18 (k _ hc)
       · replace hp := h; clear h; refine Wseq (Wreg ?_); refine au 1 rfl <| rn (qn (Wret (qr ?_))); replace hc := hc.m [1]; obtain rfl := sj hp; exact fz R18 M18 (k _ hc)
     · replace hp := h; clear h; refine Wseq (Wreg ?_); refine au 1 rfl <| rn (qn (Wret (qr ?_))); replace hc := hc.m [1]; obtain rfl := sj hp; exact fz R18 M18 (k _ hc)
   · replace hp := gpos hp (of_decide_eq_true hb5); (iterate 3 refine r0 rfl ?_); refine au 1 rfl <| rn (qn (Wct rfl (Wseq (Wreg ?_)))); refine au 1 rfl <| rn (qn (Wret (qr ?_))); replace hc := hc.m [1]; obtain rfl := sj hp; exact fz R18 M18 (k _ hc)
 · replace hp := gpos hp (of_decide_eq_true hb4); (iterate 3 refine r0 rfl ?_); refine au 2 rfl ?_; (iterate 3 refine r0 rfl ?_); refine au 1 rfl <| rn (qn (Wct rfl (Wseq (Wreg ?_)))); refine au 1 rfl <| rn (qn (Wret (qr ?_))); replace hc := hc.m [1]; obtain rfl := sj hp; exact fz R18 M18 (k _ hc)

def ref12_Store_Drop.J2 (j5 : Int) (k1 : (List S_ref12_Row) → Int → Option (Int × S_ref12_Store)) (j13 : (List S_ref12_Row)) : Option (Int × S_ref12_Store) :=
  k1 j13 (IntKind.i64.wrap (j5 + 1))

def ref12_Store_Drop.L1 (x0 : S_ref12_Store) (x1 : Int) : Nat → (List S_ref12_Row) → Int → Option (Int × S_ref12_Store)
  | 0, _, _ => none
  | m1 + 1, j1, j5 =>
    if j5 < ((x0.L.length : Nat) : Int) then
      (idx x0.L j5).bind fun y17 =>
      if y17.At.Request ≠ x1 then
        (idx x0.L j5).bind fun y31 =>
        (app j1 ([y31])).bind fun z46 =>
        ref12_Store_Drop.J2 j5 (ref12_Store_Drop.L1 x0 x1 m1) z46
      else
        ref12_Store_Drop.J2 j5 (ref12_Store_Drop.L1 x0 x1 m1) j1
    else
      (some (IntKind.i64.wrap (((x0.L.length : Nat) : Int) - ((j1.length : Nat) : Int)))).bind fun e11 =>
      some (e11, (⟨x0.Room, j1⟩ : S_ref12_Store))

def ref12_Store_Drop (N : Nat) (x0 : S_ref12_Store) (x1 : Int) : Option (Int × S_ref12_Store) :=
  ref12_Store_Drop.L1 x0 x1 N ([]) 0

theorem ref12_Store_Drop_any {N b0 : Nat} {x0 : S_ref12_Store} {x1 : Int} {Fr : List HP} {w : World} {r : Int × S_ref12_Store} {K : Value → World → Prop}  (hc : Ctx w (S_ref12_Store.hp b0 x0 :: Fr)) (hp : ref12_Store_Drop N x0 x1 = some r)
    (k : ∀ w', Ctx w' (S_ref12_Store.hp b0 r.2 :: Fr) → K (.int .i64 r.1) w') : Calls Try.prog 19 #[pt b0 0, .int .i64 x1] w (Ret K) := by
 unfold ref12_Store_Drop at hp; refine Center2 F19 M19 rfl rfl ?_; refine Wseq (Wreg ?_); refine au 1 rfl <| rn (qn (Wseq (Wreg ?_))); refine au 1 rfl <| rn (qn (Wseq (Wseq (Wreg ?_)))); refine au 1 rfl <| rn (qn (Wblk ?_)); replace hc := hc.nilOwn S_ref12_Row.pr 57; replace hc := hc.m [2]; refine Wloop (rg [5, 2, 8, 30]) [5, 6] (fun m vs w' => ∃ j1 : (List S_ref12_Row), ∃ j5 : Int, ∃ a2 n3 q4, vs = [.slice a2 n3 q4, .int .i64 j5] ∧ ref12_Store_Drop.L1 x0 x1 m j1 j5 = some r ∧ Ctx w' (S_ref12_Store.hp b0 x0 :: Own S_ref12_Row.pr 57 (.slice a2 n3 q4) j1 :: Fr)) N ?_ ?_
 · exact ⟨[], 0, none, 0, 0, rfl, hp, hc⟩
 · clear hp hc; intro m vs u w6 hJ; obtain ⟨j1, j5, a2, n3, q4, rfl, hp, hc⟩ := hJ; obtain rfl := hc.rz 1 reads_own; rcases m with _ | m1
   · cases (show none = some r from hp)
   rw [ref12_Store_Drop.L1] at hp; refine Wseq (Wseq (Wreg ?_)); refine au 3 rfl <| sz (v := pt b0 1) (fax 1 rfl U53 rfl Z51 rfl rfl rfl) ?_; replace hc := S_ref12_Store.uf hc; obtain ⟨a8, q9, hc⟩ := hc; refine sz (ld rfl G51 (Ctx.cell hc (k := 0) rfl rfl rfl)) <| sz (ln rfl U51) <| au 1 rfl <| rn (qn ?_); refine Wif hp (fun _ hp => ?_) fun _ hp => ?_
   · refine Wexit (qx (qx (be (qn (Wseq (Wreg ?_)))))); refine au 2 rfl ?_; refine fq 1 U53 Z51 G51 hc 0 ?_; refine sz (ln rfl U51) <| au 1 rfl <| sz (ln rfl U51) <| au 1 rfl ?_; obtain ⟨e11, he11, hp⟩ := bind_some hp; injection he11 with he11; refine sz (v := .int .i64 e11) (av (v := .int .i64 e11) (by rw [← he11]; rfl)) <| rn (qn (Wseq (Wreg ?_))); refine au 3 rfl <| sz (v := pt b0 1) (fax 1 rfl U53 rfl Z51 rfl rfl rfl) <| po hc 0 Z51 ?_; clear hc; rintro w12 hc; refine rn (qn (Wseq (Wreg ?_))); refine au 2 rfl <| rn (qn (Wret ?_)); replace hc := hc.m [4, 2]; replace hc := S_ref12_Store.fd (x := (⟨x0.Room, j1⟩ : S_ref12_Store)) hc; replace hc := hc.m [3]; obtain rfl := sj hp; exact fz R19 M19 (k _ hc)
   · refine Wskip (qn ?_); refine Wseqm (rg [5, 1, 17, 21]) [5] (fun vs w' => ∃ j13 : (List S_ref12_Row), ∃ a14 n15 q16, vs = [.slice a14 n15 q16] ∧ ref12_Store_Drop.J2 j5 (ref12_Store_Drop.L1 x0 x1 m1) j13 = some r ∧ Ctx w' (S_ref12_Store.hp b0 x0 :: Own S_ref12_Row.pr 57 (.slice a14 n15 q16) j13 :: Fr)) ?_ ?_
     · refine Wblk (Wseq (Wreg ?_)); refine au 2 rfl ?_; refine fq 1 U53 Z51 G51 hc 0 ?_; refine au 1 rfl ?_; obtain ⟨y17, hy17, hp⟩ := bind_some hp; obtain ⟨b20, o21, rfl, hi18, hi19⟩ := hc.ra 1 reads_own hy17; refine sz (ixx rfl rfl U51 Z57 hi18 hi19 rfl) <| sz (v := .pointer (some ⟨b20, o21 + (j5).toNat * 5 + 0, none⟩)) (fax 0 rfl U57 rfl Z30 rfl rfl rfl) <| sz (v := .pointer (some ⟨b20, o21 + (j5).toNat * 5 + 0, none⟩)) (fax 0 rfl U30 rfl Z3 rfl rfl rfl) ?_; replace hc := Ctx.rdCell hc (k := 1) rfl rfl reads_own hy17; obtain ⟨cs23, hc, hcell24⟩ := hc; replace hc := S_ref12_Row.op hc; obtain ⟨a26, q27, a28, q29, u25, hc⟩ := hc; subst u25; refine sz (ld rfl G3 (hcell24 0 _ rfl)) <| au 2 rfl <| rn (qn ?_); refine Wif hp (fun _ hp => ?_) fun _ hp => ?_
       · refine Wskip (bn (qn ?_)); replace hc := hc.m [6, 6]; replace hc := S_ref12_Store.fd (x := x0) hc; replace hc := hc.m [5, 3]; exact ⟨⟨j1, a2, j1.length, q4, rfl, hp, hc⟩, (kl rfl kb)⟩
       · refine Wreg <| au 3 rfl ?_; refine fq 1 U53 Z51 G51 hc 2 ?_; refine au 1 rfl ?_; obtain ⟨y31, hy31, hp⟩ := bind_some hp; obtain ⟨b34, o35, -, hi32, hi33⟩ := hc.ra 3 reads_own hy31; refine sz (ixx rfl rfl U51 Z57 hi32 hi33 rfl) ?_; replace hc := Ctx.rdCell hc (k := 3) rfl rfl reads_own hy31; obtain ⟨cs37, hc, hcell38⟩ := hc; replace hc := S_ref12_Row.op hc; obtain ⟨a40, q41, a42, q43, u39, hc⟩ := hc; subst u39; refine sz (v := .agg (S_ref12_Row.cz y31 a40 q41 a42 q43).toArray) (ldg rfl G57 Z57 rfl (elCells hcell38 0 (vs := (S_ref12_Row.cz y31 a40 q41 a42 q43)) rfl)) ?_; replace hc := hc.dz 1; replace hc := hc.dz 1; replace hc : Ctx w6 (Hold S_ref12_Row.pr (S_ref12_Row.cz y31 a40 q41 a42 q43) y31 :: hR .i8 a40 q41 y31.K :: hR .i8 a42 q43 y31.V :: hR .i8 a26 q27 y17.K :: hR .i8 a28 q29 y17.V :: B b0 [.int .i64 x0.Room, .slice (some ⟨b20, o21, none⟩) x0.L.length q9] 53 :: Own S_ref12_Row.pr 57 (.slice (some ⟨b20, o21, none⟩) x0.L.length q9) x0.L :: Own S_ref12_Row.pr 57 (.slice a2 j1.length q4) j1 :: Fr) := S_ref12_Row.cl hc; refine rsE (Ctx.builtOp (css := [(S_ref12_Row.cz y31 a40 q41 a42 q43)]) (xs := ([y31] : List S_ref12_Row)) (E := S_ref12_Row.pr) hc U51 Z57 V57 rfl rfl rfl rfl rfl rfl rfl rfl) rfl ?_; clear hc; rintro _ w45 ⟨a44, rfl, hc⟩; obtain ⟨z46, hz46, hp⟩ := bind_some hp; obtain ⟨hg47, e48⟩ := app_some hz46; refine rsE (hc.ap 7 0 reads_own U51 Try.t57 hg47) rfl ?_; clear hc; rintro _ w51 ⟨a49, q50, rfl, hc⟩; rw [← e48] at hc ⊢; replace hc := Ctx.n7 hc; refine au 1 rfl <| rn (bn (qn ?_)); replace hc := hc.m [12, 12]; replace hc := S_ref12_Store.fd (x := x0) hc; replace hc := hc.m [11, 9, 7, 5, 3]; exact ⟨⟨z46, a49, z46.length, q50, rfl, hp, hc⟩, (kl rfl kb)⟩
     · clear hp hc; intro vs u w52 hJ; obtain ⟨j13, a14, n15, q16, rfl, hp, hc⟩ := hJ; obtain rfl := hc.rz 1 reads_own; unfold ref12_Store_Drop.J2 at hp; refine Wreg <| au 3 rfl <| rn (qn ?_); exact ⟨m1, Nat.lt_succ_self _, ⟨j13, (IntKind.i64.wrap (j5 + 1)), a14, j13.length, q16, rfl, hp, hc⟩, (kl rfl (km rfl (kl rfl k0)))⟩

def cache_Store_Clear (x0 : S_cache_Store) : Option (S_cache_Store) :=
  some (⟨x0.room, []⟩ : S_cache_Store)

theorem cache_Store_Clear_any {b0 : Nat} {x0 r : S_cache_Store} {Fr : List HP} {w : World} {K : Value → World → Prop}  (hc : Ctx w (S_cache_Store.hp b0 x0 :: Fr)) (hp : cache_Store_Clear x0 = some r)
    (k : ∀ w', Ctx w' (S_cache_Store.hp b0 r :: Fr) → K (.tuple #[]) w') : Calls Try.prog 14 #[pt b0 0] w (Ret K) := by
 unfold cache_Store_Clear at hp; refine Center1 F14 M14 rfl rfl ?_; refine Wreg <| au 2 rfl <| sz (v := pt b0 1) (fax 1 rfl U63 rfl Z61 rfl rfl rfl) ?_; replace hc := S_cache_Store.uf hc; obtain ⟨v1, hc⟩ := hc; refine sz (ld rfl G61 (Ctx.cell hc (k := 0) rfl rfl rfl)) ?_; refine rvE (Ctx.mpClear hc (i := 1) rfl rfl U61 rfl) rfl ?_; clear hc; intro w2 hc; replace hc := Ctx.n1 hc; refine rn ?_; refine f0n R14 ?_; replace hc := hc.m [2, 2]; replace hc := S_cache_Store.fd (x := (⟨x0.room, []⟩ : S_cache_Store)) hc; obtain rfl := sj hp; exact ⟨_, rfl, k _ hc⟩

def cache_Store_Len (x0 : S_cache_Store) : Option (Int) :=
  some ((x0.m.length : Nat) : Int)

theorem cache_Store_Len_any {b0 : Nat} {x0 : S_cache_Store} {Fr : List HP} {w : World} {r : Int} {K : Value → World → Prop}  (hc : Ctx w (S_cache_Store.hp b0 x0 :: Fr)) (hp : cache_Store_Len x0 = some r)
    (k : ∀ w', Ctx w' (S_cache_Store.hp b0 x0 :: Fr) → K (.int .i64 r) w') : Calls Try.prog 13 #[pt b0 0] w (Ret K) := by
 unfold cache_Store_Len at hp; refine Center1 F13 M13 rfl rfl ?_; refine Wseq (Wreg ?_); refine au 1 rfl <| rn (qn (Wseq (Wreg ?_))); refine au 2 rfl <| sz (v := pt b0 1) (fax 1 rfl U63 rfl Z61 rfl rfl rfl) ?_; replace hc := S_cache_Store.uf hc; obtain ⟨v1, hc⟩ := hc; refine sz (ld rfl G61 (Ctx.cell hc (k := 0) rfl rfl rfl)) <| sz (v := .int .i64 ((x0.m.length : Nat) : Int)) (Ctx.mpLen hc (i := 1) rfl rfl U61 rfl) <| au 1 rfl <| rn (qn (Wret ?_)); replace hc := hc.m [2, 2]; replace hc := S_cache_Store.fd (x := x0) hc; obtain rfl := sj hp; exact fz R13 M13 (k _ hc)

def cache_Store_Room (x0 : S_cache_Store) : Option (Int) :=
  some x0.room

theorem cache_Store_Room_any {b0 : Nat} {x0 : S_cache_Store} {Fr : List HP} {w : World} {r : Int} {K : Value → World → Prop}  (hc : Ctx w (S_cache_Store.hp b0 x0 :: Fr)) (hp : cache_Store_Room x0 = some r)
    (k : ∀ w', Ctx w' (S_cache_Store.hp b0 x0 :: Fr) → K (.int .i64 r) w') : Calls Try.prog 20 #[pt b0 0] w (Ret K) := by
 unfold cache_Store_Room at hp; refine Center1 F20 M20 rfl rfl ?_; refine Wseq (Wreg ?_); refine au 1 rfl <| rn (qn (Wseq (Wreg ?_))); refine au 2 rfl <| sz (v := pt b0 0) (fax 0 rfl U63 rfl Z3 rfl rfl rfl) ?_; replace hc := S_cache_Store.uf hc; obtain ⟨v1, hc⟩ := hc; refine sz (ld rfl G3 (Ctx.cell hc (k := 0) rfl rfl rfl)) <| au 1 rfl <| rn (qn (Wret ?_)); replace hc := hc.m [2, 2]; replace hc := S_cache_Store.fd (x := x0) hc; obtain rfl := sj hp; exact fz R20 M20 (k _ hc)

end Go.Proofs.Ytdalpckomnkilaa
end
section
namespace Go.Proofs.Ytdalpckomnkilaa
open Go Go.RowKit Go.Hp
set_option linter.unusedVariables false
set_option linter.unusedSimpArgs false
set_option maxRecDepth 100000
set_option maxHeartbeats 8000000

def ref12_Store_Requests.J2 (j1 : (List Int)) (j5 : Int) (y11 : S_ref12_Row) (k1 : (List Int) → Int → Option ((List Int))) (j24 : Int) : Option ((List Int)) :=
  if j24 < ((j1.length : Nat) : Int) then
    (idx j1 j24).bind fun y68 =>
    if y68 = y11.At.Request then
      k1 j1 (IntKind.i64.wrap (j5 + 1))
    else
      chk (0 ≤ j24 ∧ j24 ≤ ((j1.length : Nat) : Int)) <|
      (app ([]) (j1.take (j24).toNat)).bind fun z80 =>
      (app z80 ([y11.At.Request])).bind fun z88 =>
      chk (0 ≤ j24 ∧ j24 ≤ ((j1.length : Nat) : Int) ∧ ((j1.length : Nat) : Int) ≤ ((j1.length : Nat) : Int)) <|
      (app z88 ((j1.take (((j1.length : Nat) : Int)).toNat).drop (j24).toNat)).bind fun z100 =>
      k1 z100 (IntKind.i64.wrap (j5 + 1))
  else
    chk (0 ≤ j24 ∧ j24 ≤ ((j1.length : Nat) : Int)) <|
    (app ([]) (j1.take (j24).toNat)).bind fun z42 =>
    (app z42 ([y11.At.Request])).bind fun z50 =>
    chk (0 ≤ j24 ∧ j24 ≤ ((j1.length : Nat) : Int) ∧ ((j1.length : Nat) : Int) ≤ ((j1.length : Nat) : Int)) <|
    (app z50 ((j1.take (((j1.length : Nat) : Int)).toNat).drop (j24).toNat)).bind fun z62 =>
    k1 z62 (IntKind.i64.wrap (j5 + 1))

def ref12_Store_Requests.L3 (j1 : (List Int)) (j5 : Int) (y11 : S_ref12_Row) (k1 : (List Int) → Int → Option ((List Int))) : Nat → Int → Option ((List Int))
  | 0, _ => none
  | m3 + 1, j25 =>
    if j25 < ((j1.length : Nat) : Int) then
      (idx j1 j25).bind fun y28 =>
      if y28 < y11.At.Request then
        (ref12_Store_Requests.L3 j1 j5 y11 k1 m3) (IntKind.i64.wrap (j25 + 1))
      else
        ref12_Store_Requests.J2 j1 j5 y11 k1 j25
    else
      ref12_Store_Requests.J2 j1 j5 y11 k1 j25

def ref12_Store_Requests.L1 (N : Nat) (x0 : S_ref12_Store) : Nat → (List Int) → Int → Option ((List Int))
  | 0, _, _ => none
  | m1 + 1, j1, j5 =>
    if j5 < ((x0.L.length : Nat) : Int) then
      (idx x0.L j5).bind fun y11 =>
      ref12_Store_Requests.L3 j1 j5 y11 (ref12_Store_Requests.L1 N x0 m1) N 0
    else
      some j1

def ref12_Store_Requests (N : Nat) (x0 : S_ref12_Store) : Option ((List Int)) :=
  ref12_Store_Requests.L1 N x0 N ([]) 0

theorem ref12_Store_Requests_any {N b0 : Nat} {x0 : S_ref12_Store} {Fr : List HP} {w : World} {r : (List Int)} {K : Value → World → Prop}  (hc : Ctx w (S_ref12_Store.hp b0 x0 :: Fr)) (hp : ref12_Store_Requests N x0 = some r)
    (k : ∀ a106 n107 q108 w', Ctx w' (Own (pInt .i64) 3 (.slice a106 n107 q108) r :: S_ref12_Store.hp b0 x0 :: Fr) → K (.slice a106 n107 q108) w') : Calls Try.prog 23 #[pt b0 0] w (Ret K) := by
 unfold ref12_Store_Requests at hp; refine Center1 F23 M23 rfl rfl ?_; refine Wseq (Wreg ?_); refine au 1 rfl <| rn (qn (Wseq (Wreg ?_))); refine au 1 rfl <| rn (qn (Wseq (Wseq (Wreg ?_)))); refine au 1 rfl <| rn (qn (Wblk ?_)); replace hc := hc.nilOwn (pInt .i64) 3; replace hc := hc.m [2]; refine Wloop (rg [3, 63]) [3, 4] (fun m vs w' => ∃ j1 : (List Int), ∃ j5 : Int, ∃ a2 n3 q4, vs = [.slice a2 n3 q4, .int .i64 j5] ∧ ref12_Store_Requests.L1 N x0 m j1 j5 = some r ∧ Ctx w' (S_ref12_Store.hp b0 x0 :: Own (pInt .i64) 3 (.slice a2 n3 q4) j1 :: Fr)) N ?_ ?_
 · exact ⟨[], 0, none, 0, 0, rfl, hp, hc⟩
 · clear hp hc; intro m vs u w6 hJ; obtain ⟨j1, j5, a2, n3, q4, rfl, hp, hc⟩ := hJ; obtain rfl := hc.rz 1 reads_own; rcases m with _ | m1
   · cases (show none = some r from hp)
   rw [ref12_Store_Requests.L1] at hp; refine Wseq (Wseq (Wreg ?_)); refine au 3 rfl <| sz (v := pt b0 1) (fax 1 rfl U53 rfl Z51 rfl rfl rfl) ?_; replace hc := S_ref12_Store.uf hc; obtain ⟨a8, q9, hc⟩ := hc; refine sz (ld rfl G51 (Ctx.cell hc (k := 0) rfl rfl rfl)) <| sz (ln rfl U51) <| au 1 rfl <| rn (qn ?_); refine Wif hp (fun _ hp => ?_) fun _ hp => ?_
   · refine Wexit (qx (qx (be (qn (Wseq (Wreg ?_)))))); refine au 2 rfl <| rn (qn (Wret ?_)); replace hc := hc.m [2, 2]; replace hc := S_ref12_Store.fd (x := x0) hc; replace hc := hc.m [2]; obtain rfl := sj hp; exact fz R23 M23 (k _ _ _ _ hc)
   · refine Wskip (qn (Wseq (Wblk (Wseq (Wreg ?_))))); refine au 2 rfl ?_; refine fq 1 U53 Z51 G51 hc 0 ?_; refine au 1 rfl ?_; obtain ⟨y11, hy11, hp⟩ := bind_some hp; obtain ⟨b14, o15, rfl, hi12, hi13⟩ := hc.ra 1 reads_own hy11; refine sz (ixx rfl rfl U51 Z57 hi12 hi13 rfl) <| sz (v := .pointer (some ⟨b14, o15 + (j5).toNat * 5 + 0, none⟩)) (fax 0 rfl U57 rfl Z30 rfl rfl rfl) <| sz (v := .pointer (some ⟨b14, o15 + (j5).toNat * 5 + 0, none⟩)) (fax 0 rfl U30 rfl Z3 rfl rfl rfl) ?_; replace hc := Ctx.rdCell hc (k := 1) rfl rfl reads_own hy11; obtain ⟨cs17, hc, hcell18⟩ := hc; replace hc := S_ref12_Row.op hc; obtain ⟨a20, q21, a22, q23, u19, hc⟩ := hc; subst u19; refine sz (ld rfl G3 (hcell18 0 _ rfl)) <| au 1 rfl <| rn (qn (Wseq (Wreg ?_))); refine au 1 rfl <| rn (qn ?_); refine Wseqm (rg [6, 1, 26, 14]) [6] (fun vs w' => ∃ j24 : Int, vs = [.int .i64 j24] ∧ ref12_Store_Requests.J2 j1 j5 y11 (ref12_Store_Requests.L1 N x0 m1) j24 = some r ∧ Ctx w' (S_ref12_Store.hp b0 x0 :: oR .i64 3 a2 q4 j1 :: Fr)) ?_ ?_
     · refine Wblk ?_; replace hc := hc.m [6, 6]; replace hc := S_ref12_Store.fd (x := x0) hc; replace hc := hc.m [5, 3]; refine Wloop (rg [6, 1, 26, 14]) [6] (fun m vs w' => ∃ j25 : Int, vs = [.int .i64 j25] ∧ ref12_Store_Requests.L3 j1 j5 y11 (ref12_Store_Requests.L1 N x0 m1) m j25 = some r ∧ Ctx w' (S_ref12_Store.hp b0 x0 :: oR .i64 3 a2 q4 j1 :: Fr)) N ?_ ?_
       · exact ⟨0, rfl, hp, hc⟩
       · clear hp hc; intro m vs u w26 hJ; obtain ⟨j25, rfl, hp, hc⟩ := hJ; rcases m with _ | m3
         · cases (show none = some r from hp)
         rw [ref12_Store_Requests.L3] at hp; refine Wseq (Wseq (Wreg ?_)); refine au 2 rfl <| sz (ln rfl U47) <| au 2 rfl ?_; cases hb27 : (decide (j25 < ((j1.length : Nat) : Int)))
         · replace hp := gneg hp (of_decide_eq_false hb27); (iterate 6 refine r0 rfl ?_); refine au 1 rfl <| rn (qn (Wcf rfl (Wexit (qx (qx (be (qn ?_))))))); exact ⟨⟨j25, rfl, hp, hc⟩, (kl rfl (km rfl (kl rfl kb)))⟩
         · replace hp := gpos hp (of_decide_eq_true hb27); refine au 2 rfl ?_; obtain ⟨y28, hy28, hp⟩ := bind_some hp; obtain ⟨b31, o32, rfl, hi29, hi30⟩ := hc.ra 1 reads_own hy28; refine sz (ixx rfl rfl U47 Z3 hi29 hi30 rfl) ?_; have hcell35 := hc.rv 1 reads_own hy28; refine sz (ld rfl G3 (hcell35 0 _ rfl)) <| au 3 rfl <| rn (qn ?_); refine Wif hp (fun _ hp => ?_) fun _ hp => ?_
           · refine Wexit (qx (qx (be (qn ?_)))); exact ⟨⟨j25, rfl, hp, hc⟩, (kl rfl (km rfl (kl rfl kb)))⟩
           · refine Wskip (qn (Wblk (Wreg ?_))); refine au 3 rfl <| rn (bn (qn ?_)); exact ⟨m3, Nat.lt_succ_self _, ⟨(IntKind.i64.wrap (j25 + 1)), rfl, hp, hc⟩, (kl rfl k0)⟩
     · clear hp hc; intro vs u w38 hJ; obtain ⟨j24, rfl, hp, hc⟩ := hJ; unfold ref12_Store_Requests.J2 at hp; refine Wseq (Wseq (Wreg ?_)); refine au 2 rfl <| sz (ln rfl U47) <| au 2 rfl ?_; cases hb39 : (decide (j24 < ((j1.length : Nat) : Int)))
       · replace hp := gneg hp (of_decide_eq_false hb39); (iterate 6 refine r0 rfl ?_); refine au 1 rfl <| rn (qn (Wcf rfl (Wskip (qn (Wseq (Wreg ?_)))))); refine au 1 rfl <| rn (qn (Wseq (Wreg ?_))); refine au 3 rfl ?_; obtain ⟨hg40, hp⟩ := chk_some hp; refine rsE (Ctx.subOp0 (hv := j24) hc (k := 1) rfl rfl reads_own rfl ⟨_, rfl⟩ U47 Z3 hg40) rfl ?_; rintro _ _ ⟨rfl, rfl, rd41⟩; replace hc := hc.nilOwn (pInt .i64) 3; obtain ⟨z42, hz42, hp⟩ := bind_some hp; obtain ⟨hg43, e44⟩ := app_some hz42; refine rsE (hc.ap 0 2 rd41 U47 Try.t3 hg43) rfl ?_; clear hc; rintro _ w47 ⟨a45, q46, rfl, hc⟩; rw [← e44] at hc ⊢; replace hc := Ctx.n0 hc; refine au 1 rfl <| rn (qn (Wseq (Wreg ?_))); refine au 2 rfl ?_; refine rsE (oneI hc U47 Z3 V3) rfl ?_; clear hc; rintro _ w49 ⟨a48, rfl, hc⟩; obtain ⟨z50, hz50, hp⟩ := bind_some hp; obtain ⟨hg51, e52⟩ := app_some hz50; refine rsE (hc.ap 1 0 reads_own U47 Try.t3 hg51) rfl ?_; clear hc; rintro _ w55 ⟨a53, q54, rfl, hc⟩; rw [← e52] at hc ⊢; replace hc := Ctx.n1 hc; refine au 1 rfl <| rn (qn (Wreg ?_)); refine au 3 rfl ?_; obtain ⟨hg56, hp⟩ := chk_some hp; refine rsE (Ctx.subOp (li := some j24) (hi' := none) hc (k := 3) rfl rfl reads_own rfl ⟨_, rfl⟩ trivial U47 Z3 hg56) rfl ?_; rintro _ _ ⟨rfl, a57, q58, rfl, rd59, ea60, eq61⟩; replace rd59 : Reads (oR .i64 3 a2 q4 j1) (pInt .i64) (.slice a57 ((((j1.length : Nat) : Int)).toNat - (j24).toNat) q58) ((j1.take (((j1.length : Nat) : Int)).toNat).drop (j24).toNat) := rd59; obtain ⟨z62, hz62, hp⟩ := bind_some hp; obtain ⟨hg63, e64⟩ := app_some hz62; refine rsE (hc.ap 1 3 rd59 U47 Try.t3 hg63) rfl ?_; clear hc; rintro _ w67 ⟨a65, q66, rfl, hc⟩; rw [← e64] at hc ⊢; replace hc := Ctx.n1 hc; refine au 1 rfl <| rn (bn (qn (Wreg ?_))); refine au 3 rfl <| rn (qn ?_); replace hc := hc.m [7, 1, 2]; exact ⟨m1, Nat.lt_succ_self _, ⟨z62, (IntKind.i64.wrap (j5 + 1)), a65, z62.length, q66, rfl, hp, hc⟩, (kl rfl (km rfl (kl rfl k0)))⟩
       · replace hp := gpos hp (of_decide_eq_true hb39); refine au 2 rfl ?_; obtain ⟨y68, hy68, hp⟩ := bind_some hp; obtain ⟨b71, o72, rfl, hi69, hi70⟩ := hc.ra 1 reads_own hy68; refine sz (ixx rfl rfl U47 Z3 hi69 hi70 rfl) ?_; have hcell75 := hc.rv 1 reads_own hy68; refine sz (ld rfl G3 (hcell75 0 _ rfl)) <| au 3 rfl <| rn (qn ?_); refine Wif hp (fun _ hp => ?_) fun _ hp => ?_
         · refine Wskip (qn (Wseq (Wreg ?_))); refine au 1 rfl <| rn (qn (Wseq (Wreg ?_))); refine au 3 rfl ?_; obtain ⟨hg78, hp⟩ := chk_some hp; refine rsE (Ctx.subOp0 (hv := j24) hc (k := 1) rfl rfl reads_own rfl ⟨_, rfl⟩ U47 Z3 hg78) rfl ?_; rintro _ _ ⟨rfl, rfl, rd79⟩; replace hc := hc.nilOwn (pInt .i64) 3; obtain ⟨z80, hz80, hp⟩ := bind_some hp; obtain ⟨hg81, e82⟩ := app_some hz80; refine rsE (hc.ap 0 2 rd79 U47 Try.t3 hg81) rfl ?_; clear hc; rintro _ w85 ⟨a83, q84, rfl, hc⟩; rw [← e82] at hc ⊢; replace hc := Ctx.n0 hc; refine au 1 rfl <| rn (qn (Wseq (Wreg ?_))); refine au 2 rfl ?_; refine rsE (oneI hc U47 Z3 V3) rfl ?_; clear hc; rintro _ w87 ⟨a86, rfl, hc⟩; obtain ⟨z88, hz88, hp⟩ := bind_some hp; obtain ⟨hg89, e90⟩ := app_some hz88; refine rsE (hc.ap 1 0 reads_own U47 Try.t3 hg89) rfl ?_; clear hc; rintro _ w93 ⟨a91, q92, rfl, hc⟩; rw [← e90] at hc ⊢; replace hc := Ctx.n1 hc; refine au 1 rfl <| rn (qn (Wreg ?_)); refine au 3 rfl ?_; obtain ⟨hg94, hp⟩ := chk_some hp; refine rsE (Ctx.subOp (li := some j24) (hi' := none) hc (k := 3) rfl rfl reads_own rfl ⟨_, rfl⟩ trivial U47 Z3 hg94) rfl ?_; rintro _ _ ⟨rfl, a95, q96, rfl, rd97, ea98, eq99⟩; replace rd97 : Reads (Own (pInt .i64) 3 (.slice (some ⟨b71, o72, none⟩) j1.length q4) j1) (pInt .i64) (.slice a95 ((((j1.length : Nat) : Int)).toNat - (j24).toNat) q96) ((j1.take (((j1.length : Nat) : Int)).toNat).drop (j24).toNat) := rd97; obtain ⟨z100, hz100, hp⟩ := bind_some hp; obtain ⟨hg101, e102⟩ := app_some hz100; refine rsE (hc.ap 1 3 rd97 U47 Try.t3 hg101) rfl ?_; clear hc; rintro _ w105 ⟨a103, q104, rfl, hc⟩; rw [← e102] at hc ⊢; replace hc := Ctx.n1 hc; refine au 1 rfl <| rn (bn (qn (Wreg ?_))); refine au 3 rfl <| rn (qn ?_); replace hc := hc.m [7, 1, 2]; exact ⟨m1, Nat.lt_succ_self _, ⟨z100, (IntKind.i64.wrap (j5 + 1)), a103, z100.length, q104, rfl, hp, hc⟩, (kl rfl (km rfl (kl rfl k0)))⟩
         · refine Wexit (qx (be (qn (Wreg ?_)))); refine au 3 rfl <| rn (qn ?_); exact ⟨m1, Nat.lt_succ_self _, ⟨j1, (IntKind.i64.wrap (j5 + 1)), (some ⟨b71, o72, none⟩), j1.length, q4, rfl, hp, hc⟩, (kl rfl (km rfl (kl rfl k0)))⟩

def law12_lines.L1 (N : Nat) (x1 : S_ref12_Store) (x2 : S_api_Spot) (r7 : ((List (List Int)) × (List (List Int)))) : Nat → Int → Option (Bool)
  | 0, _ => none
  | m1 + 1, j17 =>
    (law12_spot x2.Request x2.Layer j17).bind fun r19 =>
    (ref12_Store_Find N x1 r19).bind fun r21 =>
    if r21 < 0 then
      if ((r7.1.length : Nat) : Int) = j17 then
        some (decide (((r7.2.length : Nat) : Int) = j17))
      else
        some false
    else
      if j17 ≥ ((r7.1.length : Nat) : Int) then
        some false
      else
        if j17 ≥ ((r7.2.length : Nat) : Int) then
          some false
        else
          (idx r7.1 j17).bind fun y29 =>
          (idx x1.L r21).bind fun y44 =>
          (ref04_Bytes N y29 y44.K).bind fun r57 =>
          if r57 = true then
            (idx r7.2 j17).bind fun y60 =>
            (idx x1.L r21).bind fun y75 =>
            (ref04_Bytes N y60 y75.V).bind fun r88 =>
            if r88 = true then
              (law12_lines.L1 N x1 x2 r7 m1) (IntKind.i64.wrap (j17 + 1))
            else
              some false
          else
            some false

def law12_lines (N : Nat) (x0 : S_cache_Store) (x1 : S_ref12_Store) (x2 : S_api_Spot) : Option (Bool) :=
  (cache_Store_Line N x0 x2.Request x2.Layer).bind fun r7 =>
  law12_lines.L1 N x1 x2 r7 N 0

theorem law12_lines_any {N b0 b1 : Nat} {x0 : S_cache_Store} {x1 : S_ref12_Store} {x2 : S_api_Spot} {Fr : List HP} {w : World} {r : Bool} {K : Value → World → Prop}  (hc : Ctx w (S_cache_Store.hp b0 x0 :: S_ref12_Store.hp b1 x1 :: Fr)) (hp : law12_lines N x0 x1 x2 = some r)
    (k : ∀ w', Ctx w' (S_cache_Store.hp b0 x0 :: S_ref12_Store.hp b1 x1 :: Fr) → K (.bool r) w') : Calls Try.prog 22 #[pt b0 0, pt b1 0, .agg (S_api_Spot.cz x2).toArray] w (Ret K) := by
 unfold law12_lines at hp; refine Center3 F22 M22 rfl rfl ?_; refine Wseq (Wreg ?_); refine rsE (Ctx.boxOp (cs := (S_api_Spot.cz x2)) (v := .agg (S_api_Spot.cz x2).toArray) hc rfl rfl) rfl ?_; clear hc; rintro _ w6 ⟨b4, rfl, hc⟩; refine au 1 rfl <| rn (qn (Wseq (Wreg ?_))); refine au 1 rfl ?_; refine fq 0 U30 Z3 G3 hc 0 ?_; refine fq 1 U30 Z3 G3 hc 0 ?_; replace hp := bind_some hp; obtain ⟨r7, hr7, hp⟩ := hp; replace hc := hc.m [2]; refine kz C12 ?_; refine cache_Store_Line_any hc hr7 ?_; clear hc; intro a8 n9 q10 a11 n12 q13 w14 hc; have u15 := Ctx.ownVLen' hc (k := 0) rfl rfl; subst u15; have u16 := Ctx.ownVLen' hc (k := 1) rfl rfl; subst u16; refine au 5 rfl <| rn (qn (Wseq (Wreg ?_))); refine au 1 rfl <| rn (qn (Wblk ?_)); refine Wloop (rg [6, 1, 9, 2, 20, 64]) [9] (fun m vs w' => ∃ j17 : Int, vs = [.int .i64 j17] ∧ law12_lines.L1 N x1 x2 r7 m j17 = some r ∧ Ctx w' (OwnV (vOwn (pInt .i8) 42) 31 (.slice a8 r7.1.length q10) r7.1 :: OwnV (vOwn (pInt .i8) 42) 31 (.slice a11 r7.2.length q13) r7.2 :: S_cache_Store.hp b0 x0 :: B b4 (S_api_Spot.cz x2) 30 :: S_ref12_Store.hp b1 x1 :: Fr)) N ?_ ?_
 · exact ⟨0, rfl, hp, hc⟩
 · clear hp hc; intro m vs u w18 hJ; obtain ⟨j17, rfl, hp, hc⟩ := hJ; rcases m with _ | m1
   · cases (show none = some r from hp)
   rw [law12_lines.L1] at hp; refine Wblk (Wseq (Wreg ?_)); refine au 1 rfl ?_; refine fq 0 U30 Z3 G3 hc 3 ?_; refine fq 1 U30 Z3 G3 hc 3 ?_; refine au 1 rfl ?_; replace hp := bind_some hp; obtain ⟨r19, hr19, hp⟩ := hp; refine kz C9 ?_; refine law12_spot_any hc hr19 ?_; clear hc; intro w20 hc; replace hp := bind_some hp; obtain ⟨r21, hr21, hp⟩ := hp; replace hc := hc.m [8]; refine kz C21 ?_; refine ref12_Store_Find_any hc hr21 ?_; clear hc; intro w22 hc; refine au 1 rfl <| rn (qn (Wseq (Wseq (Wreg ?_)))); refine au 2 rfl <| rn (qn ?_); refine Wif hp (fun _ h => ?_) fun _ h => ?_
   · replace hp := h; clear h; refine Wskip (qn (Wseq (Wseq ?_))); replace hc := S_ref12_Store.uf hc; obtain ⟨a24, q25, hc⟩ := hc; replace hc := hc.drew; refine Wdrw (fun j w' => True) (0 :: 0 :: 2 :: 7 :: 15 :: 31 :: 31 :: 95 :: 255 :: 511 :: 1023 :: 2047 :: 2047 :: 8191 :: 16383 :: 2047 :: 34815 :: 100351 :: 231423 :: 2047 :: 1017855 :: 2066431 :: 4163583 :: 8388607 :: 16777215 :: 33554431 :: 67108863 :: 134217727 :: 134217727 :: 536870911 :: 1073741823 :: 134217727 :: 2281701375 :: 6576668671 :: 15166603263 :: 134217727 :: 66706210815 :: 135425687551 :: 272864641023 :: 549755813887 :: 1099511627775 :: 2199023255551 :: []) 0 293135990916 rfl (by kernel_rfl) (fun _ _ => trivial) ?_; generalize hw : World.drew w22 = w26 at *; clear hw; refine ad_ 2 rfl <| dx rfl (ln rfl U37) rfl rfl <| ad_ 2 rfl ?_; cases hb27 : (decide (j17 ≥ ((r7.1.length : Nat) : Int)))
     · replace hp := gneg hp (of_decide_eq_false hb27); refine ad_ 2 rfl <| dx rfl (ln rfl U37) rfl rfl <| ad_ 3 rfl ?_; cases hb28 : (decide (j17 ≥ ((r7.2.length : Nat) : Int)))
       · replace hp := gneg hp (of_decide_eq_false hb28); refine ad_ 2 rfl ?_; replace hp := bind_some hp; obtain ⟨y29, hy29, hp⟩ := hp; replace hc := hc.m [4]; replace hc := Ctx.ownVF hc; obtain ⟨hs30, hl33, hc⟩ := hc; replace hc := Ctx.bigF hc.swap hy29; obtain ⟨a32, ha31, hc⟩ := hc; replace hc := Ctx.exF hc; obtain ⟨v35, hc⟩ := hc; replace hc := Ctx.sepF hc; replace hc := Ctx.puF hc; obtain ⟨u34, hc⟩ := hc; subst u34; obtain ⟨a36, q37, u38⟩ := hc.rd (k := 0) rfl rfl reads_own; subst u38; have hln := Ctx.rdLen hc (k := 2) rfl rfl reads_own; obtain ⟨b41, o42, u43, hi39, hi40⟩ := Ctx.rdAt hc (k := 2) rfl rfl reads_own ha31; clear hln; subst u43; refine ds rfl (fun w' hF => ixx rfl rfl U37 Z31 hi39 hi40 rfl) rfl <| dx rfl (ld rfl G31 (Ctx.rdAny hc (k := 2) rfl rfl ha31 0 _ rfl)) rfl rfl <| ad_ 2 rfl <| ds (v := pt b1 1) rfl (fun w' hF => fax 1 rfl U53 rfl Z51 rfl rfl rfl) rfl <| dx rfl (ld rfl G51 (Ctx.cell hc (k := 3) rfl rfl rfl)) rfl rfl <| ad_ 1 rfl ?_; replace hp := bind_some hp; obtain ⟨y44, hy44, hp⟩ := hp; obtain ⟨b47, o48, rfl, hi45, hi46⟩ := hc.ra 4 reads_own hy44; refine ds rfl (fun w' hF => ixx rfl rfl U51 Z57 hi45 hi46 rfl) rfl <| ds (v := .pointer (some ⟨b47, o48 + (r21).toNat * 5 + 3, none⟩)) rfl (fun w' hF => fax 3 rfl U57 rfl Z31 rfl rfl rfl) rfl ?_; replace hc := Ctx.rdCell hc (k := 4) rfl rfl reads_own hy44; obtain ⟨cs50, hc, hcell51⟩ := hc; replace hc := S_ref12_Row.op hc; obtain ⟨a53, q54, a55, q56, u52, hc⟩ := hc; subst u52; refine dx rfl (ld rfl G31 (hcell51 3 _ rfl)) rfl rfl ?_; replace hc := hc.dz 0; replace hp := bind_some hp; obtain ⟨r57, hr57, hp⟩ := hp; replace hc := hc.m [6]; refine dc (cl C16 rfl rfl) rfl rfl ?_; refine ref04_Bytes_any reads_own reads_ro hc hr57 ?_; clear hc; intro w58 hc; refine ⟨fun j hj hb => trivial, ?_⟩; cases hb59 : r57
         · replace hp := gneg hp (by rw [hb59]; exact Bool.false_ne_true); subst hb59; refine ad_ 3 rfl ?_; (iterate 14 refine d0 rfl rfl ?_); refine ad_ 1 rfl <| dn (qn (Wct rfl (Wseq (Wreg ?_)))); refine au 1 rfl <| rn (qn (Wret (qr (br (qr (br ?_)))))); replace hc := hc.m [14, 14]; replace hc := S_ref12_Store.fd (x := x1) hc; replace hc := hc.m [19, 15, 13, 11, 9, 7, 5, 3, 2]; obtain rfl := sj hp; exact fz R22 M22 (k _ hc)
         · replace hp := gpos hp hb59; subst hb59; refine ad_ 5 rfl ?_; replace hp := bind_some hp; obtain ⟨y60, hy60, hp⟩ := hp; replace hc := hc.m [16]; replace hc := Ctx.ownVF hc; obtain ⟨hs61, hl64, hc⟩ := hc; replace hc := Ctx.bigF hc.swap hy60; obtain ⟨a63, ha62, hc⟩ := hc; replace hc := Ctx.exF hc; obtain ⟨v66, hc⟩ := hc; replace hc := Ctx.sepF hc; replace hc := Ctx.puF hc; obtain ⟨u65, hc⟩ := hc; subst u65; obtain ⟨a67, q68, u69⟩ := hc.rd (k := 0) rfl rfl reads_own; subst u69; have hln := Ctx.rdLen hc (k := 2) rfl rfl reads_own; obtain ⟨b72, o73, u74, hi70, hi71⟩ := Ctx.rdAt hc (k := 2) rfl rfl reads_own ha62; clear hln; subst u74; refine ds rfl (fun w' hF => ixx rfl rfl U37 Z31 hi70 hi71 rfl) rfl <| dx rfl (ld rfl G31 (Ctx.rdAny hc (k := 2) rfl rfl ha62 0 _ rfl)) rfl rfl <| ad_ 2 rfl <| ds (v := pt b1 1) rfl (fun w' hF => fax 1 rfl U53 rfl Z51 rfl rfl rfl) rfl <| dx rfl (ld rfl G51 (Ctx.cell hc (k := 9) rfl rfl rfl)) rfl rfl <| ad_ 1 rfl ?_; replace hp := bind_some hp; obtain ⟨y75, hy75, hp⟩ := hp; obtain ⟨b78, o79, -, hi76, hi77⟩ := hc.ra 10 reads_own hy75; refine ds rfl (fun w' hF => ixx rfl rfl U51 Z57 hi76 hi77 rfl) rfl <| ds (v := .pointer (some ⟨b47, o48 + (r21).toNat * 5 + 4, none⟩)) rfl (fun w' hF => fax 4 rfl U57 rfl Z31 rfl rfl rfl) rfl ?_; replace hc := Ctx.rdCell hc (k := 10) rfl rfl reads_own hy75; obtain ⟨cs81, hc, hcell82⟩ := hc; replace hc := S_ref12_Row.op hc; obtain ⟨a84, q85, a86, q87, u83, hc⟩ := hc; subst u83; refine dx rfl (ld rfl G31 (hcell82 4 _ rfl)) rfl rfl ?_; replace hc := hc.dz 1; replace hp := bind_some hp; obtain ⟨r88, hr88, hp⟩ := hp; replace hc := hc.m [6]; refine dc (cl C16 rfl rfl) rfl rfl ?_; refine ref04_Bytes_any reads_own reads_ro hc hr88 ?_; clear hc; intro w89 hc; refine ⟨fun j hj hb => trivial, ?_⟩; cases hb90 : r88
           · replace hp := gneg hp (by rw [hb90]; exact Bool.false_ne_true); subst hb90; refine ad_ 2 rfl <| dn (qn (Wct rfl (Wseq (Wreg ?_)))); refine au 1 rfl <| rn (qn (Wret (qr (br (qr (br ?_)))))); replace hc := hc.m [26, 26]; replace hc := S_ref12_Store.fd (x := x1) hc; replace hc := hc.m [29, 25, 23, 21, 19, 17, 15, 13, 11, 9, 7, 5, 3, 2]; obtain rfl := sj hp; exact fz R22 M22 (k _ hc)
           · replace hp := gpos hp hb90; subst hb90; refine ad_ 2 rfl <| dn (qn (Wcf rfl (Wskip (qn (Wreg ?_))))); refine au 3 rfl <| rn (bn (qn ?_)); replace hc := hc.m [12]; replace hc : Ctx w89 ((vOwn (pInt .i8) 42).r [.slice a36 y29.length q37] y29 :: oR .i8 42 a67 q68 y60 :: hR .i8 a86 q87 y75.V :: hR .i8 a84 q85 y75.K :: hR .i8 a86 q87 y75.V :: BigH (vOwn (pInt .i8) 42).r hs61 r7.2 j17 :: Own (pAny 1) 31 (.slice (some ⟨b72, o73, none⟩) r7.2.length q13) hs61 :: hR .i8 a53 q54 y44.K :: hR .i8 a53 q54 y44.K :: hR .i8 a55 q56 y44.V :: BigH (vOwn (pInt .i8) 42).r hs30 r7.1 j17 :: Own (pAny 1) 31 (.slice (some ⟨b41, o42, none⟩) r7.1.length q10) hs30 :: B b1 [.int .i64 x1.Room, .slice (some ⟨b47, o48, none⟩) x1.L.length q25] 53 :: Own S_ref12_Row.pr 57 (.slice (some ⟨b47, o48, none⟩) x1.L.length q25) x1.L :: S_cache_Store.hp b0 x0 :: B b4 (S_api_Spot.cz x2) 30 :: Fr) := Ctx.exB _ _ (Ctx.sepB (Ctx.puB rfl hc)); replace hc := hc.m [22, 22, 4]; replace hc := Ctx.bigB0 hc ha31 hy29; replace hc : Ctx w89 (OwnV (vOwn (pInt .i8) 42) 31 (.slice (some ⟨b41, o42, none⟩) r7.1.length q10) r7.1 :: oR .i8 42 a67 q68 y60 :: hR .i8 a86 q87 y75.V :: hR .i8 a84 q85 y75.K :: hR .i8 a86 q87 y75.V :: BigH (vOwn (pInt .i8) 42).r hs61 r7.2 j17 :: Own (pAny 1) 31 (.slice (some ⟨b72, o73, none⟩) r7.2.length q13) hs61 :: hR .i8 a53 q54 y44.K :: hR .i8 a53 q54 y44.K :: hR .i8 a55 q56 y44.V :: B b1 [.int .i64 x1.Room, .slice (some ⟨b47, o48, none⟩) x1.L.length q25] 53 :: Own S_ref12_Row.pr 57 (.slice (some ⟨b47, o48, none⟩) x1.L.length q25) x1.L :: S_cache_Store.hp b0 x0 :: B b4 (S_api_Spot.cz x2) 30 :: Fr) := Ctx.ownVB hc.swap; replace hc := hc.m [2]; replace hc : Ctx w89 ((vOwn (pInt .i8) 42).r [.slice a67 y60.length q68] y60 :: OwnV (vOwn (pInt .i8) 42) 31 (.slice (some ⟨b41, o42, none⟩) r7.1.length q10) r7.1 :: hR .i8 a86 q87 y75.V :: hR .i8 a84 q85 y75.K :: hR .i8 a86 q87 y75.V :: BigH (vOwn (pInt .i8) 42).r hs61 r7.2 j17 :: Own (pAny 1) 31 (.slice (some ⟨b72, o73, none⟩) r7.2.length q13) hs61 :: hR .i8 a53 q54 y44.K :: hR .i8 a53 q54 y44.K :: hR .i8 a55 q56 y44.V :: B b1 [.int .i64 x1.Room, .slice (some ⟨b47, o48, none⟩) x1.L.length q25] 53 :: Own S_ref12_Row.pr 57 (.slice (some ⟨b47, o48, none⟩) x1.L.length q25) x1.L :: S_cache_Store.hp b0 x0 :: B b4 (S_api_Spot.cz x2) 30 :: Fr) := Ctx.exB _ _ (Ctx.sepB (Ctx.puB rfl hc)); replace hc := hc.m [12, 12, 4]; replace hc := Ctx.bigB0 hc ha62 hy60; replace hc : Ctx w89 (OwnV (vOwn (pInt .i8) 42) 31 (.slice (some ⟨b72, o73, none⟩) r7.2.length q13) r7.2 :: OwnV (vOwn (pInt .i8) 42) 31 (.slice (some ⟨b41, o42, none⟩) r7.1.length q10) r7.1 :: hR .i8 a86 q87 y75.V :: hR .i8 a84 q85 y75.K :: hR .i8 a86 q87 y75.V :: hR .i8 a53 q54 y44.K :: hR .i8 a53 q54 y44.K :: hR .i8 a55 q56 y44.V :: B b1 [.int .i64 x1.Room, .slice (some ⟨b47, o48, none⟩) x1.L.length q25] 53 :: Own S_ref12_Row.pr 57 (.slice (some ⟨b47, o48, none⟩) x1.L.length q25) x1.L :: S_cache_Store.hp b0 x0 :: B b4 (S_api_Spot.cz x2) 30 :: Fr) := Ctx.ownVB hc.swap; replace hc := hc.m [18, 18]; replace hc := S_ref12_Store.fd (x := x1) hc; replace hc := hc.m [17, 15, 13, 11, 9, 7, 8, 8, 6, 8]; exact ⟨m1, Nat.lt_succ_self _, ⟨(IntKind.i64.wrap (j17 + 1)), rfl, hp, hc⟩, (kl rfl k0)⟩
       · replace hp := gpos hp (of_decide_eq_true hb28); (iterate 14 refine d0 rfl rfl ?_); refine ad_ 2 rfl ?_; (iterate 14 refine d0 rfl rfl ?_); refine ad_ 1 rfl <| dn (qn (Wct rfl (Wseq (Wreg ?_)))); refine au 1 rfl <| rn (qn (Wret (qr (br (qr (br ?_)))))); replace hc := hc.m [2, 2]; replace hc := S_ref12_Store.fd (x := x1) hc; replace hc := hc.m [9, 5, 3, 2]; obtain rfl := sj hp; exact fz R22 M22 (k _ hc)
     · replace hp := gpos hp (of_decide_eq_true hb27); (iterate 4 refine d0 rfl rfl ?_); refine ad_ 2 rfl ?_; (iterate 14 refine d0 rfl rfl ?_); refine ad_ 2 rfl ?_; (iterate 14 refine d0 rfl rfl ?_); refine ad_ 1 rfl <| dn (qn (Wct rfl (Wseq (Wreg ?_)))); refine au 1 rfl <| rn (qn (Wret (qr (br (qr (br ?_)))))); replace hc := hc.m [2, 2]; replace hc := S_ref12_Store.fd (x := x1) hc; replace hc := hc.m [9, 5, 3, 2]; obtain rfl := sj hp; exact fz R22 M22 (k _ hc)
   · replace hp := h; clear h; refine Wseq (Wreg ?_); refine au 1 rfl <| sz (ln rfl U37) <| au 3 rfl ?_; cases hb91 : (decide (((r7.1.length : Nat) : Int) = j17))
     · replace hp := gneg hp (of_decide_eq_false hb91); (iterate 4 refine r0 rfl ?_); refine au 2 rfl <| rn (qn (Wret (qr (br (qr (br ?_)))))); replace hc := hc.m [9, 5, 3, 2]; obtain rfl := sj hp; exact fz R22 M22 (k _ hc)
     · replace hp := gpos hp (of_decide_eq_true hb91); refine au 1 rfl <| sz (ln rfl U37) <| au 4 rfl <| rn (qn (Wret (qr (br (qr (br ?_)))))); replace hc := hc.m [9, 5, 3, 2]; obtain rfl := sj hp; exact fz R22 M22 (k _ hc)

theorem bd_53_0 {ρ : Operand → Value} {w : World} {dst : Option Nat} {ty : TypeId} {pos : String} {after : Array Edge} {g : Option (Nat × Bool)} {x0 : Operand} {k0 : IntKind} {a0 : Int} (h0 : ρ x0 = (.int k0 a0)) :
    (execOp ρ ⟨dst, .build 53 #[(0, x0)], ty, pos, after, g⟩).run Try.prog w = .ok (.value (.agg #[(.int k0 a0), (.slice none 0 0)])) w := by
  simp [execOp, Instr.build, Instr.fill, Try.zeroValue53, Try.runUnderlying53, Try.sizeOf3, Try.sizeOf51, h0, Value.cells]

def law12_CacheActs.L3 (r28 : ((List Int))) (r34 : ((List Int))) : Nat → Int → Option (Bool)
  | 0, _ => none
  | m3 + 1, j41 =>
    if j41 < ((r28.length : Nat) : Int) then
      (idx r28 j41).bind fun y45 =>
      (idx r34 j41).bind fun y54 =>
      if y45 ≠ y54 then
        some false
      else
        (law12_CacheActs.L3 r28 r34 m3) (IntKind.i64.wrap (j41 + 1))
    else
      some true

def law12_CacheActs.L7 (N : Nat) (j25 : Int) (y64 : S_law12_Act) (j83 : S_ref12_Store) (j84 : S_cache_Store) (k2 : S_ref12_Store → S_cache_Store → Int → Option (Bool)) : Nat → Int → Option (Bool)
  | 0, _ => none
  | m7 + 1, j199 =>
    if j199 < ((j83.L.length : Nat) : Int) then
      (idx j83.L j199).bind fun y220 =>
      (cache_Store_Get j84 (⟨y220.At.Request, y220.At.Layer, y220.At.Place⟩ : S_api_Spot)).bind fun r233 =>
      if r233.2.2 = true then
        (idx j83.L j199).bind fun y244 =>
        (ref04_Bytes N r233.1 y244.K).bind fun r257 =>
        if r257 = true then
          (idx j83.L j199).bind fun y260 =>
          (ref04_Bytes N r233.2.1 y260.V).bind fun r273 =>
          if r273 = true then
            (law12_CacheActs.L7 N j25 y64 j83 j84 k2 m7) (IntKind.i64.wrap (j199 + 1))
          else
            some false
        else
          some false
      else
        some false
    else
      (cache_Store_Get j84 (⟨y64.At.Request, y64.At.Layer, y64.At.Place⟩ : S_api_Spot)).bind fun r204 =>
      (ref12_Store_Find N j83 (⟨y64.At.Request, y64.At.Layer, y64.At.Place⟩ : S_api_Spot)).bind fun r214 =>
      if (!(r204.2.2 == (decide (r214 ≥ 0)))) = true then
        some false
      else
        (law12_lines N j84 j83 (⟨y64.At.Request, y64.At.Layer, y64.At.Place⟩ : S_api_Spot)).bind fun r217 =>
        if r217 = true then
          k2 j83 j84 (IntKind.i64.wrap (j25 + 1))
        else
          some false

def law12_CacheActs.J4 (N : Nat) (x0 : Int) (j25 : Int) (y64 : S_law12_Act) (k2 : S_ref12_Store → S_cache_Store → Int → Option (Bool)) (j83 : S_ref12_Store) (j84 : S_cache_Store) : Option (Bool) :=
  (cache_Store_Len j84).bind fun r190 =>
  if r190 ≠ ((j83.L.length : Nat) : Int) then
    some false
  else
    (cache_Store_Len j84).bind fun r193 =>
    if r193 > x0 then
      some false
    else
      (cache_Store_Room j84).bind fun r196 =>
      if r196 ≠ x0 then
        some false
      else
        law12_CacheActs.L7 N j25 y64 j83 j84 k2 N 0

def law12_CacheActs.L6 (N : Nat) (x0 : Int) (j25 : Int) (y64 : S_law12_Act) (j101 : (List Int)) (r158 : (Int × S_cache_Store)) (r160 : (Int × S_ref12_Store)) (k2 : S_ref12_Store → S_cache_Store → Int → Option (Bool)) : Nat → (List Int) → Int → Option (Bool)
  | 0, _, _ => none
  | m6 + 1, j163, j167 =>
    if j167 < ((j101.length : Nat) : Int) then
      (idx j163 j167).bind fun y170 =>
      (idx j163 j167).bind fun y179 =>
      (law12_CacheActs.L6 N x0 j25 y64 j101 r158 r160 k2 m6) (j163.set (j167).toNat (IntKind.i8.wrap (y170 + 1))) (IntKind.i64.wrap (j167 + 1))
    else
      law12_CacheActs.J4 N x0 j25 y64 k2 r160.2 r158.2

def law12_CacheActs.J5 (N : Nat) (x0 : Int) (j23 : S_ref12_Store) (j24 : S_cache_Store) (j25 : Int) (y64 : S_law12_Act) (k2 : S_ref12_Store → S_cache_Store → Int → Option (Bool)) (j101 : (List Int)) (j105 : (List Int)) : Option (Bool) :=
  (cache_Store_Put N j24 y64.At j101 j105).bind fun r158 =>
  (ref12_Store_Put N j23 y64.At y64.K y64.V).bind fun r160 =>
  if r158.1 ≠ r160.1 then
    some false
  else
    law12_CacheActs.L6 N x0 j25 y64 j101 r158 r160 k2 N j101 0

def law12_CacheActs.L2 (N : Nat) (x0 : Int) (x1 : (List S_law12_Act)) : Nat → S_ref12_Store → S_cache_Store → Int → Option (Bool)
  | 0, _, _, _ => none
  | m2 + 1, j23, j24, j25 =>
    if j25 < ((x1.length : Nat) : Int) then
      (idx x1 j25).bind fun y64 =>
      if ((y64.K.length : Nat) : Int) > 100 then
        some true
      else
        if ((y64.V.length : Nat) : Int) > 100 then
          some true
        else
          if y64.Kind = 0 then
            (app ([]) y64.K).bind fun z100124 =>
            (app ([]) y64.V).bind fun z100125 =>
            law12_CacheActs.J5 N x0 j23 j24 j25 y64 (law12_CacheActs.L2 N x0 x1 m2) z100124 z100125
          else
            if y64.Kind = 1 then
              (cache_Store_Drop N j24 ([y64.At.Request])).bind fun r96 =>
              (ref12_Store_Drop N j23 y64.At.Request).bind fun r98 =>
              if r96.1 ≠ r98.1 then
                some false
              else
                law12_CacheActs.J4 N x0 j25 y64 (law12_CacheActs.L2 N x0 x1 m2) r98.2 r96.2
            else
              if y64.Kind = 2 then
                (cache_Store_Clear j24).bind fun r88 =>
                law12_CacheActs.J4 N x0 j25 y64 (law12_CacheActs.L2 N x0 x1 m2) (⟨j23.Room, []⟩ : S_ref12_Store) r88
              else
                law12_CacheActs.J4 N x0 j25 y64 (law12_CacheActs.L2 N x0 x1 m2) j23 j24
    else
      (cache_Store_Requests N j24).bind fun r28 =>
      (ref12_Store_Requests N j23).bind fun r34 =>
      if ((r28.length : Nat) : Int) ≠ ((r34.length : Nat) : Int) then
        some false
      else
        law12_CacheActs.L3 r28 r34 N 0

def law12_CacheActs.J1 (N : Nat) (x0 : Int) (x1 : (List S_law12_Act)) (r7 : ((Option S_cache_Store) × Int)) (j10 : Bool) : Option (Bool) :=
  if j10 = true then
    optc r7.1 (
      some (decide (r7.2 = 2))) fun y277 =>
    some false
  else
    optc r7.1 (
      some false) fun y15 =>
    if r7.2 ≠ 0 then
      some false
    else
      law12_CacheActs.L2 N x0 x1 N (⟨x0, []⟩ : S_ref12_Store) y15 0

def law12_CacheActs (N : Nat) (x0 : Int) (x1 : (List S_law12_Act)) : Option (Bool) :=
  (law12_awake N).bind fun r1 =>
  if r1 = true then
    if ((x1.length : Nat) : Int) > 60 then
      (law12_awake N).bind fun r281 =>
      some r281
    else
      (cache_New x0).bind fun r7 =>
      if x0 < 0 then
        law12_CacheActs.J1 N x0 x1 r7 true
      else
        law12_CacheActs.J1 N x0 x1 r7 (decide (x0 > 1048576))
  else
    (law12_awake N).bind fun r4 =>
    some r4

theorem law12_CacheActs_any {N nx1 qx1 : Nat} {x0 : Int} {x1 : (List S_law12_Act)} {ax1 : Option Addr} {P1 : HP} {Fr : List HP} {w : World} {r : Bool} {K : Value → World → Prop} (hrd1 : Reads P1 S_law12_Act.pr (.slice ax1 nx1 qx1) x1) (hc : Ctx w (P1 :: Fr)) (hp : law12_CacheActs N x0 x1 = some r)
    (k : ∀ w', Ctx w' (P1 :: Fr) → K (.bool r) w') : Calls Try.prog 6 #[.int .i64 x0, .slice ax1 nx1 qx1] w (Ret K) := by
 unfold law12_CacheActs at hp; refine Center2 F6 M6 rfl rfl ?_; obtain ⟨hn1, _⟩ := Ctx.rdLen hc (k := 0) rfl rfl hrd1; subst hn1; refine Wseq (Wreg ?_); refine au 1 rfl <| rn (qn (Wseq (Wseq (Wreg ?_)))); replace hp := bind_some hp; obtain ⟨r1, hr1, hp⟩ := hp; refine kz C7 ?_; refine law12_awake_any hc hr1 ?_; clear hc; intro w2 hc; cases hb3 : r1
 · replace hp := gneg hp (by rw [hb3]; exact Bool.false_ne_true); subst hb3; refine au 2 rfl ?_; (iterate 3 refine r0 rfl ?_); refine au 1 rfl <| rn (qn (Wct rfl (Wseq (Wreg ?_)))); replace hp := bind_some hp; obtain ⟨r4, hr4, hp⟩ := hp; refine kz C7 ?_; refine law12_awake_any hc hr4 ?_; clear hc; intro w5 hc; refine au 1 rfl <| rn (qn (Wret (qr ?_))); obtain rfl := sj hp; exact fz R6 M6 (k _ hc)
 · replace hp := gpos hp hb3; subst hb3; refine au 3 rfl <| sz (ln rfl U22) <| au 2 rfl <| rn (qn ?_); refine Wif hp (fun _ h => ?_) fun _ h => ?_
   · replace hp := h; clear h; refine Wskip (qn (Wseq (Wreg ?_))); refine au 1 rfl ?_; replace hp := bind_some hp; obtain ⟨r7, hr7, hp⟩ := hp; refine kz C8 ?_; refine cache_New_any hc hr7 ?_; clear hc; intro v8 w9 hc; refine au 5 rfl <| rn (qn (Wseq ?_)); refine Wseqm (rg [36, 6]) [41] (fun vs w' => ∃ j10 : Bool, vs = [.bool j10] ∧ law12_CacheActs.J1 N x0 x1 r7 j10 = some r ∧ Ctx w' (PtO S_cache_Store.hp v8 r7.1 :: P1 :: Fr)) ?_ ?_
     · refine Wreg <| au 3 rfl ?_; cases hb11 : (decide (x0 < 0))
       · replace hp := gneg hp (of_decide_eq_false hb11); refine au 3 rfl <| rn (qn ?_); exact ⟨⟨decide (x0 > 1048576), rfl, hp, hc⟩, (kl rfl kb)⟩
       · replace hp := gpos hp (of_decide_eq_true hb11); (iterate 2 refine r0 rfl ?_); refine au 1 rfl <| rn (qn ?_); exact ⟨⟨true, rfl, hp, hc⟩, (kl rfl kb)⟩
     · clear hp hc; intro vs u w12 hJ; obtain ⟨j10, rfl, hp, hc⟩ := hJ; unfold law12_CacheActs.J1 at hp; cases hb13 : j10
       · replace hp := gneg hp (by rw [hb13]; exact Bool.false_ne_true); subst hb13; refine Wcf rfl (Wskip (qn (Wseq (Wseq (Wreg ?_))))); refine au 1 rfl ?_; cases hb14 : r7.1
         · replace hp := optN hp hb14; rw [hb14] at hc; replace hc := Ctx.ptoN hc; obtain ⟨u16, hc⟩ := hc; subst u16; refine sz (v := .bool true) (ept U24 rfl rfl) <| au 1 rfl ?_; (iterate 2 refine r0 rfl ?_); refine au 1 rfl <| rn (qn (Wct rfl (Wseq (Wreg ?_)))); refine au 1 rfl <| rn (qn (Wret (qr ?_))); obtain rfl := sj hp; exact fz R6 M6 (k _ hc)
         · rename_i y15; replace hp := optS hp hb14; rw [hb14] at hc; replace hc := Ctx.ptoS hc; obtain ⟨b17, u18, hc⟩ := hc; subst u18; refine sz (v := .bool false) (epf U24 rfl rfl) <| au 4 rfl <| rn (qn ?_); refine Wif hp (fun _ h => ?_) fun _ h => ?_
           · replace hp := h; clear h; refine Wskip (qn (Wseq (Wreg ?_))); refine au 1 rfl <| sz (v := .agg #[.int .i64 x0, .slice none 0 0]) (bd_53_0 rfl) ?_; refine rsE (Ctx.boxOp (cs := [.int .i64 x0, .slice none 0 0]) (v := .agg #[.int .i64 x0, .slice none 0 0]) hc rfl rfl) rfl ?_; clear hc; rintro _ w22 ⟨b20, rfl, hc⟩; refine au 1 rfl <| rn (qn (Wseq (Wseq (Wreg ?_)))); refine au 1 rfl <| rn (qn (Wblk ?_)); replace hc := hc.nilOwn S_ref12_Row.pr 57; replace hc := hc.m [2]; replace hc := S_ref12_Store.fd (x := (⟨x0, []⟩ : S_ref12_Store)) hc; refine Wloop (rg [4, 1, 8, 12, 57, 174]) [8] (fun m vs w' => ∃ j23 : S_ref12_Store, ∃ j24 : S_cache_Store, ∃ j25 : Int, vs = [.int .i64 j25] ∧ law12_CacheActs.L2 N x0 x1 m j23 j24 j25 = some r ∧ Ctx w' (S_ref12_Store.hp b20 j23 :: S_cache_Store.hp b17 j24 :: P1 :: Fr)) N ?_ ?_
             · exact ⟨(⟨x0, []⟩ : S_ref12_Store), y15, 0, rfl, hp, hc⟩
             · clear hp hc; intro m vs u w26 hJ; obtain ⟨j23, j24, j25, rfl, hp, hc⟩ := hJ; rcases m with _ | m2
               · cases (show none = some r from hp)
               rw [law12_CacheActs.L2] at hp; refine Wseq (Wseq (Wreg ?_)); refine au 2 rfl <| sz (ln rfl U22) <| au 1 rfl <| rn (qn ?_); refine Wif hp (fun _ h => ?_) fun _ h => ?_
               · replace hp := h; clear h; refine Wexit (qx (qx (be (qn (Wseq (Wreg ?_)))))); refine au 1 rfl ?_; replace hp := bind_some hp; obtain ⟨r28, hr28, hp⟩ := hp; replace hc := hc.m [2]; refine kz C17 ?_; refine cache_Store_Requests_any hc hr28 ?_; clear hc; intro a29 n30 q31 w32 hc; obtain rfl := hc.rz 0 reads_own; refine au 1 rfl ?_; replace hp := bind_some hp; obtain ⟨r34, hr34, hp⟩ := hp; replace hc := hc.m [4]; refine kz C23 ?_; refine ref12_Store_Requests_any hc hr34 ?_; clear hc; intro a35 n36 q37 w38 hc; obtain rfl := hc.rz 0 reads_own; refine au 2 rfl <| rn (qn (Wseq (Wseq (Wreg ?_)))); refine au 1 rfl <| sz (ln rfl U47) <| au 1 rfl <| sz (ln rfl U47) <| au 1 rfl <| rn (qn ?_); refine Wif hp (fun _ h => ?_) fun _ h => ?_
                 · replace hp := h; clear h; refine Wskip (qn (Wseq (Wseq (Wreg ?_)))); refine au 1 rfl <| rn (qn (Wblk ?_)); replace hc := hc.m [7, 3]; refine Wloop (rg [4, 1, 22, 1, 240, 15]) [22] (fun m vs w' => ∃ j41 : Int, vs = [.int .i64 j41] ∧ law12_CacheActs.L3 r28 r34 m j41 = some r ∧ Ctx w' (oR .i64 3 a35 q37 r34 :: oR .i64 3 a29 q31 r28 :: P1 :: Fr)) N ?_ ?_
                   · exact ⟨0, rfl, hp, hc⟩
                   · clear hp hc; intro m vs u w42 hJ; obtain ⟨j41, rfl, hp, hc⟩ := hJ; rcases m with _ | m3
                     · cases (show none = some r from hp)
                     rw [law12_CacheActs.L3] at hp; refine Wseq (Wseq (Wreg ?_)); refine au 2 rfl <| sz (ln rfl U47) <| au 1 rfl <| rn (qn ?_); refine Wif hp (fun _ h => ?_) fun _ h => ?_
                     · replace hp := h; clear h; refine Wexit (qx (qx (be (qn (Wseq (Wreg ?_)))))); refine au 1 rfl <| rn (qn (Wret ?_)); replace hc := hc.m [3, 1]; obtain rfl := sj hp; exact fz R6 M6 (k _ hc)
                     · replace hp := h; clear h; refine Wskip (qn (Wseq (Wblk (Wseq ?_)))); replace hc := hc.drew; refine Wdrw (fun _ w' => w' = World.drew w42) [0, 0, 3, 7, 0, 0, 48, 112, 255] 0 0 rfl (by kernel_rfl) (fun _ _ => rfl) ?_; generalize hw : World.drew w42 = w44 at *; clear hw; refine ad_ 2 rfl ?_; replace hp := bind_some hp; obtain ⟨y45, hy45, hp⟩ := hp; obtain ⟨b48, o49, rfl, hi46, hi47⟩ := hc.ra 1 reads_own hy45; refine dE (ixx rfl rfl U47 Z3 hi46 hi47 rfl) rfl rfl ?_; have hcell52 := hc.rv 1 reads_own hy45; refine dE (ld rfl G3 (hcell52 0 _ rfl)) rfl rfl <| ad_ 2 rfl ?_; replace hp := bind_some hp; obtain ⟨y54, hy54, hp⟩ := hp; obtain ⟨b57, o58, rfl, hi55, hi56⟩ := hc.ra 0 reads_own hy54; refine dE (ixx rfl rfl U47 Z3 hi55 hi56 rfl) rfl rfl ?_; have hcell61 := hc.rv 0 reads_own hy54; refine dE (ld rfl G3 (hcell61 0 _ rfl)) rfl rfl <| ad_ 1 rfl <| dn (qn ?_); refine Wif hp (fun _ h => ?_) fun _ h => ?_
                       · replace hp := h; clear h; refine Wskip (bn (qn (Wreg ?_))); refine au 3 rfl <| rn (qn ?_); exact ⟨m3, Nat.lt_succ_self _, ⟨(IntKind.i64.wrap (j41 + 1)), rfl, hp, hc⟩, (kl rfl k0)⟩
                       · replace hp := h; clear h; refine Wseq (Wreg ?_); refine au 1 rfl <| rn (qn (Wret (br (qr (qr (br (qr ?_))))))); replace hc := hc.m [3, 1]; obtain rfl := sj hp; exact fz R6 M6 (k _ hc)
                 · replace hp := h; clear h; refine Wseq (Wreg ?_); refine au 1 rfl <| rn (qn (Wret (qr ?_))); replace hc := hc.m [7, 5, 3, 1]; obtain rfl := sj hp; exact fz R6 M6 (k _ hc)
               · replace hp := h; clear h; refine Wskip (qn (Wseq (Wblk (Wseq (Wreg ?_))))); refine au 2 rfl ?_; replace hp := bind_some hp; obtain ⟨y64, hy64, hp⟩ := hp; obtain ⟨b67, o68, rfl, hi65, hi66⟩ := hc.ra 2 hrd1 hy64; refine sz (ixx rfl rfl U22 Z33 hi65 hi66 rfl) ?_; replace hc := Ctx.rdCell hc (k := 2) rfl rfl hrd1 hy64; obtain ⟨cs70, hc, hcell71⟩ := hc; replace hc := S_law12_Act.op hc; obtain ⟨a73, q74, a75, q76, u72, hc⟩ := hc; subst u72; refine sz (v := .agg (S_law12_Act.cz y64 a73 q74 a75 q76).toArray) (ldg rfl G33 Z33 rfl (elCells hcell71 0 (vs := (S_law12_Act.cz y64 a73 q74 a75 q76)) rfl)) ?_; refine rsE (Ctx.allocOp (cs := [.int .i64 0, .int .i64 0, .int .i64 0, .int .i64 0, .slice none 0 0, .slice none 0 0]) hc V33 rfl) rfl ?_; clear hc; rintro _ w79 ⟨b77, rfl, hc⟩; refine pa hc 0 Z33 ?_; clear hc; rintro w80 hc; refine rn (qn (Wseq (Wseq (Wreg ?_)))); refine fq 4 U33 Z31 G31 hc 0 ?_; refine sz (ln rfl U31) <| au 2 rfl ?_; cases hb81 : (decide (((y64.K.length : Nat) : Int) > 100))
                 · replace hp := gneg hp (of_decide_eq_false hb81); refine fq 5 U33 Z31 G31 hc 0 ?_; refine sz (ln rfl U31) <| au 2 rfl <| rn (qn ?_); refine Wif hp (fun _ h => ?_) fun _ h => ?_
                   · replace hp := h; clear h; refine Wskip (qn ?_); refine Wseqm (rg [4, 1, 10, 3, 77, 60]) [] (fun vs w' => ∃ j83 : S_ref12_Store, ∃ j84 : S_cache_Store, vs = [] ∧ law12_CacheActs.J4 N x0 j25 y64 (law12_CacheActs.L2 N x0 x1 m2) j83 j84 = some r ∧ Ctx w' (B b77 (S_law12_Act.cz y64 a73 q74 a75 q76) 33 :: hR .i8 a73 q74 y64.K :: hR .i8 a75 q76 y64.V :: S_ref12_Store.hp b20 j83 :: S_cache_Store.hp b17 j84 :: P1 :: Fr)) ?_ ?_
                     · refine Wseq (Wreg ?_); refine fq 0 U33 Z3 G3 hc 0 ?_; refine rn (qn (Wblk (Wseq (Wreg ?_)))); refine au 2 rfl <| rn (qn ?_); cases hb85 : (decide (y64.Kind = 0))
                       · replace hp := gneg hp (of_decide_eq_false hb85); refine Wcf rfl (Wseq (Wreg ?_)); refine au 2 rfl <| rn (qn ?_); refine Wif hp (fun _ h => ?_) fun _ h => ?_
                         · replace hp := h; clear h; refine Wseq (Wreg ?_); refine au 2 rfl <| rn (qn ?_); refine Wif hp (fun _ h => ?_) fun _ h => ?_
                           · replace hp := h; clear h; refine Wskip (bn (qn ?_)); exact ⟨⟨j23, j24, rfl, hp, hc⟩, (kl rfl kb)⟩
                           · replace hp := h; clear h; refine Wseq (Wreg ?_); refine au 1 rfl ?_; replace hp := bind_some hp; obtain ⟨r88, hr88, hp⟩ := hp; replace hc := hc.m [8]; refine kz C14 ?_; refine cache_Store_Clear_any hc hr88 ?_; clear hc; intro w89 hc; refine rn (qn (Wreg ?_)); refine au 2 rfl <| sz (v := pt b20 1) (fax 1 rfl U53 rfl Z51 rfl rfl rfl) ?_; replace hc := hc.m [8]; replace hc := S_ref12_Store.uf hc; obtain ⟨a90, q91, hc⟩ := hc; refine po hc 0 Z51 ?_; clear hc; rintro w92 hc; refine rn (bn (qn ?_)); replace hc := hc.nilOwn S_ref12_Row.pr 57; replace hc := hc.m [2]; replace hc := S_ref12_Store.fd (x := (⟨j23.Room, []⟩ : S_ref12_Store)) hc; replace hc := hc.m [3, 10, 4, 4, 10, 10, 10]; exact ⟨⟨(⟨j23.Room, []⟩ : S_ref12_Store), r88, rfl, hp, hc⟩, (kl rfl kb)⟩
                         · replace hp := h; clear h; refine Wseq ?_; replace hc := hc.drew; refine Wdrw (fun j w' => (j = 9 → w'.cell? ⟨b77, 1, none⟩ = some (.int .i64 y64.At.Request)) ∧ True) [0, 0, 2, 6, 14, 31, 0, 0, 128, 384, 1023, 2047] 0 8 rfl (by kernel_rfl) (fun j hj => ⟨fun _ => hc.cell (k := 0) rfl rfl rfl, trivial⟩) ?_; generalize hw : World.drew w80 = w93 at *; clear hw; refine ad_ 1 rfl <| ds (v := pt b77 1) rfl (fun w' hF => fax 1 rfl U33 rfl Z30 rfl rfl rfl) rfl <| ds (v := pt b77 1) rfl (fun w' hF => fax 0 rfl U30 rfl Z3 rfl rfl rfl) rfl <| dx rfl (ld rfl G3 (Ctx.cell hc (k := 0) rfl rfl rfl)) rfl rfl ?_; refine deE (oneI hc U47 Z3 V3) rfl rfl ?_; clear hc; rintro _ w95 ⟨a94, rfl, hc⟩; refine ⟨fun j hj hb => ⟨fun _ => hc.cell (k := 1) rfl rfl rfl, trivial⟩, ?_⟩; replace hp := bind_some hp; obtain ⟨r96, hr96, hp⟩ := hp; replace hc := hc.m [10]; refine dc (cl C10 rfl rfl) rfl rfl ?_; refine cache_Store_Drop_any reads_own hc hr96 ?_; clear hc; intro w97 hc; refine ⟨fun j hj hb => ⟨fun _ => hc.cell (k := 2) rfl rfl rfl, trivial⟩, ?_⟩; refine ad_ 1 rfl <| ds (v := pt b77 1) rfl (fun w' hF => fax 1 rfl U33 rfl Z30 rfl rfl rfl) rfl <| ds (v := pt b77 1) rfl (fun w' hF => fax 0 rfl U30 rfl Z3 rfl rfl rfl) rfl <| ds rfl (fun w' hF => ld rfl G3 ((hF.1 rfl))) rfl ?_; replace hp := bind_some hp; obtain ⟨r98, hr98, hp⟩ := hp; replace hc := hc.m [10]; refine dc (cl C19 rfl rfl) rfl rfl ?_; refine ref12_Store_Drop_any hc hr98 ?_; clear hc; intro w99 hc; refine ⟨fun j hj hb => ⟨fun e => nja hj e, trivial⟩, ?_⟩; refine ad_ 1 rfl <| dn (qn ?_); refine Wif hp (fun _ h => ?_) fun _ h => ?_
                           · replace hp := h; clear h; refine Wskip (bn (qn ?_)); replace hc := hc.m [5, 10, 4, 4, 10, 10, 10]; exact ⟨⟨r98.2, r96.2, rfl, hp, hc⟩, (kl rfl kb)⟩
                           · replace hp := h; clear h; refine Wseq (Wreg ?_); refine au 1 rfl <| rn (qn (Wret (br (qr (br (qr (qr (br (qr ?_))))))))); replace hc := hc.m [11, 9, 7, 5, 3, 1]; obtain rfl := sj hp; exact fz R6 M6 (k _ hc)
                       · replace hp := gpos hp (of_decide_eq_true hb85); refine Wct rfl ?_; refine Wseqm (rg [10, 2, 81, 8]) [10, 11] (fun vs w' => ∃ j101 : (List Int), ∃ j105 : (List Int), ∃ a102 n103, ∃ q104 a106, ∃ n107 q108, vs = [.slice a102 n103 q104, .slice a106 n107 q108] ∧ law12_CacheActs.J5 N x0 j23 j24 j25 y64 (law12_CacheActs.L2 N x0 x1 m2) j101 j105 = some r ∧ Ctx w' (B b77 (S_law12_Act.cz y64 a73 q74 a75 q76) 33 :: hR .i8 a73 q74 y64.K :: hR .i8 a75 q76 y64.V :: S_ref12_Store.hp b20 j23 :: S_cache_Store.hp b17 j24 :: P1 :: Own (pInt .i8) 42 (.slice a102 n103 q104) j101 :: Own (pInt .i8) 42 (.slice a106 n107 q108) j105 :: Fr)) ?_ ?_
                         · replace hp := bind_some hp; obtain ⟨z100124, hz100124, hp⟩ := hp; replace hp := bind_some hp; obtain ⟨z100125, hz100125, hp⟩ := hp; refine Wrg rfl ?_; refine RGsplit 0 4 rfl ?_ ?_
                           · refine RGsplit 3 4 rfl ?_ ?_
                             · replace hc := hc.drew; refine RGleaf [0, 1, 2, 3, 4, 5, 6, 7, 8, 9] (fun j w' => (j = 2 → w'.cell? ⟨b77, 4, none⟩ = some (.slice a73 y64.K.length q74)) ∧ (j = 6 → w'.cell? ⟨b77, 5, none⟩ = some (.slice a75 y64.V.length q76)) ∧ True) [0, 0, 2, 7, 15, 0, 32, 127, 255, 511] 0 0 (by kernel_rfl) (by kernel_rfl) (fun j hj => ⟨fun _ => hc.cell (k := 0) rfl rfl rfl, fun _ => hc.cell (k := 0) rfl rfl rfl, trivial⟩) ?_; generalize hw : World.drew w80 = w109 at *; clear hw; refine deE (Ctx.builtOp (css := []) (xs := ([] : List Int)) (E := (pInt .i8)) hc U31 Z42 V42 rfl rfl rfl rfl rfl rfl rfl rfl) rfl rfl ?_; clear hc; rintro _ w111 ⟨a110, rfl, hc⟩; refine ⟨fun j hj hb => ⟨fun _ => hc.cell (k := 1) rfl rfl rfl, fun _ => hc.cell (k := 1) rfl rfl rfl, trivial⟩, ?_⟩; refine ds (v := pt b77 4) rfl (fun w' hF => fax 4 rfl U33 rfl Z31 rfl rfl rfl) rfl <| ds rfl (fun w' hF => ld rfl G31 ((hF.1 rfl))) rfl ?_; obtain ⟨hg112, e113⟩ := app_some hz100124; refine deE (hc.ap 0 2 reads_ro U31 Try.t42 hg112) rfl rfl ?_; clear hc; rintro _ w116 ⟨a114, q115, rfl, hc⟩; rw [← e113] at hc ⊢; replace hc := Ctx.n0 hc; refine ⟨fun j hj hb => ⟨fun e => nja hj e, fun _ => hc.cell (k := 1) rfl rfl rfl, trivial⟩, ?_⟩; refine deE (Ctx.builtOp (css := []) (xs := ([] : List Int)) (E := (pInt .i8)) hc U31 Z42 V42 rfl rfl rfl rfl rfl rfl rfl rfl) rfl rfl ?_; clear hc; rintro _ w118 ⟨a117, rfl, hc⟩; refine ⟨fun j hj hb => ⟨fun e => nja hj e, fun _ => hc.cell (k := 2) rfl rfl rfl, trivial⟩, ?_⟩; refine ds (v := pt b77 5) rfl (fun w' hF => fax 5 rfl U33 rfl Z31 rfl rfl rfl) rfl <| ds rfl (fun w' hF => ld rfl G31 ((hF.2.1 rfl))) rfl ?_; obtain ⟨hg119, e120⟩ := app_some hz100125; refine deE (hc.ap 0 4 reads_ro U31 Try.t42 hg119) rfl rfl ?_; clear hc; rintro _ w123 ⟨a121, q122, rfl, hc⟩; rw [← e120] at hc ⊢; replace hc := Ctx.n0 hc; refine ⟨fun j hj hb => ⟨fun e => nja hj e, fun e => nja hj e, trivial⟩, ?_⟩; refine ad_ 2 rfl <| dn (qn ?_); replace hc := hc.m [2, 14, 14, 14, 14, 14, 14]; exact ⟨⟨z100124, z100125, a114, z100124.length, q115, a121, z100125.length, q122, rfl, hp, hc⟩, (kl rfl kb)⟩
                             · replace hc := hc.drew; refine RGleaf [0, 1, 2, 4, 3, 5, 6, 7, 8, 9] (fun j w' => (j = 2 → w'.cell? ⟨b77, 4, none⟩ = some (.slice a73 y64.K.length q74)) ∧ (j = 6 → w'.cell? ⟨b77, 5, none⟩ = some (.slice a75 y64.V.length q76)) ∧ True) [0, 0, 2, 1, 15, 0, 32, 127, 255, 511] 0 0 (by kernel_rfl) (by kernel_rfl) (fun j hj => ⟨fun _ => hc.cell (k := 0) rfl rfl rfl, fun _ => hc.cell (k := 0) rfl rfl rfl, trivial⟩) ?_; generalize hw : World.drew w80 = w124 at *; clear hw; refine deE (Ctx.builtOp (css := []) (xs := ([] : List Int)) (E := (pInt .i8)) hc U31 Z42 V42 rfl rfl rfl rfl rfl rfl rfl rfl) rfl rfl ?_; clear hc; rintro _ w126 ⟨a125, rfl, hc⟩; refine ⟨fun j hj hb => ⟨fun _ => hc.cell (k := 1) rfl rfl rfl, fun _ => hc.cell (k := 1) rfl rfl rfl, trivial⟩, ?_⟩; refine ds (v := pt b77 4) rfl (fun w' hF => fax 4 rfl U33 rfl Z31 rfl rfl rfl) rfl <| ds rfl (fun w' hF => ld rfl G31 ((hF.1 rfl))) rfl ?_; refine deE (Ctx.builtOp (css := []) (xs := ([] : List Int)) (E := (pInt .i8)) hc U31 Z42 V42 rfl rfl rfl rfl rfl rfl rfl rfl) rfl rfl ?_; clear hc; rintro _ w128 ⟨a127, rfl, hc⟩; refine ⟨fun j hj hb => ⟨fun _ => hc.cell (k := 2) rfl rfl rfl, fun _ => hc.cell (k := 2) rfl rfl rfl, trivial⟩, ?_⟩; obtain ⟨hg129, e130⟩ := app_some hz100124; refine deE (hc.ap 1 3 reads_ro U31 Try.t42 hg129) rfl rfl ?_; clear hc; rintro _ w133 ⟨a131, q132, rfl, hc⟩; rw [← e130] at hc ⊢; replace hc := Ctx.n1 hc; refine ⟨fun j hj hb => ⟨fun e => nja hj e, fun _ => hc.cell (k := 2) rfl rfl rfl, trivial⟩, ?_⟩; refine ds (v := pt b77 5) rfl (fun w' hF => fax 5 rfl U33 rfl Z31 rfl rfl rfl) rfl <| ds rfl (fun w' hF => ld rfl G31 ((hF.2.1 rfl))) rfl ?_; obtain ⟨hg134, e135⟩ := app_some hz100125; refine deE (hc.ap 0 4 reads_ro U31 Try.t42 hg134) rfl rfl ?_; clear hc; rintro _ w138 ⟨a136, q137, rfl, hc⟩; rw [← e135] at hc ⊢; replace hc := Ctx.n0 hc; refine ⟨fun j hj hb => ⟨fun e => nja hj e, fun e => nja hj e, trivial⟩, ?_⟩; refine ad_ 2 rfl <| dn (qn ?_); replace hc := hc.m [2, 14, 14, 14, 14, 14, 14]; exact ⟨⟨z100124, z100125, a131, z100124.length, q132, a136, z100125.length, q137, rfl, hp, hc⟩, (kl rfl kb)⟩
                           · replace hc := hc.drew; refine RGleaf [1, 2, 4, 0, 3, 5, 6, 7, 8, 9] (fun j w' => (j = 1 → w'.cell? ⟨b77, 4, none⟩ = some (.slice a73 y64.K.length q74)) ∧ (j = 6 → w'.cell? ⟨b77, 5, none⟩ = some (.slice a75 y64.V.length q76)) ∧ True) [0, 1, 0, 4, 15, 0, 32, 127, 255, 511] 0 0 (by kernel_rfl) (by kernel_rfl) (fun j hj => ⟨fun _ => hc.cell (k := 0) rfl rfl rfl, fun _ => hc.cell (k := 0) rfl rfl rfl, trivial⟩) ?_; generalize hw : World.drew w80 = w139 at *; clear hw; refine ds (v := pt b77 4) rfl (fun w' hF => fax 4 rfl U33 rfl Z31 rfl rfl rfl) rfl <| ds rfl (fun w' hF => ld rfl G31 ((hF.1 rfl))) rfl ?_; refine deE (Ctx.builtOp (css := []) (xs := ([] : List Int)) (E := (pInt .i8)) hc U31 Z42 V42 rfl rfl rfl rfl rfl rfl rfl rfl) rfl rfl ?_; clear hc; rintro _ w141 ⟨a140, rfl, hc⟩; refine ⟨fun j hj hb => ⟨fun _ => hc.cell (k := 1) rfl rfl rfl, fun _ => hc.cell (k := 1) rfl rfl rfl, trivial⟩, ?_⟩; refine deE (Ctx.builtOp (css := []) (xs := ([] : List Int)) (E := (pInt .i8)) hc U31 Z42 V42 rfl rfl rfl rfl rfl rfl rfl rfl) rfl rfl ?_; clear hc; rintro _ w143 ⟨a142, rfl, hc⟩; refine ⟨fun j hj hb => ⟨fun _ => hc.cell (k := 2) rfl rfl rfl, fun _ => hc.cell (k := 2) rfl rfl rfl, trivial⟩, ?_⟩; obtain ⟨hg144, e145⟩ := app_some hz100124; refine deE (hc.ap 0 3 reads_ro U31 Try.t42 hg144) rfl rfl ?_; clear hc; rintro _ w148 ⟨a146, q147, rfl, hc⟩; rw [← e145] at hc ⊢; replace hc := Ctx.n0 hc; refine ⟨fun j hj hb => ⟨fun e => nja hj e, fun _ => hc.cell (k := 2) rfl rfl rfl, trivial⟩, ?_⟩; refine ds (v := pt b77 5) rfl (fun w' hF => fax 5 rfl U33 rfl Z31 rfl rfl rfl) rfl <| ds rfl (fun w' hF => ld rfl G31 ((hF.2.1 rfl))) rfl ?_; obtain ⟨hg149, e150⟩ := app_some hz100125; refine deE (hc.ap 1 4 reads_ro U31 Try.t42 hg149) rfl rfl ?_; clear hc; rintro _ w153 ⟨a151, q152, rfl, hc⟩; rw [← e150] at hc ⊢; replace hc := Ctx.n1 hc; refine ⟨fun j hj hb => ⟨fun e => nja hj e, fun e => nja hj e, trivial⟩, ?_⟩; refine ad_ 2 rfl <| dn (qn ?_); replace hc := hc.m [2, 2, 14, 14, 14, 14, 14, 14]; exact ⟨⟨z100124, z100125, a146, z100124.length, q147, a151, z100125.length, q152, rfl, hp, hc⟩, (kl rfl kb)⟩
                         · clear hp hc; intro vs u w154 hJ; obtain ⟨j101, j105, a102, n103, q104, a106, n107, q108, rfl, hp, hc⟩ := hJ; obtain rfl := hc.rz 6 reads_own; obtain rfl := hc.rz 7 reads_own; unfold law12_CacheActs.J5 at hp; refine Wseq (Wseq ?_); replace hc := hc.drew; refine Wdrw (fun j w' => (j = 8 → ∀ j v, ((S_api_Spot.cz y64.At) : List Value)[j]? = some v → w'.cell? ((⟨b77, 1, none⟩ : Addr).add j) = some v) ∧ (j = 10 → w'.cell? ⟨b77, 4, none⟩ = some (.slice a73 y64.K.length q74)) ∧ (j = 12 → w'.cell? ⟨b77, 5, none⟩ = some (.slice a75 y64.V.length q76)) ∧ True) [0, 0, 2, 0, 0, 31, 0, 0, 128, 0, 512, 0, 2048, 8191, 16383] 0 4 rfl (by kernel_rfl) (fun j hj => ⟨fun _ => Ctx.cells hc (k := 0) rfl rfl 1 (vs := (S_api_Spot.cz y64.At)) rfl, fun _ => hc.cell (k := 0) rfl rfl rfl, fun _ => hc.cell (k := 0) rfl rfl rfl, trivial⟩) ?_; generalize hw : World.drew w154 = w157 at *; clear hw; refine ad_ 1 rfl <| ds (v := pt b77 1) rfl (fun w' hF => fax 1 rfl U33 rfl Z30 rfl rfl rfl) rfl <| dx (v := .agg (S_api_Spot.cz y64.At).toArray) rfl (ldg rfl G30 Z30 rfl (Ctx.cells hc (k := 0) rfl rfl 1 (vs := (S_api_Spot.cz y64.At)) rfl)) rfl rfl <| ad_ 2 rfl ?_; replace hp := bind_some hp; obtain ⟨r158, hr158, hp⟩ := hp; replace hc := hc.m [14, 14, 12]; refine dc (cl C11 rfl rfl) rfl rfl ?_; refine cache_Store_Put_any (x1 := y64.At) reads_own reads_own hc hr158 ?_; clear hc; intro w159 hc; refine ⟨fun j hj hb => ⟨fun _ => Ctx.cells hc (k := 3) rfl rfl 1 (vs := (S_api_Spot.cz y64.At)) rfl, fun _ => hc.cell (k := 3) rfl rfl rfl, fun _ => hc.cell (k := 3) rfl rfl rfl, trivial⟩, ?_⟩; refine ad_ 1 rfl <| ds (v := pt b77 1) rfl (fun w' hF => fax 1 rfl U33 rfl Z30 rfl rfl rfl) rfl <| ds (v := .agg (S_api_Spot.cz y64.At).toArray) rfl (fun w' hF => ldg rfl G30 Z30 rfl (hF.1 rfl)) rfl <| ds (v := pt b77 4) rfl (fun w' hF => fax 4 rfl U33 rfl Z31 rfl rfl rfl) rfl <| ds rfl (fun w' hF => ld rfl G31 ((hF.2.1 rfl))) rfl <| ds (v := pt b77 5) rfl (fun w' hF => fax 5 rfl U33 rfl Z31 rfl rfl rfl) rfl <| ds rfl (fun w' hF => ld rfl G31 ((hF.2.2.1 rfl))) rfl ?_; replace hc := hc.dz 4; replace hc := hc.dz 6; replace hp := bind_some hp; obtain ⟨r160, hr160, hp⟩ := hp; replace hc := hc.m [2, 16]; refine dc (cl C18 rfl rfl) rfl rfl ?_; refine ref12_Store_Put_any (x1 := y64.At) reads_ro reads_ro hc hr160 ?_; clear hc; intro w161 hc; refine ⟨fun j hj hb => ⟨fun e => nja hj e, fun e => nja hj e, fun e => nja hj e, trivial⟩, ?_⟩; refine ad_ 1 rfl <| dn (qn ?_); refine Wif hp (fun _ h => ?_) fun _ h => ?_
                           · replace hp := h; clear h; refine Wskip (qn (Wseq (Wreg ?_))); refine au 1 rfl <| rn (qn (Wblk ?_)); replace hc := hc.m [11, 5, 3]; refine Wloop (rg [12, 1, 104, 12]) [12] (fun m vs w' => ∃ j163 : (List Int), ∃ j167 : Int, vs = [.int .i64 j167] ∧ law12_CacheActs.L6 N x0 j25 y64 j101 r158 r160 (law12_CacheActs.L2 N x0 x1 m2) m j163 j167 = some r ∧ Ctx w' (S_ref12_Store.hp b20 r160.2 :: S_cache_Store.hp b17 r158.2 :: Own (pInt .i8) 42 (.slice a102 j101.length q104) j163 :: B b77 (S_law12_Act.cz y64 a73 q74 a75 q76) 33 :: hR .i8 a73 q74 y64.K :: hR .i8 a75 q76 y64.V :: P1 :: Fr)) N ?_ ?_
                             · exact ⟨j101, 0, rfl, hp, hc⟩
                             · clear hp hc; intro m vs u w168 hJ; obtain ⟨j163, j167, rfl, hp, hc⟩ := hJ; rcases m with _ | m6
                               · cases (show none = some r from hp)
                               rw [law12_CacheActs.L6] at hp; refine Wseq (Wseq (Wreg ?_)); refine au 2 rfl <| sz (ln rfl U31) <| au 1 rfl <| rn (qn ?_); refine Wif hp (fun _ h => ?_) fun _ h => ?_
                               · replace hp := h; clear h; refine Wexit (qx (qx (be (bn (qn ?_))))); replace hc := hc.m [5, 10, 4, 4, 10, 10, 10]; exact ⟨⟨r160.2, r158.2, rfl, hp, hc⟩, (kl rfl (km rfl (kl rfl (km rfl (kl rfl kb)))))⟩
                               · replace hp := h; clear h; refine Wskip (qn (Wseq (Wblk (Wreg ?_)))); refine au 2 rfl ?_; replace hp := bind_some hp; obtain ⟨y170, hy170, hp⟩ := hp; obtain ⟨b173, o174, rfl, hi171, hi172⟩ := hc.ra 2 reads_own hy170; refine sz (ixx rfl rfl U31 Z42 hi171 hi172 rfl) ?_; have hcell177 := hc.rv 2 reads_own hy170; refine sz (ld rfl G42 (hcell177 0 _ rfl)) <| au 1 rfl ?_; replace hp := bind_some hp; obtain ⟨y179, hy179, hp⟩ := hp; obtain ⟨b182, o183, -, hi180, hi181⟩ := hc.ra 2 reads_own hy179; refine sz (ixx rfl rfl U31 Z42 hi180 hi181 rfl) ?_; refine ruE (Ctx.ownPutOp hc (k := 2) rfl rfl (z := y179) (z' := (IntKind.i8.wrap (y170 + 1))) hy179 0 rfl (u := .int .i8 (IntKind.i8.wrap (y170 + 1))) rfl rfl rfl Z42 (fun _ _ _ h => by cases h; rfl) rfl) rfl ?_; clear hc; rintro w185 hc; replace hc := Ctx.n2 hc; refine rn (bn (qn (Wreg ?_))); refine au 3 rfl <| rn (qn ?_); exact ⟨m6, Nat.lt_succ_self _, ⟨(j163.set (j167).toNat (IntKind.i8.wrap (y170 + 1))), (IntKind.i64.wrap (j167 + 1)), rfl, hp, hc⟩, (kl rfl k0)⟩
                           · replace hp := h; clear h; refine Wseq (Wreg ?_); refine au 1 rfl <| rn (qn (Wret (qr (br (qr (br (qr (qr (br (qr ?_)))))))))); replace hc := hc.m [17, 15, 13, 11, 9, 7, 5, 3, 1]; obtain rfl := sj hp; exact fz R6 M6 (k _ hc)
                     · clear hp hc; intro vs u w186 hJ; obtain ⟨j83, j84, rfl, hp, hc⟩ := hJ; unfold law12_CacheActs.J4 at hp; refine Wseq (Wseq ?_); replace hc := hc.m [6]; replace hc := S_ref12_Store.uf hc; obtain ⟨a187, q188, hc⟩ := hc; replace hc := hc.drew; refine Wdrw (fun j w' => (j = 5 → w'.cell? ⟨b20, 1, none⟩ = some (.slice a187 j83.L.length q188)) ∧ True) [0, 1, 0, 4, 12, 28, 60, 127, 255, 511, 1023, 511, 4095, 8191, 16383, 32767, 65535, 32767, 262143, 524287] 0 0 rfl (by kernel_rfl) (fun j hj => ⟨fun _ => hc.cell (k := 0) rfl rfl rfl, trivial⟩) ?_; generalize hw : World.drew w186 = w189 at *; clear hw; refine ad_ 1 rfl ?_; replace hp := bind_some hp; obtain ⟨r190, hr190, hp⟩ := hp; replace hc := hc.m [10]; refine dc (cl C13 rfl rfl) rfl rfl ?_; refine cache_Store_Len_any hc hr190 ?_; clear hc; intro w191 hc; refine ⟨fun j hj hb => ⟨fun _ => hc.cell (k := 1) rfl rfl rfl, trivial⟩, ?_⟩; refine ad_ 2 rfl <| ds (v := pt b20 1) rfl (fun w' hF => fax 1 rfl U53 rfl Z51 rfl rfl rfl) rfl <| ds rfl (fun w' hF => ld rfl G51 ((hF.1 rfl))) rfl <| ds rfl (fun w' hF => ln rfl U51) rfl <| ad_ 2 rfl ?_; cases hb192 : (decide (r190 ≠ ((j83.L.length : Nat) : Int)))
                       · replace hp := gneg hp (of_decide_eq_false hb192); refine ad_ 1 rfl ?_; replace hp := bind_some hp; obtain ⟨r193, hr193, hp⟩ := hp; refine dc (cl C13 rfl rfl) rfl rfl ?_; refine cache_Store_Len_any hc hr193 ?_; clear hc; intro w194 hc; refine ⟨fun j hj hb => ⟨fun e => nja hj e, trivial⟩, ?_⟩; refine ad_ 4 rfl ?_; cases hb195 : (decide (r193 > x0))
                         · replace hp := gneg hp (of_decide_eq_false hb195); refine ad_ 1 rfl ?_; replace hp := bind_some hp; obtain ⟨r196, hr196, hp⟩ := hp; refine dc (cl C20 rfl rfl) rfl rfl ?_; refine cache_Store_Room_any hc hr196 ?_; clear hc; intro w197 hc; refine ⟨fun j hj hb => ⟨fun e => nja hj e, trivial⟩, ?_⟩; refine ad_ 3 rfl <| dn (qn ?_); refine Wif hp (fun _ h => ?_) fun _ h => ?_
                           · replace hp := h; clear h; refine Wskip (qn (Wseq (Wseq (Wreg ?_)))); refine au 1 rfl <| rn (qn (Wblk ?_)); replace hc := hc.m [4, 4]; replace hc := S_ref12_Store.fd (x := j83) hc; replace hc := hc.m [10, 10, 10, 10, 8, 10]; refine Wloop (rg [4, 1, 13, 4, 157, 51]) [13] (fun m vs w' => ∃ j199 : Int, vs = [.int .i64 j199] ∧ law12_CacheActs.L7 N j25 y64 j83 j84 (law12_CacheActs.L2 N x0 x1 m2) m j199 = some r ∧ Ctx w' (S_cache_Store.hp b17 j84 :: S_ref12_Store.hp b20 j83 :: B b77 (S_law12_Act.cz y64 a73 q74 a75 q76) 33 :: hR .i8 a73 q74 y64.K :: hR .i8 a75 q76 y64.V :: P1 :: Fr)) N ?_ ?_
                             · exact ⟨0, rfl, hp, hc⟩
                             · clear hp hc; intro m vs u w200 hJ; obtain ⟨j199, rfl, hp, hc⟩ := hJ; rcases m with _ | m7
                               · cases (show none = some r from hp)
                               rw [law12_CacheActs.L7] at hp; refine Wseq (Wseq (Wreg ?_)); refine au 3 rfl <| sz (v := pt b20 1) (fax 1 rfl U53 rfl Z51 rfl rfl rfl) ?_; replace hc := hc.m [2]; replace hc := S_ref12_Store.uf hc; obtain ⟨a201, q202, hc⟩ := hc; refine sz (ld rfl G51 (Ctx.cell hc (k := 0) rfl rfl rfl)) <| sz (ln rfl U51) <| au 1 rfl <| rn (qn ?_); refine Wif hp (fun _ h => ?_) fun _ h => ?_
                               · replace hp := h; clear h; refine Wexit (qx (qx (be (qn (Wseq (Wreg ?_)))))); refine au 1 rfl <| sz (v := pt b77 1) (fax 1 rfl U33 rfl Z30 rfl rfl rfl) <| lg G30 Z30 hc 3 ?_; replace hp := bind_some hp; obtain ⟨r204, hr204, hp⟩ := hp; replace hc := hc.m [4]; refine kz C15 ?_; refine cache_Store_Get_any (x1 := y64.At) hc hr204 ?_; clear hc; intro a205 n206 q207 a208 n209 q210 w211 hc; obtain rfl := hc.rz 0 reads_own; obtain rfl := hc.rz 1 reads_own; refine au 7 rfl <| rn (qn (Wseq (Wreg ?_))); refine au 2 rfl <| sz (v := pt b77 1) (fax 1 rfl U33 rfl Z30 rfl rfl rfl) <| lg G30 Z30 hc 5 ?_; replace hc := hc.m [8, 8]; replace hc := S_ref12_Store.fd (x := j83) hc; replace hp := bind_some hp; obtain ⟨r214, hr214, hp⟩ := hp; refine kz C21 ?_; refine ref12_Store_Find_any (x1 := y64.At) hc hr214 ?_; clear hc; intro w215 hc; refine au 1 rfl <| sz (v := .bool (!(r204.2.2 == (decide (r214 ≥ 0))))) (neb U4 rfl rfl) <| au 1 rfl ?_; cases hb216 : (!(r204.2.2 == (decide (r214 ≥ 0))))
                                 · replace hp := gneg hp (by rw [hb216]; exact Bool.false_ne_true); refine au 2 rfl <| sz (v := pt b77 1) (fax 1 rfl U33 rfl Z30 rfl rfl rfl) <| lg G30 Z30 hc 4 ?_; replace hp := bind_some hp; obtain ⟨r217, hr217, hp⟩ := hp; replace hc := hc.m [6]; refine kz C22 ?_; refine law12_lines_any (x2 := y64.At) hc hr217 ?_; clear hc; intro w218 hc; cases hb219 : r217
                                   · replace hp := gneg hp (by rw [hb219]; exact Bool.false_ne_true); subst hb219; refine au 2 rfl <| rn (qn (Wct rfl (Wseq (Wreg ?_)))); refine au 1 rfl <| rn (qn (Wret (br (qr (qr (br (qr ?_))))))); replace hc := hc.m [13, 11, 9, 7, 5, 3, 1]; obtain rfl := sj hp; exact fz R6 M6 (k _ hc)
                                   · replace hp := gpos hp hb219; subst hb219; refine au 2 rfl <| rn (qn (Wcf rfl (Wskip (bn (qn (Wreg ?_)))))); refine au 3 rfl <| rn (qn ?_); replace hc := hc.m [13, 11, 9, 7, 5, 4, 2, 4]; exact ⟨m2, Nat.lt_succ_self _, ⟨j83, j84, (IntKind.i64.wrap (j25 + 1)), rfl, hp, hc⟩, (kl rfl (km rfl (kl rfl (km rfl (kl rfl k0)))))⟩
                                 · replace hp := gpos hp hb216; (iterate 6 refine r0 rfl ?_); refine au 1 rfl <| rn (qn (Wct rfl (Wseq (Wreg ?_)))); refine au 1 rfl <| rn (qn (Wret (br (qr (qr (br (qr ?_))))))); replace hc := hc.m [13, 11, 9, 7, 5, 3, 1]; obtain rfl := sj hp; exact fz R6 M6 (k _ hc)
                               · replace hp := h; clear h; refine Wskip (qn (Wseq (Wblk (Wseq (Wreg ?_))))); refine au 3 rfl ?_; refine fq 1 U53 Z51 G51 hc 0 ?_; refine au 1 rfl ?_; replace hp := bind_some hp; obtain ⟨y220, hy220, hp⟩ := hp; obtain ⟨b223, o224, rfl, hi221, hi222⟩ := hc.ra 1 reads_own hy220; refine sz (ixx rfl rfl U51 Z57 hi221 hi222 rfl) <| sz (v := .pointer (some ⟨b223, o224 + (j199).toNat * 5 + 0, none⟩)) (fax 0 rfl U57 rfl Z30 rfl rfl rfl) ?_; replace hc := Ctx.rdCell hc (k := 1) rfl rfl reads_own hy220; obtain ⟨cs226, hc, hcell227⟩ := hc; replace hc := S_ref12_Row.op hc; obtain ⟨a229, q230, a231, q232, u228, hc⟩ := hc; subst u228; refine sz (v := .agg (S_api_Spot.cz y220.At).toArray) (ldg rfl G30 Z30 rfl (elCells hcell227 0 (vs := (S_api_Spot.cz y220.At)) rfl)) ?_; replace hp := bind_some hp; obtain ⟨r233, hr233, hp⟩ := hp; replace hc := hc.m [8]; refine kz C15 ?_; refine cache_Store_Get_any (x1 := y220.At) hc hr233 ?_; clear hc; intro a234 n235 q236 a237 n238 q239 w240 hc; obtain rfl := hc.rz 0 reads_own; obtain rfl := hc.rz 1 reads_own; refine au 7 rfl <| rn (qn (Wseq (Wreg ?_))); refine au 1 rfl ?_; cases hb243 : r233.2.2
                                 · replace hp := gneg hp (by rw [hb243]; exact Bool.false_ne_true); refine au 2 rfl ?_; (iterate 11 refine r0 rfl ?_); refine au 2 rfl ?_; (iterate 11 refine r0 rfl ?_); refine au 1 rfl <| rn (qn (Wct rfl (Wseq (Wreg ?_)))); refine au 1 rfl <| rn (qn (Wret (br (qr (qr (br (qr (br (qr (qr (br ?_))))))))))); refine qr ?_; replace hc := hc.m [19, 17, 15, 13, 11, 9, 7, 5, 3, 1]; obtain rfl := sj hp; exact fz R6 M6 (k _ hc)
                                 · replace hp := gpos hp hb243; refine au 5 rfl ?_; refine fq 1 U53 Z51 G51 hc 5 ?_; refine au 1 rfl ?_; replace hp := bind_some hp; obtain ⟨y244, hy244, hp⟩ := hp; obtain ⟨b247, o248, -, hi245, hi246⟩ := hc.ra 6 reads_own hy244; refine sz (ixx rfl rfl U51 Z57 hi245 hi246 rfl) <| sz (v := .pointer (some ⟨b223, o224 + (j199).toNat * 5 + 3, none⟩)) (fax 3 rfl U57 rfl Z31 rfl rfl rfl) ?_; replace hc := Ctx.rdCell hc (k := 6) rfl rfl reads_own hy244; obtain ⟨cs250, hc, hcell251⟩ := hc; replace hc := S_ref12_Row.op hc; obtain ⟨a253, q254, a255, q256, u252, hc⟩ := hc; subst u252; refine sz (ld rfl G31 (hcell251 3 _ rfl)) ?_; replace hc := hc.dz 0; replace hp := bind_some hp; obtain ⟨r257, hr257, hp⟩ := hp; replace hc := hc.m [6]; refine kz C16 ?_; refine ref04_Bytes_any reads_own reads_ro hc hr257 ?_; clear hc; intro w258 hc; cases hb259 : r257
                                   · replace hp := gneg hp (by rw [hb259]; exact Bool.false_ne_true); subst hb259; refine au 3 rfl ?_; (iterate 11 refine r0 rfl ?_); refine au 1 rfl <| rn (qn (Wct rfl (Wseq (Wreg ?_)))); refine au 1 rfl <| rn (qn (Wret (br (qr (qr (br (qr (br (qr (qr (br ?_))))))))))); refine qr ?_; replace hc := hc.m [25, 23, 21, 19, 17, 15, 13, 11, 9, 7, 5, 3, 1]; obtain rfl := sj hp; exact fz R6 M6 (k _ hc)
                                   · replace hp := gpos hp hb259; subst hb259; refine au 6 rfl ?_; refine fq 1 U53 Z51 G51 hc 8 ?_; refine au 1 rfl ?_; replace hp := bind_some hp; obtain ⟨y260, hy260, hp⟩ := hp; obtain ⟨b263, o264, -, hi261, hi262⟩ := hc.ra 9 reads_own hy260; refine sz (ixx rfl rfl U51 Z57 hi261 hi262 rfl) <| sz (v := .pointer (some ⟨b223, o224 + (j199).toNat * 5 + 4, none⟩)) (fax 4 rfl U57 rfl Z31 rfl rfl rfl) ?_; replace hc := Ctx.rdCell hc (k := 9) rfl rfl reads_own hy260; obtain ⟨cs266, hc, hcell267⟩ := hc; replace hc := S_ref12_Row.op hc; obtain ⟨a269, q270, a271, q272, u268, hc⟩ := hc; subst u268; refine sz (ld rfl G31 (hcell267 4 _ rfl)) ?_; replace hc := hc.dz 1; replace hp := bind_some hp; obtain ⟨r273, hr273, hp⟩ := hp; replace hc := hc.m [14]; refine kz C16 ?_; refine ref04_Bytes_any reads_own reads_ro hc hr273 ?_; clear hc; intro w274 hc; cases hb275 : r273
                                     · replace hp := gneg hp (by rw [hb275]; exact Bool.false_ne_true); subst hb275; refine au 2 rfl <| rn (qn (Wct rfl (Wseq (Wreg ?_)))); refine au 1 rfl <| rn (qn (Wret (br (qr (qr (br (qr (br (qr (qr (br ?_))))))))))); refine qr ?_; replace hc := hc.m [31, 29, 27, 25, 23, 21, 19, 17, 15, 13, 11, 9, 7, 5, 3, 1]; obtain rfl := sj hp; exact fz R6 M6 (k _ hc)
                                     · replace hp := gpos hp hb275; subst hb275; refine au 2 rfl <| rn (qn (Wcf rfl (Wskip (bn (qn (Wreg ?_)))))); refine au 3 rfl <| rn (qn ?_); replace hc := hc.m [24, 24]; replace hc := S_ref12_Store.fd (x := j83) hc; replace hc := hc.m [23, 21, 17, 15, 13, 11, 9, 7, 5, 3, 10, 10, 10, 10, 8, 10]; exact ⟨m7, Nat.lt_succ_self _, ⟨(IntKind.i64.wrap (j199 + 1)), rfl, hp, hc⟩, (kl rfl k0)⟩
                           · replace hp := h; clear h; refine Wseq (Wreg ?_); refine au 1 rfl <| rn (qn (Wret (qr (br (qr (qr (br (qr ?_)))))))); replace hc := hc.m [11, 9, 7, 5, 3, 1]; obtain rfl := sj hp; exact fz R6 M6 (k _ hc)
                         · replace hp := gpos hp (of_decide_eq_true hb195); (iterate 4 refine d0 rfl rfl ?_); refine ad_ 1 rfl <| dn (qn (Wct rfl (Wseq (Wreg ?_)))); refine au 1 rfl <| rn (qn (Wret (qr (br (qr (qr (br (qr ?_)))))))); replace hc := hc.m [11, 9, 7, 5, 3, 1]; obtain rfl := sj hp; exact fz R6 M6 (k _ hc)
                       · replace hp := gpos hp (of_decide_eq_true hb192); (iterate 4 refine d0 rfl rfl ?_); refine ad_ 2 rfl ?_; (iterate 4 refine d0 rfl rfl ?_); refine ad_ 1 rfl <| dn (qn (Wct rfl (Wseq (Wreg ?_)))); refine au 1 rfl <| rn (qn (Wret (qr (br (qr (qr (br (qr ?_)))))))); replace hc := hc.m [11, 9, 7, 5, 3, 1]; obtain rfl := sj hp; exact fz R6 M6 (k _ hc)
                   · replace hp := h; clear h; refine Wseq (Wreg ?_); refine au 1 rfl <| rn (qn (Wret (qr (br (qr (qr (br (qr ?_)))))))); replace hc := hc.m [9, 7, 5, 3, 1]; obtain rfl := sj hp; exact fz R6 M6 (k _ hc)
                 · replace hp := gpos hp (of_decide_eq_true hb81); (iterate 4 refine r0 rfl ?_); refine au 1 rfl <| rn (qn (Wct rfl (Wseq (Wreg ?_)))); refine au 1 rfl <| rn (qn (Wret (qr (br (qr (qr (br (qr ?_)))))))); replace hc := hc.m [9, 7, 5, 3, 1]; obtain rfl := sj hp; exact fz R6 M6 (k _ hc)
           · replace hp := h; clear h; refine Wseq (Wreg ?_); refine au 1 rfl <| rn (qn (Wret (qr ?_))); replace hc := hc.m [1]; obtain rfl := sj hp; exact fz R6 M6 (k _ hc)
       · replace hp := gpos hp hb13; subst hb13; refine Wct rfl (Wseq (Wreg ?_)); refine au 1 rfl ?_; cases hb276 : r7.1
         · replace hp := optN hp hb276; rw [hb276] at hc; replace hc := Ctx.ptoN hc; obtain ⟨u278, hc⟩ := hc; subst u278; refine sz (v := .bool true) (ept U24 rfl rfl) <| au 5 rfl <| rn (qn (Wret (qr ?_))); obtain rfl := sj hp; exact fz R6 M6 (k _ hc)
         · rename_i y277; replace hp := optS hp hb276; rw [hb276] at hc; replace hc := Ctx.ptoS hc; obtain ⟨b279, u280, hc⟩ := hc; subst u280; refine sz (v := .bool false) (epf U24 rfl rfl) <| au 1 rfl ?_; (iterate 2 refine r0 rfl ?_); refine au 2 rfl <| rn (qn (Wret (qr ?_))); replace hc := hc.m [1]; obtain rfl := sj hp; exact fz R6 M6 (k _ hc)
   · replace hp := h; clear h; refine Wseq (Wreg ?_); replace hp := bind_some hp; obtain ⟨r281, hr281, hp⟩ := hp; refine kz C7 ?_; refine law12_awake_any hc hr281 ?_; clear hc; intro w282 hc; refine au 1 rfl <| rn (qn (Wret (qr ?_))); obtain rfl := sj hp; exact fz R6 M6 (k _ hc)

end Go.Proofs.Ytdalpckomnkilaa
end
section
namespace Go.Hp
open Go
theorem W_in {x : Int} (h : -9223372036854775808 ≤ x ∧ x ≤ 9223372036854775807) : IntKind.i64.wrap x = x := IntWalk.i64_in x h
theorem W_succ (k : Nat) (h : k < 4611686018427387904) : IntKind.i64.wrap ((k : Int) + 1) = ((k + 1 : Nat) : Int) := by rw [W_in (by omega)]; rfl
theorem idx_nat {α : Type} (xs : List α) (k : Nat) : idx xs (k : Int) = xs[k]? := by simp [idx]
theorem idx_get {α : Type} (xs : List α) (k : Nat) (h : k < xs.length) : idx xs (k : Int) = some xs[k] := by rw [idx_nat, List.getElem?_eq_getElem h]
theorem app_ok {α : Type} (xs ys : List α) (h : xs.length + ys.length ≤ 4294967296) : app xs ys = some (xs ++ ys) := by unfold app; rw [if_pos h]
theorem chk_ok {α : Type} {p : Prop} [Decidable p] (x : Option α) (h : p) : chk p x = x := by unfold chk; rw [if_pos h]
end Go.Hp
namespace Go.Hp
def tabl {α : Type} (n : Nat) (f : Nat → α) : List α := (List.range n).map f
theorem tabl_len {α : Type} (n : Nat) (f : Nat → α) : (tabl n f).length = n := by simp [tabl]
theorem tabl_get? {α : Type} {n : Nat} {f : Nat → α} {i : Nat} (h : i < n) : (tabl n f)[i]? = some (f i) := by simp [tabl, h]
end Go.Hp
end
section
namespace Go.Hp
open Go
set_option linter.unusedVariables false
set_option linter.unusedSimpArgs false
set_option linter.unusedSectionVars false
theorem optc_some {α β : Type} (x : α) (a : Option β) (f : α → Option β) : optc (some x) a f = f x := rfl
section
variable {κ β : Type} [DecidableEq κ]
theorem mget_mset (l : List (κ × β)) (k q : κ) (x : β) : mget (mset l k x) q = if q = k then some x else mget l q := by
  induction l with
  | nil => simp only [mset, mget]; by_cases h : q = k
           · subst h; simp
           · rw [if_neg (fun e => h e.symm), if_neg h]
  | cons p l ih =>
    obtain ⟨k', x'⟩ := p
    simp only [mset]
    by_cases hk : k' = k
    · subst hk
      simp only [if_true, mget]
      by_cases h : q = k'
      · subst h; simp
      · rw [if_neg (fun e => h e.symm), if_neg h, if_neg (fun e => h e.symm)]
    · simp only [hk, if_false, mget, ih]
      by_cases h : k' = q
      · subst h; simp [hk]
      · simp [h]
theorem mget_none {l : List (κ × β)} {k : κ} : mget l k = none ↔ k ∉ l.map Prod.fst := by
  induction l with
  | nil => simp [mget]
  | cons p l ih =>
    obtain ⟨k', x'⟩ := p
    simp only [mget]
    by_cases hk : k' = k
    · subst hk; simp
    · simp only [hk, if_false, ih, List.map_cons, List.mem_cons, not_or]
      exact ⟨fun h => ⟨fun e => hk e.symm, h⟩, fun h => h.2⟩
theorem mget_mem {l : List (κ × β)} {k : κ} {x : β} (h : mget l k = some x) : (k, x) ∈ l := by
  induction l with
  | nil => simp [mget] at h
  | cons p l ih =>
    obtain ⟨k', x'⟩ := p
    simp only [mget] at h
    by_cases hk : k' = k
    · subst hk; simp at h; subst h; simp
    · simp only [hk, if_false] at h; simp [ih h]
theorem mget_of_mem {l : List (κ × β)} (hn : (l.map Prod.fst).Nodup) {k : κ} {x : β} (h : (k, x) ∈ l) : mget l k = some x := by
  obtain ⟨j, hj⟩ := List.getElem?_of_mem h
  exact mget_at hn hj
theorem keys_mset (l : List (κ × β)) (k : κ) (x : β) : (mset l k x).map Prod.fst = if k ∈ l.map Prod.fst then l.map Prod.fst else l.map Prod.fst ++ [k] := by
  induction l with
  | nil => simp [mset]
  | cons p l ih =>
    obtain ⟨k', x'⟩ := p
    simp only [mset]
    by_cases hk : k' = k
    · subst hk; simp
    · simp only [hk, if_false, List.map_cons, ih, List.mem_cons]
      by_cases h : k ∈ l.map Prod.fst
      · rw [if_pos h, if_pos (.inr h)]
      · rw [if_neg h, if_neg (fun q => q.elim (fun e => hk e.symm) h)]; rfl
theorem nodup_mset {l : List (κ × β)} (h : (l.map Prod.fst).Nodup) (k : κ) (x : β) : ((mset l k x).map Prod.fst).Nodup := by
  rw [keys_mset]
  split
  · exact h
  · rename_i hk
    rw [List.nodup_append]
    exact ⟨h, by simp, fun a ha b hb e => by simp at hb; subst hb; subst e; exact hk ha⟩
theorem len_mset (l : List (κ × β)) (k : κ) (x : β) : (mset l k x).length = if k ∈ l.map Prod.fst then l.length else l.length + 1 := by
  have := congrArg List.length (keys_mset l k x)
  rw [List.length_map] at this
  rw [this]
  split <;> simp
theorem remK_len (l : List (κ × β)) (seen : List κ) (hn : (l.map Prod.fst).Nodup) {k : κ} (hk : k ∈ remK l seen) : (remK l (k :: seen)).length < (remK l seen).length := by
  have h1 : remK l (k :: seen) = (remK l seen).filter (fun q => decide (q ≠ k)) := by
    unfold remK
    rw [List.filter_filter]
    apply List.filter_congr
    intro q _
    simp [List.mem_cons, not_or, and_comm]
  rw [h1]
  have := List.length_filter_lt_length_iff_exists (l := remK l seen) (p := fun q => decide (q ≠ k))
  rw [this]
  exact ⟨k, hk, by simp⟩
theorem remK_all (l : List (κ × β)) : remK l [] = l.map Prod.fst := by simp [remK]
end
end Go.Hp
end
section
namespace Go.Proofs.Ytdalpckomnkilaa
open Go Go.Hp
set_option linter.unusedVariables false
set_option linter.unusedSimpArgs false
theorem awake12 : law12_awake 1000 = some true := by decide +kernel
theorem index_loop (xs : List Int) (v : Int) (hx : xs.length < 1000) : ∀ (d m k : Nat), k + d = xs.length → d < m → ∃ r, slices_Index_s_int_int.L1 xs v m (k : Int) = some r ∧ (0 ≤ r ↔ v ∈ xs.drop k) := by
  intro d
  induction d with
  | zero =>
    intro m k hk hm
    obtain ⟨m, rfl⟩ : ∃ q, m = q + 1 := ⟨m - 1, by omega⟩
    rw [slices_Index_s_int_int.L1, if_neg (by omega), List.drop_of_length_le (by omega)]
    exact ⟨_, rfl, by simp⟩
  | succ d ih =>
    intro m k hk hm
    obtain ⟨m, rfl⟩ : ∃ q, m = q + 1 := ⟨m - 1, by omega⟩
    have hlt : k < xs.length := by omega
    obtain ⟨r, h1, h2⟩ := ih m (k + 1) (by omega) (by omega)
    rw [slices_Index_s_int_int.L1, if_pos (by omega), idx_get _ _ hlt, List.drop_eq_getElem_cons hlt]
    simp only [Option.bind_some]
    by_cases e : v = xs[k]
    · rw [if_pos e]; exact ⟨(k : Int), rfl, ⟨fun _ => by rw [e]; exact List.mem_cons_self, fun _ => by omega⟩⟩
    · rw [if_neg e, W_succ k (by omega)]
      refine ⟨r, h1, ?_⟩
      rw [h2, List.mem_cons]
      exact ⟨.inr, fun h => h.resolve_left e⟩
theorem contains_eq (xs : List Int) (v : Int) (hx : xs.length < 1000) : slices_Contains_s_int_int 1000 xs v = some (decide (v ∈ xs)) := by
  obtain ⟨r, h1, h2⟩ := index_loop xs v hx xs.length 1000 0 (by omega) (by omega)
  rw [slices_Contains_s_int_int, slices_Index_s_int_int, show (0 : Int) = ((0 : Nat) : Int) from rfl, h1]
  simp only [Option.bind_some, ge_iff_le, List.drop_zero] at h2 ⊢
  congr 1
  exact decide_eq_decide.2 h2
theorem clone_eq (xs : List Int) (hx : xs.length ≤ 4294967296) : slices_Clone_s_int8_int8 xs = some xs := by
  rw [slices_Clone_s_int8_int8, app_ok _ _ (by simpa using hx)]; rfl
def aheadB (x : S_cache_Store) (at_ : S_api_Spot) : Bool := if at_.Place = 0 then true else (mget x.m ⟨at_.Request, at_.Layer, IntKind.i64.wrap (at_.Place - 1)⟩).isSome
def putF (x : S_cache_Store) (at_ : S_api_Spot) (k v : List Int) : Int × S_cache_Store :=
  if at_.Request < 0 ∨ at_.Layer < 0 ∨ at_.Place < 0 then (2, x)
  else if k.length ≠ v.length then (30, x)
  else if aheadB x at_ = false then (120, x)
  else match mget x.m at_ with
    | some o => if o.k = k ∧ o.v = v then (0, x) else (2, x)
    | none => if ((x.m.length : Nat) : Int) ≥ x.room then (80, x) else (0, ⟨x.room, mset x.m at_ ⟨k, v⟩⟩)
theorem get_eq (x : S_cache_Store) (at_ : S_api_Spot) (hs : ∀ p ∈ x.m, p.2.k.length < 1000 ∧ p.2.v.length < 1000) : cache_Store_Get x at_ = some (match mget x.m at_ with | some o => (o.k, o.v, true) | none => ([], [], false)) := by
  have heta : (⟨at_.Request, at_.Layer, at_.Place⟩ : S_api_Spot) = at_ := rfl
  rw [cache_Store_Get]
  simp only [heta, Option.bind_some]
  cases h6 : mget x.m at_ with
  | none => simp [clone_eq]
  | some o =>
    have hm := hs _ (mget_mem h6)
    have hm1 : o.k.length < 1000 := hm.1
    have hm2 : o.v.length < 1000 := hm.2
    simp only [Option.getD_some, clone_eq o.k (by omega), clone_eq o.v (by omega), Option.bind_some, Option.isSome_some]
def LineN (x : S_cache_Store) (r l : Int) (n : Nat) : Prop := (∀ j : Nat, j < n → (mget x.m ⟨r, l, (j : Int)⟩).isSome = true) ∧ mget x.m ⟨r, l, (n : Int)⟩ = none
def rowAt (x : S_cache_Store) (r l : Int) (j : Nat) : S_cache_rows := (mget x.m ⟨r, l, (j : Int)⟩).getD ⟨[], []⟩
theorem line_loop (x : S_cache_Store) (r l : Int) (hs : ∀ p ∈ x.m, p.2.k.length < 1000 ∧ p.2.v.length < 1000) (n : Nat) (hn : n < 1000) (hL : LineN x r l n) : ∀ (d m j : Nat), j + d = n → d < m →
    cache_Store_Line.L1 x r l m (tabl j fun q => (rowAt x r l q).k) (tabl j fun q => (rowAt x r l q).v) (j : Int) = some (tabl n fun q => (rowAt x r l q).k, tabl n fun q => (rowAt x r l q).v) := by
  intro d
  induction d with
  | zero =>
    intro m j hj hm
    obtain ⟨m, rfl⟩ : ∃ q, m = q + 1 := ⟨m - 1, by omega⟩
    have : j = n := by omega
    subst this
    rw [cache_Store_Line.L1, get_eq _ _ hs, hL.2]
    simp
  | succ d ih =>
    intro m j hj hm
    obtain ⟨m, rfl⟩ : ∃ q, m = q + 1 := ⟨m - 1, by omega⟩
    have h1 := hL.1 j (by omega)
    obtain ⟨o, ho⟩ := Option.isSome_iff_exists.1 h1
    have hr : rowAt x r l j = o := by simp [rowAt, ho]
    rw [cache_Store_Line.L1, get_eq _ _ hs, ho]
    simp only [Option.bind_some, if_true]
    have ht : ∀ (f : Nat → List Int), tabl (j + 1) f = tabl j f ++ [f j] := fun f => by simp [tabl, List.range_succ]
    rw [app_ok _ _ (by simp [tabl]; omega), app_ok _ _ (by simp [tabl]; omega)]
    simp only [Option.bind_some, W_succ j (by omega)]
    have := ih m (j + 1) (by omega) (by omega)
    rw [ht, ht, hr] at this
    exact this
theorem line_eq (x : S_cache_Store) (r l : Int) (hs : ∀ p ∈ x.m, p.2.k.length < 1000 ∧ p.2.v.length < 1000) (n : Nat) (hn : n < 1000) (hL : LineN x r l n) : cache_Store_Line 1000 x r l = some (tabl n fun q => (rowAt x r l q).k, tabl n fun q => (rowAt x r l q).v) :=
  line_loop x r l hs n hn hL n 1000 0 (by omega) hn
theorem nodup_len {α : Type} [DecidableEq α] : ∀ {l1 l2 : List α}, l1.Nodup → (∀ a ∈ l1, a ∈ l2) → l1.length ≤ l2.length
  | [], _, _, _ => by simp
  | a :: l1, l2, hn, hs => by
    have ha := hs a (by simp)
    have h1 := List.length_erase_of_mem ha
    have h2 := List.length_pos_of_mem ha
    have h3 := nodup_len (l1 := l1) (l2 := l2.erase a) (List.nodup_cons.1 hn).2 fun b hb => (List.mem_erase_of_ne (show b ≠ a from fun e => (List.nodup_cons.1 hn).1 (by rw [← e]; exact hb))).2 (hs b (by simp [hb]))
    simp only [List.length_cons]
    omega
theorem line_ex (x : S_cache_Store) (r l : Int) : ∃ n, n ≤ x.m.length ∧ LineN x r l n := by
  -- else there would be more keys than entries
  have key : ∀ n : Nat, (∀ j : Nat, j < n → (mget x.m ⟨r, l, (j : Int)⟩).isSome = true) → n ≤ x.m.length := by
    intro n h
    have hsub : ((List.range n).map fun j : Nat => (⟨r, l, (j : Int)⟩ : S_api_Spot)).Nodup := by
      rw [List.Nodup, List.pairwise_map]
      have himp : ∀ {a b : Nat}, a ≠ b → (⟨r, l, (a : Int)⟩ : S_api_Spot) ≠ ⟨r, l, (b : Int)⟩ := fun {a b} hab e => hab (by injection e with _ _ e; omega)
      exact List.Pairwise.imp himp (List.nodup_range (n := n))
    have h2 := nodup_len hsub (l2 := x.m.map Prod.fst) (fun k hk => by
      obtain ⟨j, hj, rfl⟩ := List.mem_map.1 hk
      obtain ⟨o, ho⟩ := Option.isSome_iff_exists.1 (h j (List.mem_range.1 hj))
      exact List.mem_map.2 ⟨_, mget_mem ho, rfl⟩)
    simpa using h2
  -- the least one
  have least : ∀ (d n : Nat), n + d = x.m.length + 1 → (∀ j : Nat, j < n → (mget x.m ⟨r, l, (j : Int)⟩).isSome = true) → ∃ n, n ≤ x.m.length ∧ LineN x r l n := by
    intro d
    induction d with
    | zero => intro n hn h; have := key n h; omega
    | succ d ih =>
      intro n hn h
      cases hg : mget x.m ⟨r, l, (n : Int)⟩ with
      | none => exact ⟨n, key n h, h, hg⟩
      | some o =>
        refine ih (n + 1) (by omega) (fun j hj => ?_)
        by_cases hjn : j = n
        · rw [hjn, hg]; rfl
        · exact h j (by omega)
  exact least (x.m.length + 1) 0 (by omega) (fun j hj => by omega)
theorem mdel_filter {κ β : Type} [DecidableEq κ] {l : List (κ × β)} (hn : (l.map Prod.fst).Nodup) (k : κ) : mdel l k = l.filter fun p => decide (p.1 ≠ k) := by
  induction l with
  | nil => rfl
  | cons p l ih =>
    obtain ⟨k', x'⟩ := p
    simp only [List.map_cons, List.nodup_cons] at hn
    by_cases hk : k' = k
    · subst hk
      simp only [mdel, if_true, List.filter_cons, ne_eq, not_true_eq_false, decide_false, Bool.false_eq_true, if_false]
      symm
      apply List.filter_eq_self.2
      intro p hp
      have : p.1 ≠ k' := fun e => hn.1 (by rw [← e]; exact List.mem_map.2 ⟨p, hp, rfl⟩)
      simp [this]
    · simp only [mdel, hk, if_false, List.filter_cons, ne_eq, not_false_eq_true, decide_true, if_true, ih hn.2]
theorem delf_loop (l0 : List (S_api_Spot × S_cache_rows)) (hn : (l0.map Prod.fst).Nodup) (g : S_api_Spot → S_cache_rows → Option Bool) (f : S_api_Spot → Bool) (hg : ∀ k v, g k v = some (f k)) : ∀ (d m : Nat) (seen : List S_api_Spot), (remK l0 seen).length ≤ d → d < m →
    maps_DeleteFunc_map_api_Spot_cache_rows_api_Spot_cache_rows.L1 g m (l0.filter fun p => !(decide (p.1 ∈ seen) && f p.1)) seen = some (l0.filter fun p => !f p.1) := by
  have hnf : ∀ q : S_api_Spot × S_cache_rows → Bool, ((l0.filter q).map Prod.fst).Nodup := fun q => hn.sublist ((List.filter_sublist (l := l0)).map _)
  have hrem : ∀ seen : List S_api_Spot, remK (l0.filter fun p => !(decide (p.1 ∈ seen) && f p.1)) seen = remK l0 seen := by
    intro seen
    unfold remK
    rw [List.filter_map, List.filter_map, List.filter_filter]
    congr 1
    apply List.filter_congr
    intro p _
    simp only [Function.comp]
    by_cases h : p.1 ∈ seen <;> simp [h]
  have hdone : ∀ seen : List S_api_Spot, remK l0 seen = [] → (l0.filter fun p => !(decide (p.1 ∈ seen) && f p.1)) = l0.filter fun p => !f p.1 := by
    intro seen h
    apply List.filter_congr
    intro p hp
    have : p.1 ∈ seen := by
      apply Classical.byContradiction
      intro hc
      have : p.1 ∈ remK l0 seen := mem_remK.2 ⟨List.mem_map.2 ⟨p, hp, rfl⟩, hc⟩
      rw [h] at this; cases this
    simp [this]
  intro d
  induction d with
  | zero =>
    intro m seen hd hm
    obtain ⟨m, rfl⟩ : ∃ q, m = q + 1 := ⟨m - 1, by omega⟩
    have h0 : remK l0 seen = [] := List.eq_nil_of_length_eq_zero (by omega)
    rw [maps_DeleteFunc_map_api_Spot_cache_rows_api_Spot_cache_rows.L1, hrem, h0, anyK, hdone seen h0]
  | succ d ih =>
    intro m seen hd hm
    obtain ⟨m, rfl⟩ : ∃ q, m = q + 1 := ⟨m - 1, by omega⟩
    rw [maps_DeleteFunc_map_api_Spot_cache_rows_api_Spot_cache_rows.L1, hrem]
    by_cases h0 : remK l0 seen = []
    · rw [h0, anyK, hdone seen h0]
    · refine anyK_eq (fun k hk => ?_) h0
      have hkm := mem_remK.1 hk
      obtain ⟨⟨k', e⟩, hp, hke⟩ := List.mem_map.1 hkm.1
      simp only at hke; subst hke
      have hg2 : mget (l0.filter fun p => !(decide (p.1 ∈ seen) && f p.1)) k' = some e := mget_of_mem (hnf _) (List.mem_filter.2 ⟨hp, by simp [hkm.2]⟩)
      have hlen := remK_len l0 seen hn hk
      have hnext := ih m (k' :: seen) (by omega) (by omega)
      have heta : (⟨k'.Request, k'.Layer, k'.Place⟩ : S_api_Spot) = k' := rfl
      simp only [hg2, Option.bind_some, hg, heta]
      split
      · rename_i hf
        rw [mdel_filter (hnf _), List.filter_filter, ← hnext]
        congr 1
        apply List.filter_congr
        intro p _
        by_cases hpk : p.1 = k'
        · simp [hpk, hf]
        · simp [hpk]
      · rename_i hf
        rw [← hnext]
        congr 1
        apply List.filter_congr
        intro p _
        by_cases hpk : p.1 = k'
        · simp [hpk, hf]
        · simp [hpk]
theorem drop_eq (x : S_cache_Store) (rs : List Int) (hn : (x.m.map Prod.fst).Nodup) (hl : x.m.length < 1000) (hr : rs.length < 1000) :
    cache_Store_Drop 1000 x rs = some (((x.m.length - (x.m.filter fun p => !decide (p.1.Request ∈ rs)).length : Nat) : Int), ⟨x.room, x.m.filter fun p => !decide (p.1.Request ∈ rs)⟩) := by
  have h := delf_loop x.m hn (fun y6 _ => (slices_Contains_s_int_int 1000 rs y6.Request).bind fun r22 => some r22) (fun k => decide (k.Request ∈ rs)) (fun k v => by rw [contains_eq _ _ hr]; rfl) x.m.length 1000 [] (by rw [remK_all]; simp) hl
  have h2 : maps_DeleteFunc_map_api_Spot_cache_rows_api_Spot_cache_rows 1000 x.m (fun (y6 : S_api_Spot) (y7 : S_cache_rows) => (slices_Contains_s_int_int 1000 rs y6.Request).bind fun r22 => some r22) = some (x.m.filter fun p => !decide (p.1.Request ∈ rs)) := by
    rw [maps_DeleteFunc_map_api_Spot_cache_rows_api_Spot_cache_rows, chk_ok _ hn, ← h]
    congr 1
    exact (List.filter_eq_self.2 (fun p _ => by simp)).symm
  rw [cache_Store_Drop, h2]
  have hle := List.length_filter_le (fun p : S_api_Spot × S_cache_rows => !decide (p.1.Request ∈ rs)) x.m
  simp only [Option.bind_some]
  rw [W_in (by omega)]
  congr 2
  omega
end Go.Proofs.Ytdalpckomnkilaa
end
section
namespace Go.Hp
open Go
set_option linter.unusedVariables false
set_option linter.unusedSimpArgs false
theorem loop_c {σ ρ : Type} (F : Nat → σ → Int → ρ) (c : Nat → σ) (n : Nat) (r : ρ) (hs : ∀ m i, i < n → F (m + 1) (c i) (i : Int) = F m (c (i + 1)) ((i + 1 : Nat) : Int)) (he : ∀ m, F (m + 1) (c n) (n : Int) = r) : ∀ m, n < m → F m (c 0) 0 = r := by
  have key : ∀ d m i, i + d = n → d < m → F m (c i) (i : Int) = r := by
    intro d
    induction d with
    | zero =>
      intro m i hi hm
      obtain ⟨m, rfl⟩ : ∃ q, m = q + 1 := ⟨m - 1, by omega⟩
      obtain rfl : i = n := by omega
      exact he m
    | succ d ih =>
      intro m i hi hm
      obtain ⟨m, rfl⟩ : ∃ q, m = q + 1 := ⟨m - 1, by omega⟩
      rw [hs m i (by omega)]
      exact ih m (i + 1) (by omega) (by omega)
  intro m hm
  exact key n m 0 (by omega) hm
theorem mdel_filter {κ β : Type} [DecidableEq κ] {l : List (κ × β)} (hn : (l.map Prod.fst).Nodup) (k : κ) : mdel l k = l.filter fun p => decide (p.1 ≠ k) := by
  induction l with
  | nil => rfl
  | cons p l ih =>
    obtain ⟨k', x'⟩ := p
    simp only [List.map_cons, List.nodup_cons] at hn
    by_cases hk : k' = k
    · subst hk
      simp only [mdel, if_true, List.filter_cons, ne_eq, not_true_eq_false, decide_false, Bool.false_eq_true, if_false]
      symm
      rw [List.filter_eq_self]
      intro p hp
      simp only [decide_eq_true_eq]
      intro e
      exact hn.1 (by rw [← e]; exact List.mem_map.2 ⟨p, hp, rfl⟩)
    · simp only [mdel, hk, if_false, List.filter_cons, ne_eq, not_false_eq_true, decide_true, if_true, ih hn.2]
end Go.Hp
end
section
namespace Go.Hp
open Go
set_option linter.unusedVariables false
theorem idx_t {α : Type} {n : Nat} (f : Nat → α) {k : Nat} (h : k < n) : idx (tabl n f) (k : Int) = some (f k) := by rw [idx_nat, tabl_get? h]
theorem idx_d {α : Type} (l : List α) (d : α) {k : Nat} (h : k < l.length) : idx l (k : Int) = some (l.getD k d) := by
  rw [idx_get l k h, List.getD_eq_getElem?_getD, List.getElem?_eq_getElem h]; rfl
end Go.Hp
end
section
namespace Go.Proofs.Ytdalpckomnkilaa
open Go Go.Hp
set_option linter.unusedVariables false
set_option linter.unusedSimpArgs false
def wf64 (z : Int) : Prop := (Lit.int .i64 z).wf = true
def uniq : List Int → List Int
  | [] => []
  | z :: l => if z ∈ uniq l then uniq l else z :: uniq l
theorem uniq_mem (z : Int) : ∀ l : List Int, z ∈ uniq l ↔ z ∈ l
  | [] => Iff.rfl
  | x :: l => by
    unfold uniq
    split
    · rename_i h
      rw [uniq_mem z l, List.mem_cons]
      exact ⟨.inr, fun q => q.elim (fun e => by rw [e]; exact (uniq_mem x l).1 h) id⟩
    · rw [List.mem_cons, List.mem_cons, uniq_mem z l]
theorem uniq_nodup : ∀ l : List Int, (uniq l).Nodup
  | [] => List.nodup_nil
  | x :: l => by
    unfold uniq
    split
    · exact uniq_nodup l
    · rename_i h
      exact List.nodup_cons.2 ⟨h, uniq_nodup l⟩
def reqS (l : List (S_api_Spot × S_cache_rows)) : List Int := (uniq (l.map fun p => p.1.Request)).mergeSort fun x y => decide (x ≤ y)
theorem reqS_mem (l : List (S_api_Spot × S_cache_rows)) (z : Int) : z ∈ reqS l ↔ ∃ p ∈ l, p.1.Request = z := by
  unfold reqS
  rw [(List.mergeSort_perm _ _).mem_iff, uniq_mem, List.mem_map]
theorem anyK_all {κ β : Type} [DecidableEq β] {ks : List κ} {a : Option β} {f : κ → Option β} {r : β} (h0 : ks = [] → a = some r) (h : ∀ k ∈ ks, f k = some r) : anyK ks a f = some r := by
  cases ks with
  | nil => exact h0 rfl
  | cons k ks =>
    unfold anyK
    dsimp only
    rw [if_pos]
    · exact h k (by simp)
    · rw [List.all_eq_true]
      intro k' hk'
      rw [decide_eq_true_eq, h k (by simp), h k' (by simp [hk'])]
theorem it_sorted_is {β : Type} {xs : List (Int × β)} (hn : (xs.map Prod.fst).Nodup) (hw : ∀ k ∈ xs.map Prod.fst, wf64 k) (hl : xs.length ≤ 4294967296) : it_sorted xs = some ((xs.map Prod.fst).mergeSort fun x y => decide (x ≤ y)) := if_pos ⟨hn, hw, hl⟩
theorem requests_loop (x : S_cache_Store) (hn : (x.m.map Prod.fst).Nodup) (hl : x.m.length < 1000) (hw : ∀ p ∈ x.m, wf64 p.1.Request) : ∀ (d m : Nat) (seen : List S_api_Spot) (has : List (Int × Bool)), (remK x.m seen).length ≤ d → d < m → seen.length + (remK x.m seen).length ≤ x.m.length → (∀ t ∈ seen, t ∈ x.m.map Prod.fst) → (has.map Prod.fst).Nodup → has.length ≤ seen.length → (∀ z, z ∈ has.map Prod.fst ↔ ∃ t ∈ seen, t.Request = z) →
    cache_Store_Requests.L1 x m seen has = some (reqS x.m) := by
  intro d
  induction d with
  | zero =>
    intro m seen has hr hm hs h1 h2 h3 h4
    obtain ⟨m, rfl⟩ : ∃ q, m = q + 1 := ⟨m - 1, by omega⟩
    have he : remK x.m seen = [] := List.eq_nil_of_length_eq_zero (by omega)
    rw [cache_Store_Requests.L1]
    refine anyK_all (fun _ => ?_) (fun k hk => by rw [he] at hk; cases hk)
    have hmem : ∀ z, z ∈ has.map Prod.fst ↔ z ∈ uniq (x.m.map fun p => p.1.Request) := fun z => by
      rw [h4 z, uniq_mem, List.mem_map]
      constructor
      · rintro ⟨t, ht, rfl⟩
        obtain ⟨p, hp, e⟩ := List.mem_map.1 (h1 t ht)
        exact ⟨p, hp, by rw [e]⟩
      · rintro ⟨p, hp, rfl⟩
        by_cases q : p.1 ∈ seen
        · exact ⟨p.1, q, rfl⟩
        · have : p.1 ∈ remK x.m seen := by
            unfold remK
            rw [List.mem_filter]
            exact ⟨List.mem_map.2 ⟨p, hp, rfl⟩, by simpa using q⟩
          rw [he] at this; cases this
    rw [it_sorted_is h2 (fun k hk => by
      obtain ⟨p, hp, e⟩ := List.mem_map.1 ((uniq_mem k _).1 ((hmem k).1 hk))
      rw [← e]; exact hw p hp) (by omega), Option.bind_some]
    unfold reqS
    rw [mergeSort_of_perm_i ((List.perm_ext_iff_of_nodup h2 (uniq_nodup _)).2 hmem)]
  | succ d ih =>
    intro m seen has hr hm hs h1 h2 h3 h4
    obtain ⟨m, rfl⟩ : ∃ q, m = q + 1 := ⟨m - 1, by omega⟩
    rw [cache_Store_Requests.L1]
    by_cases he : remK x.m seen = []
    · have := ih (m + 1) seen has (by rw [he]; exact Nat.zero_le _) (by omega) hs h1 h2 h3 h4
      rw [cache_Store_Requests.L1] at this
      exact this
    refine anyK_all (fun e => absurd e he) (fun k hk => ?_)
    have hkm : k ∈ x.m.map Prod.fst := by unfold remK at hk; exact (List.mem_filter.1 hk).1
    have hlt := remK_len x.m seen hn hk
    cases e : mget x.m k with
    | none => exact absurd hkm (mget_none.1 e)
    | some o =>
      rw [Option.bind_some]
      refine ih m (k :: seen) _ (by omega) (by omega) (by simp only [List.length_cons]; omega) (fun t ht => ?_) (nodup_mset h2 _ _) ?_ (fun z => ?_)
      · rcases List.mem_cons.1 ht with rfl | ht
        · exact hkm
        · exact h1 t ht
      · rw [len_mset]
        simp only [List.length_cons]
        split <;> omega
      · rw [keys_mset]
        have hz : ∀ L : List Int, (if k.Request ∈ has.map Prod.fst then has.map Prod.fst else has.map Prod.fst ++ [k.Request]) = L → (z ∈ L ↔ z ∈ has.map Prod.fst ∨ z = k.Request) := fun L hL => by
          subst hL
          split
          · rename_i q
            exact ⟨.inl, fun p => p.elim id fun e => by rw [e]; exact q⟩
          · simp
        rw [hz _ rfl, h4 z]
        constructor
        · rintro (⟨t, ht, rfl⟩ | rfl)
          · exact ⟨t, by simp [ht], rfl⟩
          · exact ⟨k, by simp, rfl⟩
        · rintro ⟨t, ht, rfl⟩
          rcases List.mem_cons.1 ht with rfl | ht
          · exact .inr rfl
          · exact .inl ⟨t, ht, rfl⟩
theorem requests_is (x : S_cache_Store) (hn : (x.m.map Prod.fst).Nodup) (hl : x.m.length < 1000) (hw : ∀ p ∈ x.m, wf64 p.1.Request) : cache_Store_Requests 1000 x = some (reqS x.m) := by
  unfold cache_Store_Requests
  rw [chk_ok _ hn]
  have hall : (remK x.m []).length = x.m.length := by rw [remK_all]; simp
  exact requests_loop x hn hl hw x.m.length 1000 [] [] (by omega) (by omega) (by simp only [List.length_nil]; omega) (fun t ht => by cases ht) List.nodup_nil (Nat.le_refl _) (fun z => by simp)
structure CS (i : Nat) (m : S_cache_Store) (k v : List Int) (L : List Int) : Prop where
  nod : (m.m.map Prod.fst).Nodup
  len : ∀ p ∈ m.m, p.2.k.length ≤ 100 ∧ p.2.v.length ≤ 100
  at_ : mget m.m ⟨3, 1, 0⟩ = some ⟨k, v⟩
  wf : ∀ p ∈ m.m, wf64 p.1.Request
  ml : m.m.length ≤ i + 1
  Ll : L.length ≤ i
  L : ∀ p ∈ m.m, p.1.Request = 3 ∨ p.1.Request ∈ L
theorem mset_new' {κ β : Type} [DecidableEq κ] {l : List (κ × β)} {k : κ} (hn : (l.map Prod.fst).Nodup) (h : mget l k = none) (x : β) (p : κ × β) (hp : p ∈ mset l k x) : p ∈ l ∨ p = (k, x) := by
  have hn' := nodup_mset hn k x
  have e := mget_of_mem hn' (k := p.1) (x := p.2) hp
  rw [mget_mset] at e
  by_cases q : p.1 = k
  · rw [if_pos q] at e
    injection e with e
    exact .inr (by rw [← q, e])
  · rw [if_neg q] at e
    exact .inl (mget_mem e)
theorem CS.put {i : Nat} {m : S_cache_Store} {k v L : List Int} (h : CS i m k v L) (a : S_api_Spot) (hw : wf64 a.Request) (k2 v2 : List Int) (hk : k2.length ≤ 100) (hv : v2.length ≤ 100) : ∃ L', CS (i + 1) (putF m a k2 v2).2 k v L' := by
  have h0 : ∃ L', CS (i + 1) m k v L' := ⟨L, h.nod, h.len, h.at_, h.wf, by have := h.ml; omega, by have := h.Ll; omega, h.L⟩
  unfold putF
  split
  · exact h0
  split
  · exact h0
  split
  · exact h0
  cases e : mget m.m a with
  | some o =>
    show ∃ L', CS (i + 1) (if o.k = k2 ∧ o.v = v2 then ((0 : Int), m) else (2, m)).2 k v L'
    split <;> exact h0
  | none =>
    show ∃ L', CS (i + 1) (if ((m.m.length : Nat) : Int) ≥ m.room then ((80 : Int), m) else (0, ⟨m.room, mset m.m a ⟨k2, v2⟩⟩)).2 k v L'
    split
    · exact h0
    refine ⟨a.Request :: L, nodup_mset h.nod _ _, fun p hp => ?_, ?_, fun p hp => ?_, ?_, by simp only [List.length_cons]; have := h.Ll; omega, fun p hp => ?_⟩
    · rcases mset_new' h.nod e _ p hp with q | q
      · exact h.len p q
      · rw [q]; exact ⟨hk, hv⟩
    · show mget (mset m.m a ⟨k2, v2⟩) ⟨3, 1, 0⟩ = _
      rw [mget_mset, if_neg (fun q => by rw [← q, h.at_] at e; cases e)]
      exact h.at_
    · rcases mset_new' h.nod e _ p hp with q | q
      · exact h.wf p q
      · rw [q]; exact hw
    · show (mset m.m a ⟨k2, v2⟩).length ≤ _
      rw [len_mset]
      have := h.ml
      split <;> omega
    · rcases mset_new' h.nod e _ p hp with q | q
      · exact (h.L p q).elim .inl fun z => .inr (List.mem_cons_of_mem _ z)
      · rw [q]; exact .inr (by simp)
theorem mget_filter {κ β : Type} [DecidableEq κ] {l : List (κ × β)} (hn : (l.map Prod.fst).Nodup) (f : κ × β → Bool) {k : κ} {x : β} (h : mget l k = some x) (hf : f (k, x) = true) : mget (l.filter f) k = some x :=
  mget_of_mem ((List.filter_sublist.map Prod.fst).nodup hn) (List.mem_filter.2 ⟨mget_mem h, hf⟩)
theorem CS.drop {i : Nat} {m : S_cache_Store} {k v L : List Int} (h : CS i m k v L) (r : Int) (hr : r ≠ 3) : CS (i + 1) ⟨m.room, m.m.filter fun p => !decide (p.1.Request ∈ [r])⟩ k v L :=
  ⟨(List.filter_sublist.map Prod.fst).nodup h.nod, fun p hp => h.len p (List.mem_filter.1 hp).1, mget_filter h.nod _ h.at_ (by simp; omega), fun p hp => h.wf p (List.mem_filter.1 hp).1, Nat.le_trans (List.length_filter_le _ _) (by have := h.ml; omega), by have := h.Ll; omega, fun p hp => h.L p (List.mem_filter.1 hp).1⟩
end Go.Proofs.Ytdalpckomnkilaa
end
section
namespace Go.Proofs.Ytdalpckomnkilaa
open Go Go.Hp
set_option linter.unusedVariables false
set_option linter.unusedSimpArgs false
theorem clone8_is (x : List Int) (h : x.length ≤ 100000) : slices_Clone_s_int8_int8 x = some x := by
  unfold slices_Clone_s_int8_int8
  rw [app_ok _ _ (by simp; omega), Option.bind_some]; rfl
theorem bytes_is {N : Nat} (a b : List Int) (hN : a.length < N) (hl : a.length ≤ 100000) : ref04_Bytes N a b = some (decide (a = b)) := by
  unfold ref04_Bytes
  by_cases h : a.length = b.length
  · rw [if_neg (by omega)]
    have key : ∀ q i m : Nat, i + q = a.length → q < m → ref04_Bytes.L1 a b m (i : Int) = some (decide (a.drop i = b.drop i)) := by
      intro q
      induction q with
      | zero =>
        intro i m hi hm
        obtain ⟨m, rfl⟩ : ∃ q, m = q + 1 := ⟨m - 1, by omega⟩
        rw [ref04_Bytes.L1, if_neg (by omega), List.drop_of_length_le (by omega), List.drop_of_length_le (by omega), decide_eq_true rfl]
      | succ q ih =>
        intro i m hi hm
        obtain ⟨m, rfl⟩ : ∃ q, m = q + 1 := ⟨m - 1, by omega⟩
        have h1 : i < a.length := by omega
        have h2 : i < b.length := by omega
        rw [ref04_Bytes.L1, if_pos (by omega), idx_get a i h1, Option.bind_some, idx_get b i h2, Option.bind_some, List.drop_eq_getElem_cons h1, List.drop_eq_getElem_cons h2]
        by_cases e : a[i] = b[i]
        · rw [if_neg (fun q => q e), W_succ i (by omega), ih (i + 1) m (by omega) (by omega)]
          congr 1
          rw [decide_eq_decide, e]
          exact ⟨fun q => by rw [q], fun q => by injection q⟩
        · rw [if_pos e]
          congr 1
          rw [eq_comm, decide_eq_false_iff_not]
          intro q
          injection q with q1 q2
          exact e q1
    have := key a.length 0 N (by omega) hN
    rw [List.drop_zero, List.drop_zero] at this
    exact this
  · rw [if_pos (by omega)]
    congr 1
    rw [eq_comm, decide_eq_false_iff_not]
    intro q; exact h (by rw [q])
theorem equal_is {N : Nat} (a b : List Int) (hN : a.length < N) (hl : a.length ≤ 100000) : slices_Equal_s_int8_int8 N a b = some (decide (a = b)) := by
  unfold slices_Equal_s_int8_int8
  by_cases h : a.length = b.length
  · rw [if_neg (by omega)]
    have key : ∀ q i m : Nat, i + q = a.length → q < m → slices_Equal_s_int8_int8.L1 a b m (i : Int) = some (decide (a.drop i = b.drop i)) := by
      intro q
      induction q with
      | zero =>
        intro i m hi hm
        obtain ⟨m, rfl⟩ : ∃ q, m = q + 1 := ⟨m - 1, by omega⟩
        rw [slices_Equal_s_int8_int8.L1, if_neg (by omega), List.drop_of_length_le (by omega), List.drop_of_length_le (by omega), decide_eq_true rfl]
      | succ q ih =>
        intro i m hi hm
        obtain ⟨m, rfl⟩ : ∃ q, m = q + 1 := ⟨m - 1, by omega⟩
        have h1 : i < a.length := by omega
        have h2 : i < b.length := by omega
        rw [slices_Equal_s_int8_int8.L1, if_pos (by omega), idx_get a i h1, Option.bind_some, idx_get b i h2, Option.bind_some, List.drop_eq_getElem_cons h1, List.drop_eq_getElem_cons h2]
        by_cases e : a[i] = b[i]
        · rw [if_neg (fun q => q e), W_succ i (by omega), ih (i + 1) m (by omega) (by omega)]
          congr 1
          rw [decide_eq_decide, e]
          exact ⟨fun q => by rw [q], fun q => by injection q⟩
        · rw [if_pos e]
          congr 1
          rw [eq_comm, decide_eq_false_iff_not]
          intro q
          injection q with q1 q2
          exact e q1
    have := key a.length 0 N (by omega) hN
    rw [List.drop_zero, List.drop_zero] at this
    exact this
  · rw [if_pos (by omega)]
    congr 1
    rw [eq_comm, decide_eq_false_iff_not]
    intro q; exact h (by rw [q])
def rget : List S_ref12_Row → S_api_Spot → Option S_cache_rows
  | [], _ => none
  | r :: L, s => if r.At = s then some ⟨r.K, r.V⟩ else rget L s
theorem rget_app (L : List S_ref12_Row) (r : S_ref12_Row) (s : S_api_Spot) : rget (L ++ [r]) s = match rget L s with | some v => some v | none => if r.At = s then some ⟨r.K, r.V⟩ else none := by
  induction L with
  | nil => rfl
  | cons x L ih =>
    rw [List.cons_append, rget, rget]
    by_cases h : x.At = s
    · rw [if_pos h, if_pos h]
    · rw [if_neg h, if_neg h, ih]
theorem rfind_is {N : Nat} (st : S_ref12_Store) (s : S_api_Spot) (hN : st.L.length < N) (hl : st.L.length ≤ 5000) :
    match rget st.L s with | none => ref12_Store_Find N st s = some (-1) | some v => ∃ k, ∃ h : k < st.L.length, ref12_Store_Find N st s = some (k : Int) ∧ st.L[k].K = v.k ∧ st.L[k].V = v.v := by
  have key : ∀ q i m : Nat, i + q = st.L.length → q < m → match rget (st.L.drop i) s with | none => ref12_Store_Find.L1 st s m (i : Int) = some (-1) | some v => ∃ k, ∃ h : k < st.L.length, ref12_Store_Find.L1 st s m (i : Int) = some (k : Int) ∧ st.L[k].K = v.k ∧ st.L[k].V = v.v := by
    intro q
    induction q with
    | zero =>
      intro i m hi hm
      obtain ⟨m, rfl⟩ : ∃ q, m = q + 1 := ⟨m - 1, by omega⟩
      rw [List.drop_of_length_le (by omega)]
      show ref12_Store_Find.L1 st s (m + 1) (i : Int) = some (-1)
      rw [ref12_Store_Find.L1, if_neg (by omega)]
    | succ q ih =>
      intro i m hi hm
      obtain ⟨m, rfl⟩ : ∃ q, m = q + 1 := ⟨m - 1, by omega⟩
      have h1 : i < st.L.length := by omega
      have e : ref12_Store_Find.L1 st s (m + 1) (i : Int) = if st.L[i].At = s then some (i : Int) else ref12_Store_Find.L1 st s m ((i + 1 : Nat) : Int) := by
        rw [ref12_Store_Find.L1, if_pos (by omega), idx_get _ i h1, Option.bind_some, W_succ i (by omega)]
      have := ih (i + 1) m (by omega) (by omega)
      rw [e, List.drop_eq_getElem_cons h1, rget]
      by_cases c : st.L[i].At = s
      · rw [if_pos c, if_pos c]
        exact ⟨i, h1, rfl, rfl, rfl⟩
      · rw [if_neg c, if_neg c]
        exact this
  have := key st.L.length 0 N (by omega) hN
  rw [List.drop_zero] at this
  exact this
def putE (room : Int) (n : Nat) (g : S_api_Spot → Option S_cache_rows) (s : S_api_Spot) (k v : List Int) : Int :=
  if s.Request < 0 then 2 else if s.Layer < 0 then 2 else if s.Place < 0 then 2 else if k.length ≠ v.length then 30 else
  if s.Place > 0 ∧ g ⟨s.Request, s.Layer, s.Place - 1⟩ = none then 120 else
  match g s with
  | some r => if r.k = k ∧ r.v = v then 0 else 2
  | none => if (n : Int) ≥ room then 80 else 0
def putM (m : S_cache_Store) (s : S_api_Spot) (k v : List Int) : S_cache_Store :=
  if putE m.room m.m.length (mget m.m) s k v = 0 ∧ mget m.m s = none then ⟨m.room, mset m.m s ⟨k, v⟩⟩ else m
def putR (m : S_ref12_Store) (s : S_api_Spot) (k v : List Int) : S_ref12_Store :=
  if putE m.Room m.L.length (rget m.L) s k v = 0 ∧ rget m.L s = none then ⟨m.Room, m.L ++ [⟨s, k, v⟩]⟩ else m
theorem put_is {N : Nat} (m : S_cache_Store) (s : S_api_Spot) (k v : List Int) (hs : s.Place ≤ 9223372036854775807) (hk : k.length < N) (hk2 : k.length ≤ 100000) (hv : v.length ≤ 100000) (hm : ∀ s r, mget m.m s = some r → r.k.length < N ∧ r.k.length ≤ 100000 ∧ r.v.length < N ∧ r.v.length ≤ 100000) :
    cache_Store_Put N m s k v = some (putE m.room m.m.length (mget m.m) s k v, putM m s k v) := by
  unfold cache_Store_Put putM putE
  rw [Option.bind_some]
  by_cases c1 : s.Request < 0
  · rw [if_pos c1, if_pos c1, if_neg (fun q => absurd q.1 (by decide))]
  rw [if_neg c1, if_neg c1]
  by_cases c2 : s.Layer < 0
  · rw [if_pos c2, if_pos c2, if_neg (fun q => absurd q.1 (by decide))]
  rw [if_neg c2, if_neg c2]
  by_cases c3 : s.Place < 0
  · rw [if_pos c3, if_pos c3, if_neg (fun q => absurd q.1 (by decide))]
  rw [if_neg c3, if_neg c3]
  by_cases c4 : k.length = v.length
  rotate_left
  · rw [if_pos (by omega), if_pos c4, if_neg (fun q => absurd q.1 (by decide))]
  rw [if_neg (show ¬ ((k.length : Nat) : Int) ≠ ((v.length : Nat) : Int) by omega), if_neg (show ¬ k.length ≠ v.length from fun q => q c4)]
  have ha : cache_Store_ahead m s = some (if s.Place > 0 ∧ mget m.m ⟨s.Request, s.Layer, s.Place - 1⟩ = none then false else true) := by
    unfold cache_Store_ahead
    by_cases c : s.Place = 0
    · rw [if_pos c, if_neg (fun q => by omega)]
    · rw [if_neg c, Option.bind_some, W_in (by omega)]
      congr 1
      cases hz : mget m.m ⟨s.Request, s.Layer, s.Place - 1⟩ with
      | none => rw [if_pos ⟨by omega, rfl⟩]; rfl
      | some r => rw [if_neg (fun q => by cases q.2)]; rfl
  show (cache_Store_ahead m s).bind _ = _
  by_cases c5 : s.Place > 0 ∧ mget m.m ⟨s.Request, s.Layer, s.Place - 1⟩ = none
  · have ha' : cache_Store_ahead m s = some false := by rw [ha, if_pos c5]
    rw [ha', Option.bind_some, if_neg (by decide), if_pos c5, if_neg (fun q => absurd q.1 (by decide))]
  have ha' : cache_Store_ahead m s = some true := by rw [ha, if_neg c5]
  rw [ha', Option.bind_some, if_pos rfl, if_neg c5]
  show (if (mget m.m s).isSome = true then (slices_Equal_s_int8_int8 N ((mget m.m s).getD ⟨[], []⟩).k k).bind _ else _) = _
  cases hg : mget m.m s with
  | some r =>
    obtain ⟨h1, h2, h3, h4⟩ := hm _ _ hg
    have j1 : ∀ z, cache_Store_Put.J1 m s k v z = some (if z = true then 0 else 2, m) := by
      intro z
      unfold cache_Store_Put.J1
      cases z
      · rw [if_neg (by decide)]
        show (if (mget m.m s).isSome = true then _ else _) = _
        rw [hg]
        rfl
      · rw [if_pos rfl]; rfl
    show (slices_Equal_s_int8_int8 N r.k k).bind (fun r28 => if r28 = true then (slices_Equal_s_int8_int8 N r.v v).bind _ else _) = _
    show _ = some (if r.k = k ∧ r.v = v then (0 : Int) else 2, if (if r.k = k ∧ r.v = v then (0 : Int) else 2) = 0 ∧ some r = none then _ else m)
    rw [if_neg (show ¬ ((if r.k = k ∧ r.v = v then (0 : Int) else 2) = 0 ∧ some r = none) from fun q => by cases q.2), equal_is _ _ h1 h2, Option.bind_some]
    by_cases e1 : r.k = k
    · rw [decide_eq_true e1, if_pos rfl, equal_is _ _ h3 h4, Option.bind_some, j1]
      by_cases e2 : r.v = v
      · rw [decide_eq_true e2, if_pos rfl]
        rw [if_pos ⟨e1, e2⟩]
      · rw [decide_eq_false e2, if_neg (by decide)]
        rw [if_neg (fun q => e2 q.2)]
    · rw [decide_eq_false e1, if_neg (by decide), j1, if_neg (by decide)]
      rw [if_neg (fun q => e1 q.1)]
  | none =>
    rw [if_neg (by simp)]
    unfold cache_Store_Put.J1
    rw [if_neg (by decide)]
    show (if (mget m.m s).isSome = true then _ else _) = _
    rw [hg, if_neg (by simp)]
    show _ = some (if (m.m.length : Int) ≥ m.room then (80 : Int) else 0, if (if (m.m.length : Int) ≥ m.room then (80 : Int) else 0) = 0 ∧ (none : Option S_cache_rows) = none then _ else m)
    by_cases c6 : (m.m.length : Int) ≥ m.room
    · rw [if_pos c6, if_pos c6, if_neg (fun q => absurd q.1 (by decide))]
    · rw [if_neg c6, if_neg c6, clone8_is _ hk2, Option.bind_some, clone8_is _ hv, Option.bind_some, if_pos ⟨rfl, rfl⟩]
theorem rput_is {N : Nat} (m : S_ref12_Store) (s : S_api_Spot) (k v : List Int) (hs : s.Place ≤ 9223372036854775807) (hk : k.length < N) (hk2 : k.length ≤ 100000) (hv : v.length ≤ 100000) (hl : m.L.length ≤ 5000) (hN : m.L.length < N) (hm : ∀ s r, rget m.L s = some r → r.k.length < N ∧ r.k.length ≤ 100000 ∧ r.v.length < N ∧ r.v.length ≤ 100000) :
    ref12_Store_Put N m s k v = some (putE m.Room m.L.length (rget m.L) s k v, putR m s k v) := by
  unfold ref12_Store_Put putR putE
  by_cases c1 : s.Request < 0
  · rw [if_pos c1, if_pos c1, if_neg (fun q => absurd q.1 (by decide))]
  rw [if_neg c1, if_neg c1]
  by_cases c2 : s.Layer < 0
  · rw [if_pos c2, if_pos c2, if_neg (fun q => absurd q.1 (by decide))]
  rw [if_neg c2, if_neg c2]
  by_cases c3 : s.Place < 0
  · rw [if_pos c3, if_pos c3, if_neg (fun q => absurd q.1 (by decide))]
  rw [if_neg c3, if_neg c3]
  by_cases c4 : k.length = v.length
  rotate_left
  · rw [if_pos (by omega), if_pos c4, if_neg (fun q => absurd q.1 (by decide))]
  rw [if_neg (show ¬ ((k.length : Nat) : Int) ≠ ((v.length : Nat) : Int) by omega), if_neg (show ¬ k.length ≠ v.length from fun q => q c4)]
  have hj : ∀ z : Bool, (z = true ↔ (s.Place > 0 ∧ rget m.L ⟨s.Request, s.Layer, s.Place - 1⟩ = none)) → ref12_Store_Put.J1 N m s k v z = some (if s.Place > 0 ∧ rget m.L ⟨s.Request, s.Layer, s.Place - 1⟩ = none then (120 : Int) else match rget m.L s with | some r => if r.k = k ∧ r.v = v then 0 else 2 | none => if (m.L.length : Int) ≥ m.Room then 80 else 0,
      if (if s.Place > 0 ∧ rget m.L ⟨s.Request, s.Layer, s.Place - 1⟩ = none then (120 : Int) else match rget m.L s with | some r => if r.k = k ∧ r.v = v then 0 else 2 | none => if (m.L.length : Int) ≥ m.Room then 80 else 0) = 0 ∧ rget m.L s = none then ⟨m.Room, m.L ++ [⟨s, k, v⟩]⟩ else m) := by
    intro z hz
    unfold ref12_Store_Put.J1
    by_cases c5 : s.Place > 0 ∧ rget m.L ⟨s.Request, s.Layer, s.Place - 1⟩ = none
    · rw [hz.2 c5, if_pos rfl, if_pos c5, if_neg (fun q => absurd q.1 (by decide))]
    have zf : z = false := by
      cases z
      · rfl
      · exact absurd (hz.1 rfl) c5
    subst zf
    rw [if_neg (by decide), if_neg c5]
    have hf := rfind_is (N := N) m s hN hl
    show (ref12_Store_Find N m s).bind _ = _
    cases hg : rget m.L s with
    | some r =>
      rw [hg] at hf
      obtain ⟨i, hi, e, ek, ev⟩ := hf
      obtain ⟨h1, h2, h3, h4⟩ := hm _ _ hg
      show _ = some (if r.k = k ∧ r.v = v then (0 : Int) else 2, if (if r.k = k ∧ r.v = v then (0 : Int) else 2) = 0 ∧ some r = none then _ else m)
      rw [if_neg (show ¬ ((if r.k = k ∧ r.v = v then (0 : Int) else 2) = 0 ∧ some r = none) from fun q => by cases q.2), e, Option.bind_some, if_pos (show (i : Int) ≥ 0 by omega), idx_get _ i hi, Option.bind_some, ek, bytes_is _ _ h1 h2, Option.bind_some]
      unfold ref12_Store_Put.J3
      by_cases e1 : r.k = k
      · rw [decide_eq_true e1, if_pos rfl, Option.bind_some, ev, bytes_is _ _ h3 h4, Option.bind_some]
        by_cases e2 : r.v = v
        · rw [decide_eq_true e2, if_pos rfl, if_pos ⟨e1, e2⟩]
        · rw [decide_eq_false e2, if_neg (by decide), if_neg (fun q => e2 q.2)]
      · rw [decide_eq_false e1, if_neg (by decide), if_neg (by decide), if_neg (fun q => e1 q.1)]
    | none =>
      rw [hg] at hf
      rw [hf, Option.bind_some, if_neg (by decide)]
      show _ = some (if (m.L.length : Int) ≥ m.Room then (80 : Int) else 0, if (if (m.L.length : Int) ≥ m.Room then (80 : Int) else 0) = 0 ∧ (none : Option S_cache_rows) = none then _ else m)
      by_cases c6 : (m.L.length : Int) ≥ m.Room
      · rw [if_pos c6, if_pos c6, if_neg (fun q => absurd q.1 (by decide))]
      · rw [if_neg c6, if_neg c6, app_ok _ _ (by simp only [List.length_nil]; omega), Option.bind_some, app_ok _ _ (by simp only [List.length_nil]; omega), Option.bind_some, app_ok _ _ (by simp only [List.length_cons, List.length_nil]; omega), Option.bind_some, if_pos ⟨rfl, rfl⟩]
        rfl
  by_cases c7 : s.Place > 0
  · rw [if_pos c7, W_in (by omega)]
    have hf := rfind_is (N := N) m ⟨s.Request, s.Layer, s.Place - 1⟩ hN hl
    cases hg : rget m.L ⟨s.Request, s.Layer, s.Place - 1⟩ with
    | some r =>
      rw [hg] at hf
      obtain ⟨i, hi, e, _⟩ := hf
      rw [e, Option.bind_some]
      have := hj (decide ((i : Int) < 0)) ⟨fun q => by have := of_decide_eq_true q; omega, fun q => by rw [hg] at q; cases q.2⟩
      rw [hg] at this
      exact this
    | none =>
      rw [hg] at hf
      rw [hf, Option.bind_some]
      have := hj (decide ((-1 : Int) < 0)) ⟨fun q => ⟨c7, hg⟩, fun q => rfl⟩
      rw [hg] at this
      exact this
  · rw [if_neg c7]
    exact hj false ⟨fun q => (by cases q), fun q => absurd q.1 c7⟩
theorem putE_congr {room room' : Int} {n n' : Nat} {g g' : S_api_Spot → Option S_cache_rows} (s : S_api_Spot) (k v : List Int) (h : ∀ t, t.Request = s.Request → g t = g' t) (hn : (n : Int) ≥ room ↔ (n' : Int) ≥ room') : putE room n g s k v = putE room' n' g' s k v := by
  unfold putE
  rw [h s rfl, h ⟨s.Request, s.Layer, s.Place - 1⟩ rfl]
  by_cases c : (n : Int) ≥ room
  · have c' := hn.1 c
    simp only [if_pos c, if_pos c']
  · have c' : ¬ (n' : Int) ≥ room' := fun q => c (hn.2 q)
    simp only [if_neg c, if_neg c']
end Go.Proofs.Ytdalpckomnkilaa
end
section
namespace Go.Proofs.Ytdalpckomnkilaa
open Go Go.Hp
set_option linter.unusedVariables false
set_option linter.unusedSimpArgs false
structure AC (x0 : Int) (i : Nat) (m : S_cache_Store) (R : S_ref12_Store) : Prop where
  room : m.room = x0
  rooR : R.Room = x0
  nod : (m.m.map Prod.fst).Nodup
  nodR : (R.L.map S_ref12_Row.At).Nodup
  ml : m.m.length = R.L.length
  le : R.L.length ≤ i
  fit : ((R.L.length : Nat) : Int) ≤ x0
  eq : ∀ t, mget m.m t = rget R.L t
  len : ∀ p ∈ m.m, p.2.k.length ≤ 100 ∧ p.2.v.length ≤ 100
  wf : ∀ p ∈ m.m, wf64 p.1.Request
theorem rget_none {L : List S_ref12_Row} {t : S_api_Spot} : rget L t = none ↔ t ∉ L.map S_ref12_Row.At := by
  induction L with
  | nil => simp [rget]
  | cons r L ih =>
    rw [rget]
    by_cases h : r.At = t
    · rw [if_pos h]; simp [h]
    · rw [if_neg h, ih]
      simp only [List.map_cons, List.mem_cons, not_or]
      exact ⟨fun q => ⟨fun e => h e.symm, q⟩, fun q => q.2⟩
theorem rget_at {L : List S_ref12_Row} (hn : (L.map S_ref12_Row.At).Nodup) {r : S_ref12_Row} (hr : r ∈ L) : rget L r.At = some ⟨r.K, r.V⟩ := by
  induction L with
  | nil => cases hr
  | cons x L ih =>
    rw [List.map_cons, List.nodup_cons] at hn
    rw [rget]
    rcases List.mem_cons.1 hr with rfl | hr
    · rw [if_pos rfl]
    · rw [if_neg (fun e => hn.1 (by rw [e]; exact List.mem_map.2 ⟨r, hr, rfl⟩))]
      exact ih hn.2 hr
theorem rget_filter (f : S_api_Spot → Bool) (t : S_api_Spot) : ∀ L : List S_ref12_Row, rget (L.filter fun r => f r.At) t = if f t = true then rget L t else none
  | [] => by simp [rget]
  | r :: L => by
    by_cases h : r.At = t
    · subst h
      by_cases hf : f r.At = true
      · rw [List.filter_cons_of_pos (by exact hf), rget, if_pos rfl, if_pos hf, rget, if_pos rfl]
      · rw [List.filter_cons_of_neg (by exact hf), rget_filter f r.At L, if_neg hf, if_neg hf]
    · by_cases hf : f r.At = true
      · rw [List.filter_cons_of_pos (by exact hf), rget, if_neg h, rget_filter f t L, rget, if_neg h]
      · rw [List.filter_cons_of_neg (by exact hf), rget_filter f t L, rget, if_neg h]
theorem mget_filt {l : List (S_api_Spot × S_cache_rows)} (hn : (l.map Prod.fst).Nodup) (f : S_api_Spot → Bool) (t : S_api_Spot) : mget (l.filter fun p => f p.1) t = if f t = true then mget l t else none := by
  by_cases hf : f t = true
  · rw [if_pos hf]
    cases e : mget l t with
    | some o => exact mget_filter hn _ e hf
    | none =>
      refine mget_none.2 fun q => ?_
      obtain ⟨p, hp, rfl⟩ := List.mem_map.1 q
      exact absurd (List.mem_map.2 ⟨p, (List.mem_filter.1 hp).1, rfl⟩) (mget_none.1 e)
  · rw [if_neg hf]
    refine mget_none.2 fun q => ?_
    obtain ⟨p, hp, rfl⟩ := List.mem_map.1 q
    exact hf (List.mem_filter.1 hp).2
theorem AC.perm {x0 : Int} {i : Nat} {m : S_cache_Store} {R : S_ref12_Store} (h : AC x0 i m R) : (m.m.map Prod.fst).Perm (R.L.map S_ref12_Row.At) :=
  (List.perm_ext_iff_of_nodup h.nod h.nodR).2 fun t => by
    have h1 := mget_none (l := m.m) (k := t)
    have h2 := rget_none (L := R.L) (t := t)
    rw [h.eq t] at h1
    rw [← Decidable.not_iff_not]
    exact h1.symm.trans h2
theorem AC.drop {x0 : Int} {i : Nat} {m : S_cache_Store} {R : S_ref12_Store} (h : AC x0 i m R) (r : Int) : AC x0 (i + 1) ⟨m.room, m.m.filter fun p => !decide (p.1.Request ∈ [r])⟩ ⟨R.Room, R.L.filter fun z => !decide (z.At.Request ∈ [r])⟩ ∧ (m.m.filter fun p => !decide (p.1.Request ∈ [r])).length = (R.L.filter fun z => !decide (z.At.Request ∈ [r])).length := by
  have hp := (h.perm.filter fun t => !decide (t.Request ∈ [r])).length_eq
  rw [List.filter_map, List.filter_map, List.length_map, List.length_map] at hp
  have hl : (m.m.filter fun p => !decide (p.1.Request ∈ [r])).length = (R.L.filter fun z => !decide (z.At.Request ∈ [r])).length := hp
  have hle := List.length_filter_le (fun z : S_ref12_Row => !decide (z.At.Request ∈ [r])) R.L
  refine ⟨⟨h.room, h.rooR, (List.filter_sublist.map Prod.fst).nodup h.nod, (List.filter_sublist.map S_ref12_Row.At).nodup h.nodR, hl, by show (R.L.filter _).length ≤ i + 1; have := h.le; omega, by show (((R.L.filter _).length : Nat) : Int) ≤ x0; have := h.fit; omega, fun t => ?_, fun p hp => h.len p (List.mem_filter.1 hp).1, fun p hp => h.wf p (List.mem_filter.1 hp).1⟩, hl⟩
  show mget (m.m.filter fun p => !decide (p.1.Request ∈ [r])) t = rget (R.L.filter fun z => !decide (z.At.Request ∈ [r])) t
  rw [mget_filt h.nod (fun t => !decide (t.Request ∈ [r])), rget_filter (fun t => !decide (t.Request ∈ [r])), h.eq t]
theorem rdrop_is (R : S_ref12_Store) (r : Int) (hl : R.L.length < 1000) : ref12_Store_Drop 1000 R r = some (((R.L.length - (R.L.filter fun z => !decide (z.At.Request ∈ [r])).length : Nat) : Int), ⟨R.Room, R.L.filter fun z => !decide (z.At.Request ∈ [r])⟩) := by
  unfold ref12_Store_Drop
  refine loop_c (fun m (s : List S_ref12_Row) i => ref12_Store_Drop.L1 R r m s i) (fun i => (R.L.take i).filter fun z => !decide (z.At.Request ∈ [r])) R.L.length _ (fun m i hi => ?_) (fun m => ?_) 1000 (by omega)
  · show ref12_Store_Drop.L1 R r (m + 1) _ (i : Int) = ref12_Store_Drop.L1 R r m _ _
    have hle := List.length_filter_le (fun z : S_ref12_Row => !decide (z.At.Request ∈ [r])) (R.L.take i)
    rw [List.length_take] at hle
    rw [ref12_Store_Drop.L1, if_pos (by omega), idx_get _ i hi, Option.bind_some, List.take_succ_eq_append_getElem hi, List.filter_append]
    by_cases c : R.L[i].At.Request ≠ r
    · rw [if_pos c, Option.bind_some, app_ok _ _ (by simp only [List.length_cons, List.length_nil]; omega), Option.bind_some]
      unfold ref12_Store_Drop.J2
      rw [W_succ i (by omega), List.filter_cons_of_pos (by simpa using c)]; rfl
    · rw [if_neg c]
      unfold ref12_Store_Drop.J2
      rw [W_succ i (by omega), List.filter_cons_of_neg (by simpa using c), List.filter_nil, List.append_nil]
  · show ref12_Store_Drop.L1 R r (m + 1) _ (R.L.length : Int) = _
    have hle := List.length_filter_le (fun z : S_ref12_Row => !decide (z.At.Request ∈ [r])) R.L
    rw [ref12_Store_Drop.L1, if_neg (by omega), List.take_length, W_in (by omega), Option.bind_some]
    congr 2
    omega
theorem AC.put {x0 : Int} {i : Nat} {m : S_cache_Store} {R : S_ref12_Store} (hi : i < 500) (h : AC x0 i m R) (a : S_api_Spot) (hw : wf64 a.Request) (hp : a.Place ≤ 9223372036854775807) (k v : List Int) (hk : k.length ≤ 100) (hv : v.length ≤ 100) :
    ∃ e m' R', AC x0 (i + 1) m' R' ∧ cache_Store_Put 1000 m a k v = some (e, m') ∧ ref12_Store_Put 1000 R a k v = some (e, R') := by
  have hml := h.ml; have hle := h.le
  have hm : ∀ s r, mget m.m s = some r → r.k.length < 1000 ∧ r.k.length ≤ 100000 ∧ r.v.length < 1000 ∧ r.v.length ≤ 100000 := fun s r e => by have : r.k.length ≤ 100 ∧ r.v.length ≤ 100 := h.len _ (mget_mem e); omega
  have hr : ∀ s r, rget R.L s = some r → r.k.length < 1000 ∧ r.k.length ≤ 100000 ∧ r.v.length < 1000 ∧ r.v.length ≤ 100000 := fun s r e => hm s r (by rw [h.eq s]; exact e)
  have a1 := put_is m a k v hp (N := 1000) (by omega) (by omega) (by omega) hm
  have a2 := rput_is R a k v hp (N := 1000) (by omega) (by omega) (by omega) (by omega) (by omega) hr
  have ee := putE_congr (room := m.room) (room' := R.Room) (n := m.m.length) (n' := R.L.length) a k v (fun t _ => h.eq t) (by rw [h.room, h.rooR, h.ml])
  rw [← ee] at a2
  refine ⟨_, _, _, ?_, a1, a2⟩
  by_cases c : putE m.room m.m.length (mget m.m) a k v = 0 ∧ mget m.m a = none
  · have c2 : putE R.Room R.L.length (rget R.L) a k v = 0 ∧ rget R.L a = none := ⟨by rw [← ee]; exact c.1, by rw [← h.eq a]; exact c.2⟩
    have e1 : putM m a k v = ⟨m.room, mset m.m a ⟨k, v⟩⟩ := if_pos c
    have e2 : putR R a k v = ⟨R.Room, R.L ++ [⟨a, k, v⟩]⟩ := if_pos c2
    have hfull : ((R.L.length : Nat) : Int) < R.Room := by
      rcases Int.lt_or_le ((R.L.length : Nat) : Int) R.Room with z | z
      · exact z
      · have : putE R.Room R.L.length (rget R.L) a k v ≠ 0 := by
          unfold putE
          rw [c2.2]
          split
          · decide
          split
          · decide
          split
          · decide
          split
          · decide
          split
          · decide
          · first
            | (show (80 : Int) ≠ 0; decide)
            | (show (if ((R.L.length : Nat) : Int) ≥ R.Room then (80 : Int) else 0) ≠ 0
               rw [if_pos z]; decide)
        exact absurd c2.1 this
    rw [e1, e2]
    refine ⟨h.room, h.rooR, nodup_mset h.nod _ _, ?_, ?_, by show (R.L ++ [_]).length ≤ i + 1; rw [List.length_append, List.length_singleton]; omega, by show (((R.L ++ [_]).length : Nat) : Int) ≤ x0; rw [List.length_append, List.length_singleton]; have := h.rooR; omega, fun t => ?_, fun p hp => ?_, fun p hp => ?_⟩
    · show ((R.L ++ [(⟨a, k, v⟩ : S_ref12_Row)]).map S_ref12_Row.At).Nodup
      rw [List.map_append]
      refine List.nodup_append.2 ⟨h.nodR, by simp, fun x hx y hy e => ?_⟩
      have hy' : y = a := by simpa using hy
      subst e; subst hy'
      exact rget_none.1 c2.2 hx
    · show (mset m.m a ⟨k, v⟩).length = (R.L ++ [_]).length
      rw [len_mset, if_neg (mget_none.1 c.2), List.length_append, List.length_singleton, h.ml]
    · show mget (mset m.m a ⟨k, v⟩) t = rget (R.L ++ [_]) t
      rw [mget_mset, rget_app, ← h.eq t]
      by_cases q : t = a
      · subst q; rw [if_pos rfl, c.2]; show _ = if t = t then _ else _; rw [if_pos rfl]
      · rw [if_neg q]
        cases mget m.m t with
        | some o => rfl
        | none => show _ = if a = t then _ else _; rw [if_neg (fun e => q e.symm)]
    · rcases mset_new' h.nod c.2 _ p hp with q | q
      · exact h.len p q
      · rw [q]; exact ⟨hk, hv⟩
    · rcases mset_new' h.nod c.2 _ p hp with q | q
      · exact h.wf p q
      · rw [q]; exact hw
  · have c2 : ¬ (putE R.Room R.L.length (rget R.L) a k v = 0 ∧ rget R.L a = none) := fun q => c ⟨by rw [ee]; exact q.1, by rw [h.eq a]; exact q.2⟩
    have e1 : putM m a k v = m := if_neg c
    have e2 : putR R a k v = R := if_neg c2
    rw [e1, e2]
    exact ⟨h.room, h.rooR, h.nod, h.nodR, h.ml, by omega, h.fit, h.eq, h.len, h.wf⟩
theorem lines_is {x0 : Int} {i : Nat} {m : S_cache_Store} {R : S_ref12_Store} (hi : i < 500) (h : AC x0 i m R) (a : S_api_Spot) : law12_lines 1000 m R a = some true := by
  have hml := h.ml; have hle := h.le
  have hs : ∀ p ∈ m.m, p.2.k.length < 1000 ∧ p.2.v.length < 1000 := fun p hp => by have := h.len p hp; omega
  obtain ⟨n, hn, hL⟩ := line_ex m a.Request a.Layer
  unfold law12_lines
  rw [line_eq m a.Request a.Layer hs n (by omega) hL, Option.bind_some]
  refine loop_c (fun f (_ : Unit) j => law12_lines.L1 1000 R a (tabl n fun q => (rowAt m a.Request a.Layer q).k, tabl n fun q => (rowAt m a.Request a.Layer q).v) f j) (fun _ => ()) n _ (fun f j hj => ?_) (fun f => ?_) 1000 (by omega)
  · show law12_lines.L1 1000 R a _ (f + 1) (j : Int) = law12_lines.L1 1000 R a _ f _
    have hf := rfind_is (N := 1000) R ⟨a.Request, a.Layer, (j : Int)⟩ (by omega) (by omega)
    have hsome := hL.1 j hj
    rw [h.eq] at hsome
    cases e : rget R.L ⟨a.Request, a.Layer, (j : Int)⟩ with
    | none => rw [e] at hsome; cases hsome
    | some o =>
      rw [e] at hf
      obtain ⟨q, hq, e1, e2, e3⟩ := hf
      have hrow : rowAt m a.Request a.Layer j = o := by unfold rowAt; rw [h.eq, e]; rfl
      have hlen : o.k.length ≤ 100 ∧ o.v.length ≤ 100 := h.len _ (mget_mem (show mget m.m ⟨a.Request, a.Layer, (j : Int)⟩ = some o by rw [h.eq]; exact e))
      rw [law12_lines.L1, show law12_spot a.Request a.Layer (j : Int) = some ⟨a.Request, a.Layer, (j : Int)⟩ from rfl, Option.bind_some, e1, Option.bind_some, if_neg (by omega), if_neg (by rw [tabl_len]; omega), if_neg (by rw [tabl_len]; omega), idx_t _ hj, Option.bind_some, idx_get _ q hq, Option.bind_some, hrow, e2, bytes_is o.k o.k (by omega) (by omega), decide_eq_true rfl, Option.bind_some, if_pos rfl, idx_t _ hj, Option.bind_some, Option.bind_some, hrow, e3, bytes_is o.v o.v (by omega) (by omega), decide_eq_true rfl, Option.bind_some, if_pos rfl, W_succ j (by omega)]
  · show law12_lines.L1 1000 R a _ (f + 1) (n : Int) = _
    have hf := rfind_is (N := 1000) R ⟨a.Request, a.Layer, (n : Int)⟩ (by omega) (by omega)
    have hnone := hL.2
    rw [h.eq] at hnone
    rw [hnone] at hf
    rw [law12_lines.L1, show law12_spot a.Request a.Layer (n : Int) = some ⟨a.Request, a.Layer, (n : Int)⟩ from rfl, Option.bind_some, hf, Option.bind_some, if_pos (by decide), if_pos (by rw [tabl_len]), decide_eq_true (by rw [tabl_len])]
theorem acts_J4 {x0 : Int} {i : Nat} {m : S_cache_Store} {R : S_ref12_Store} (hi : i < 500) (h : AC x0 i m R) (j : Nat) (hj : j < 900) (a : S_law12_Act) (k2 : S_ref12_Store → S_cache_Store → Int → Option Bool) : law12_CacheActs.J4 1000 x0 (j : Int) a k2 R m = k2 R m ((j + 1 : Nat) : Int) := by
  have hml := h.ml; have hle := h.le; have hfit := h.fit
  have hs : ∀ p ∈ m.m, p.2.k.length < 1000 ∧ p.2.v.length < 1000 := fun p hp => by have := h.len p hp; omega
  unfold law12_CacheActs.J4
  rw [show cache_Store_Len m = some ((m.m.length : Nat) : Int) from rfl, Option.bind_some, if_neg (by omega), Option.bind_some, if_neg (by omega), show cache_Store_Room m = some m.room from rfl, Option.bind_some, if_neg (by rw [h.room]; exact fun q => q rfl)]
  refine loop_c (fun f (_ : Unit) q => law12_CacheActs.L7 1000 (j : Int) a R m k2 f q) (fun _ => ()) R.L.length _ (fun f q hq => ?_) (fun f => ?_) 1000 (by omega)
  · show law12_CacheActs.L7 1000 (j : Int) a R m k2 (f + 1) (q : Int) = law12_CacheActs.L7 1000 (j : Int) a R m k2 f _
    have hat := rget_at h.nodR (List.getElem_mem hq)
    have hmg : mget m.m R.L[q].At = some ⟨R.L[q].K, R.L[q].V⟩ := by rw [h.eq]; exact hat
    have hlen : R.L[q].K.length ≤ 100 ∧ R.L[q].V.length ≤ 100 := h.len _ (mget_mem hmg)
    rw [law12_CacheActs.L7, if_pos (by omega), idx_get _ q hq, Option.bind_some]
    show (cache_Store_Get m R.L[q].At).bind _ = _
    rw [get_eq m _ hs, hmg]
    show (some (R.L[q].K, R.L[q].V, true)).bind _ = _
    rw [Option.bind_some, if_pos rfl, Option.bind_some, bytes_is R.L[q].K R.L[q].K (by omega) (by omega), decide_eq_true rfl, Option.bind_some, if_pos rfl, Option.bind_some, bytes_is R.L[q].V R.L[q].V (by omega) (by omega), decide_eq_true rfl, Option.bind_some, if_pos rfl, W_succ q (by omega)]
  · show law12_CacheActs.L7 1000 (j : Int) a R m k2 (f + 1) (R.L.length : Int) = _
    rw [law12_CacheActs.L7, if_neg (by omega)]
    show (cache_Store_Get m a.At).bind (fun r204 => (ref12_Store_Find 1000 R a.At).bind fun r214 => if (!(r204.2.2 == decide (r214 ≥ 0))) = true then some false else (law12_lines 1000 m R a.At).bind _) = _
    have hf := rfind_is (N := 1000) R a.At (by omega) (by omega)
    rw [get_eq m _ hs, h.eq a.At]
    cases e : rget R.L a.At with
    | none =>
      rw [e] at hf
      rw [hf]
      show (some (([] : List Int), ([] : List Int), false)).bind _ = _
      rw [Option.bind_some, Option.bind_some, if_neg (by decide), lines_is hi h, Option.bind_some, if_pos rfl, W_succ j (by omega)]
    | some o =>
      rw [e] at hf
      obtain ⟨q, hq, e1, _⟩ := hf
      rw [e1]
      show (some (o.k, o.v, true)).bind _ = _
      rw [Option.bind_some, Option.bind_some, decide_eq_true (show (q : Int) ≥ 0 by omega), if_neg (show ¬ ((!(true == true)) = true) by decide), lines_is hi h, Option.bind_some, if_pos rfl, W_succ j (by omega)]
theorem rise_in {l : List Int} (hl : l.Pairwise (· < ·)) {x : Int} {p : Nat} (hp : p ≤ l.length) (h1 : ∀ z ∈ l.take p, z < x) (h2 : ∀ z ∈ l.drop p, x < z) : ((l.take p ++ [x]) ++ l.drop p).Pairwise (· < ·) ∧ ∀ z, z ∈ (l.take p ++ [x]) ++ l.drop p ↔ z ∈ l ∨ z = x := by
  have hl' : (l.take p ++ l.drop p).Pairwise (· < ·) := by rw [List.take_append_drop]; exact hl
  rw [List.pairwise_append] at hl'
  refine ⟨List.pairwise_append.2 ⟨List.pairwise_append.2 ⟨hl'.1, by simp, fun a ha b hb => by rw [List.mem_singleton.1 hb]; exact h1 a ha⟩, hl'.2.1, fun a ha b hb => ?_⟩, fun z => ?_⟩
  · rcases List.mem_append.1 ha with q | q
    · exact hl'.2.2 a q b hb
    · rw [List.mem_singleton.1 q]; exact h2 b hb
  · conv => rhs; rw [← List.take_append_drop p l]
    simp only [List.mem_append, List.mem_singleton]
    constructor
    · rintro ((q | q) | q)
      · exact .inl (.inl q)
      · exact .inr q
      · exact .inl (.inr q)
    · rintro ((q | q) | q)
      · exact .inl (.inl q)
      · exact .inr q
      · exact .inl (.inr q)
theorem rise_eq {a b : List Int} (ha : a.Pairwise (· < ·)) (hb : b.Pairwise (· < ·)) (h : ∀ z, z ∈ a ↔ z ∈ b) : a = b := by
  have na : a.Nodup := ha.imp fun h e => by rw [e] at h; exact absurd h (Int.lt_irrefl _)
  have nb : b.Nodup := hb.imp fun h e => by rw [e] at h; exact absurd h (Int.lt_irrefl _)
  exact List.Perm.eq_of_pairwise (le := fun x y => x < y) (fun x y _ _ h1 h2 => absurd (Int.lt_trans h1 h2) (Int.lt_irrefl _)) ha hb ((List.perm_ext_iff_of_nodup na nb).2 h)
theorem reqS_rise (l : List (S_api_Spot × S_cache_rows)) : (reqS l).Pairwise (· < ·) := by
  have tr : ∀ a b c : Int, decide (a ≤ b) = true → decide (b ≤ c) = true → decide (a ≤ c) = true := fun a b c h1 h2 => by simp only [decide_eq_true_eq] at *; omega
  have to : ∀ a b : Int, (decide (a ≤ b) || decide (b ≤ a)) = true := fun a b => by simp only [Bool.or_eq_true, decide_eq_true_eq]; omega
  have h1 := List.pairwise_mergeSort (le := fun x y : Int => decide (x ≤ y)) tr to (uniq (l.map fun p => p.1.Request))
  have h2 : (reqS l).Nodup := (List.mergeSort_perm _ _).nodup_iff.2 (uniq_nodup _)
  exact (h1.and h2).imp fun ⟨q1, q2⟩ => by simp only [decide_eq_true_eq] at q1; omega
theorem rreq_step (l : List Int) (hl : l.Pairwise (· < ·)) (hlen : l.length < 900) (j : Nat) (hj : j < 900) (y : S_ref12_Row) (k1 : List Int → Int → Option (List Int)) : ∃ l', l'.Pairwise (· < ·) ∧ (∀ z, z ∈ l' ↔ z ∈ l ∨ z = y.At.Request) ∧ l'.length ≤ l.length + 1 ∧ ref12_Store_Requests.L3 l (j : Int) y k1 1000 0 = k1 l' ((j + 1 : Nat) : Int) := by
  have key : ∀ q p f : Nat, p + q = l.length → q < f → (∀ z ∈ l.take p, z < y.At.Request) → ∃ l', l'.Pairwise (· < ·) ∧ (∀ z, z ∈ l' ↔ z ∈ l ∨ z = y.At.Request) ∧ l'.length ≤ l.length + 1 ∧ ref12_Store_Requests.L3 l (j : Int) y k1 f (p : Int) = k1 l' ((j + 1 : Nat) : Int) := by
    intro q
    induction q with
    | zero =>
      intro p f hp hf h1
      obtain ⟨f, rfl⟩ : ∃ q, f = q + 1 := ⟨f - 1, by omega⟩
      obtain rfl : p = l.length := by omega
      obtain ⟨r1, r2⟩ := rise_in hl (Nat.le_refl _) h1 (fun z hz => by rw [List.drop_length] at hz; cases hz)
      refine ⟨_, r1, r2, by simp, ?_⟩
      rw [ref12_Store_Requests.L3, if_neg (by omega)]
      unfold ref12_Store_Requests.J2
      rw [if_neg (by omega), chk_ok _ (by omega), Int.toNat_natCast, app_ok _ _ (by simp only [List.length_nil, List.length_take]; omega), Option.bind_some, List.nil_append, app_ok _ _ (by simp only [List.length_take, List.length_singleton]; omega), Option.bind_some, chk_ok _ (by omega), List.take_length, app_ok _ _ (by simp only [List.length_append, List.length_drop, List.length_singleton]; omega), Option.bind_some, W_succ j (by omega)]
    | succ q ih =>
      intro p f hp hf h1
      obtain ⟨f, rfl⟩ : ∃ q, f = q + 1 := ⟨f - 1, by omega⟩
      have hpl : p < l.length := by omega
      rw [ref12_Store_Requests.L3, if_pos (by omega), idx_get l p hpl, Option.bind_some]
      by_cases c1 : l[p] < y.At.Request
      · rw [if_pos c1, W_succ p (by omega)]
        exact ih (p + 1) f (by omega) (by omega) fun z hz => by
          rw [List.take_succ_eq_append_getElem hpl] at hz
          rcases List.mem_append.1 hz with u | u
          · exact h1 z u
          · rw [List.mem_singleton.1 u]; exact c1
      · rw [if_neg c1]
        unfold ref12_Store_Requests.J2
        rw [if_pos (by omega), idx_get l p hpl, Option.bind_some]
        by_cases c2 : l[p] = y.At.Request
        · rw [if_pos c2]
          exact ⟨l, hl, fun z => ⟨.inl, fun u => u.elim id fun e => by rw [e, ← c2]; exact List.getElem_mem hpl⟩, by omega, by rw [W_succ j (by omega)]⟩
        · rw [if_neg c2]
          have hd : ∀ z ∈ l.drop p, y.At.Request < z := fun z hz => by
            rw [List.drop_eq_getElem_cons hpl] at hz
            rcases List.mem_cons.1 hz with rfl | u
            · omega
            · have hl2 : (l.drop p).Pairwise (· < ·) := hl.sublist (List.drop_sublist _ _)
              rw [List.drop_eq_getElem_cons hpl, List.pairwise_cons] at hl2
              have := hl2.1 z u
              omega
          obtain ⟨r1, r2⟩ := rise_in hl (Nat.le_of_lt hpl) h1 hd
          refine ⟨_, r1, r2, by simp only [List.length_append, List.length_take, List.length_drop, List.length_singleton]; omega, ?_⟩
          rw [chk_ok _ (by omega), Int.toNat_natCast, app_ok _ _ (by simp only [List.length_nil, List.length_take]; omega), Option.bind_some, List.nil_append, app_ok _ _ (by simp only [List.length_take, List.length_singleton]; omega), Option.bind_some, chk_ok _ (by omega), Int.toNat_natCast, List.take_length, app_ok _ _ (by simp only [List.length_append, List.length_take, List.length_drop, List.length_singleton]; omega), Option.bind_some, W_succ j (by omega)]
  exact key l.length 0 1000 (by omega) (by omega) (fun z hz => by simp at hz)
theorem rrequests_is (R : S_ref12_Store) (hl : R.L.length < 800) : ∃ l, ref12_Store_Requests 1000 R = some l ∧ l.Pairwise (· < ·) ∧ l.length ≤ R.L.length ∧ ∀ z, z ∈ l ↔ ∃ r ∈ R.L, r.At.Request = z := by
  have key : ∀ (q i f : Nat) (l : List Int), i + q = R.L.length → q < f → l.Pairwise (· < ·) → l.length ≤ i → (∀ z, z ∈ l ↔ ∃ r ∈ R.L.take i, r.At.Request = z) → ∃ l', ref12_Store_Requests.L1 1000 R f l (i : Int) = some l' ∧ l'.Pairwise (· < ·) ∧ l'.length ≤ R.L.length ∧ ∀ z, z ∈ l' ↔ ∃ r ∈ R.L, r.At.Request = z := by
    intro q
    induction q with
    | zero =>
      intro i f l hi hf h1 h2 h3
      obtain ⟨f, rfl⟩ : ∃ q, f = q + 1 := ⟨f - 1, by omega⟩
      obtain rfl : i = R.L.length := by omega
      rw [List.take_length] at h3
      exact ⟨l, by rw [ref12_Store_Requests.L1, if_neg (by omega)], h1, h2, h3⟩
    | succ q ih =>
      intro i f l hi hf h1 h2 h3
      obtain ⟨f, rfl⟩ : ∃ q, f = q + 1 := ⟨f - 1, by omega⟩
      have hil : i < R.L.length := by omega
      obtain ⟨l', r1, r2, r3, r4⟩ := rreq_step l h1 (by omega) i (by omega) R.L[i] (ref12_Store_Requests.L1 1000 R f)
      rw [ref12_Store_Requests.L1, if_pos (by omega), idx_get _ i hil, Option.bind_some, r4]
      refine ih (i + 1) f l' (by omega) (by omega) r1 (by omega) fun z => ?_
      rw [r2, h3, List.take_succ_eq_append_getElem hil]
      simp only [List.mem_append, List.mem_singleton]
      constructor
      · rintro (⟨r, hr, e⟩ | rfl)
        · exact ⟨r, .inl hr, e⟩
        · exact ⟨_, .inr rfl, rfl⟩
      · rintro ⟨r, hr | rfl, e⟩
        · exact .inl ⟨r, hr, e⟩
        · exact .inr e.symm
  exact key R.L.length 0 1000 [] (by omega) (by omega) List.Pairwise.nil (Nat.le_refl _) (fun z => by simp)
theorem acts_end {x0 : Int} {i : Nat} {m : S_cache_Store} {R : S_ref12_Store} (hi : i < 500) (h : AC x0 i m R) : ((cache_Store_Requests 1000 m).bind fun r28 => (ref12_Store_Requests 1000 R).bind fun r34 => if ((r28.length : Nat) : Int) ≠ ((r34.length : Nat) : Int) then some false else law12_CacheActs.L3 r28 r34 1000 0) = some true := by
  have hml := h.ml; have hle := h.le
  obtain ⟨l, e1, e2, e3, e4⟩ := rrequests_is R (by omega)
  have hp := h.perm
  have hl : reqS m.m = l := rise_eq (reqS_rise _) e2 fun z => by
    rw [reqS_mem, e4]
    constructor
    · rintro ⟨p, hp1, rfl⟩
      obtain ⟨r, hr, e⟩ := List.mem_map.1 (hp.mem_iff.1 (List.mem_map.2 ⟨p, hp1, rfl⟩))
      exact ⟨r, hr, by rw [e]⟩
    · rintro ⟨r, hr, rfl⟩
      obtain ⟨p, hp1, e⟩ := List.mem_map.1 (hp.mem_iff.2 (List.mem_map.2 ⟨r, hr, rfl⟩))
      exact ⟨p, hp1, by rw [e]⟩
  rw [requests_is m h.nod (by omega) h.wf, Option.bind_some, e1, Option.bind_some, hl, if_neg (fun q => q rfl)]
  refine loop_c (fun f (_ : Unit) q => law12_CacheActs.L3 l l f q) (fun _ => ()) l.length _ (fun f q hq => ?_) (fun f => ?_) 1000 (by omega)
  · show law12_CacheActs.L3 l l (f + 1) (q : Int) = law12_CacheActs.L3 l l f _
    rw [law12_CacheActs.L3, if_pos (by omega), idx_get l q hq, Option.bind_some, Option.bind_some, if_neg (fun z => z rfl), W_succ q (by omega)]
  · show law12_CacheActs.L3 l l (f + 1) (l.length : Int) = _
    rw [law12_CacheActs.L3, if_neg (by omega)]
theorem acts_loop (x0 : Int) (x1 : List S_law12_Act) (h1 : x1.length ≤ 60) (hw : ∀ a ∈ x1, wf64 a.At.Request ∧ wf64 a.At.Place) : ∀ (q i f : Nat) (m : S_cache_Store) (R : S_ref12_Store), i + q = x1.length → q < f → AC x0 i m R → law12_CacheActs.L2 1000 x0 x1 f R m (i : Int) = some true := by
  intro q
  induction q with
  | zero =>
    intro i f m R hi hf h
    obtain ⟨f, rfl⟩ : ∃ q, f = q + 1 := ⟨f - 1, by omega⟩
    rw [law12_CacheActs.L2, if_neg (by omega)]
    exact acts_end (by omega) h
  | succ q ih =>
    intro i f m R hi hf h
    obtain ⟨f, rfl⟩ : ∃ q, f = q + 1 := ⟨f - 1, by omega⟩
    have hil : i < x1.length := by omega
    have hml := h.ml; have hle := h.le
    rw [law12_CacheActs.L2, if_pos (by omega), idx_get _ i hil, Option.bind_some]
    have hwa := hw x1[i] (List.getElem_mem hil)
    generalize x1[i] = a at hwa
    by_cases c1 : ((a.K.length : Nat) : Int) > 100
    · rw [if_pos c1]
    by_cases c2 : ((a.V.length : Nat) : Int) > 100
    · rw [if_neg c1, if_pos c2]
    rw [if_neg c1, if_neg c2]
    have go : ∀ m' R', AC x0 (i + 1) m' R' → law12_CacheActs.J4 1000 x0 (i : Int) a (law12_CacheActs.L2 1000 x0 x1 f) R' m' = some true := fun m' R' h' => by
      rw [acts_J4 (by omega) h' i (by omega) a]
      exact ih (i + 1) f m' R' (by omega) (by omega) h'
    by_cases c3 : a.Kind = 0
    · have hpl : a.At.Place ≤ 9223372036854775807 := by
        have := hwa.2
        unfold wf64 at this
        simp [Lit.wf] at this
        first | omega | (have h2 := IntKind.wrap_i64 a.At.Place; omega)
      obtain ⟨e, m', R', h', b1, b2⟩ := h.put (by omega) a.At hwa.1 hpl a.K a.V (by omega) (by omega)
      rw [if_pos c3, app_ok _ _ (by simp only [List.length_nil]; omega), Option.bind_some, app_ok _ _ (by simp only [List.length_nil]; omega), Option.bind_some, List.nil_append, List.nil_append]
      unfold law12_CacheActs.J5
      rw [b1, Option.bind_some, b2, Option.bind_some, if_neg (fun q => q rfl)]
      have key : ∀ (q j f2 : Nat) (k : List Int), j + q = a.K.length → q < f2 → k.length = a.K.length → law12_CacheActs.L6 1000 x0 (i : Int) a a.K (e, m') (e, R') (law12_CacheActs.L2 1000 x0 x1 f) f2 k (j : Int) = some true := by
        intro q
        induction q with
        | zero =>
          intro j f2 k hq hf2 hk
          obtain ⟨f2, rfl⟩ : ∃ q, f2 = q + 1 := ⟨f2 - 1, by omega⟩
          rw [law12_CacheActs.L6, if_neg (by omega)]
          exact go m' R' h'
        | succ q ihq =>
          intro j f2 k hq hf2 hk
          obtain ⟨f2, rfl⟩ : ∃ q, f2 = q + 1 := ⟨f2 - 1, by omega⟩
          rw [law12_CacheActs.L6, if_pos (by omega), idx_d k 0 (by omega), Option.bind_some, Option.bind_some, W_succ j (by omega)]
          exact ihq (j + 1) f2 _ (by omega) (by omega) (by rw [List.length_set]; exact hk)
      exact key a.K.length 0 1000 a.K (by omega) (by omega) rfl
    · rw [if_neg c3]
      by_cases c4 : a.Kind = 1
      · obtain ⟨h', hlen⟩ := h.drop a.At.Request
        rw [if_pos c4, drop_eq m [a.At.Request] h.nod (by omega) (by simp), Option.bind_some, rdrop_is R a.At.Request (by omega), Option.bind_some, if_neg (show ¬ ((((m.m.length - (m.m.filter fun p => !decide (p.1.Request ∈ [a.At.Request])).length : Nat) : Int)) ≠ (((R.L.length - (R.L.filter fun z => !decide (z.At.Request ∈ [a.At.Request])).length : Nat) : Int))) from fun q => q (by rw [hlen, h.ml]))]
        exact go _ _ h'
      · rw [if_neg c4]
        by_cases c5 : a.Kind = 2
        · rw [if_pos c5, show cache_Store_Clear m = some ⟨m.room, []⟩ from rfl, Option.bind_some]
          exact go _ _ ⟨h.room, h.rooR, List.nodup_nil, List.nodup_nil, rfl, Nat.zero_le _, by show (0 : Int) ≤ x0; have := h.fit; omega, fun _ => rfl, fun p hp => (by cases hp), fun p hp => (by cases hp)⟩
        · rw [if_neg c5]
          exact go m R ⟨h.room, h.rooR, h.nod, h.nodR, h.ml, by omega, h.fit, h.eq, h.len, h.wf⟩
theorem cacheActs (x0 : Int) (x1 : List S_law12_Act) (hw : ∀ a ∈ x1, wf64 a.At.Request ∧ wf64 a.At.Place) : law12_CacheActs 1000 x0 x1 = some true := by
  unfold law12_CacheActs
  rw [awake12, Option.bind_some, if_pos rfl]
  by_cases c1 : ((x1.length : Nat) : Int) > 60
  · rw [if_pos c1, Option.bind_some]
  rw [if_neg c1]
  unfold cache_New
  by_cases c2 : x0 < 0
  · rw [if_pos c2, Option.bind_some, if_pos c2]
    rfl
  rw [if_neg c2]
  by_cases c3 : x0 > 1048576
  · rw [if_pos c3, Option.bind_some, if_neg c2, decide_eq_true c3]
    rfl
  rw [if_neg c3, Option.bind_some, if_neg c2, decide_eq_false c3]
  unfold law12_CacheActs.J1
  rw [if_neg (by decide), optc_some, if_neg (fun q => q rfl)]
  exact acts_loop x0 x1 (by omega) hw x1.length 0 1000 _ _ (by omega) (by omega) ⟨rfl, rfl, List.nodup_nil, List.nodup_nil, rfl, Nat.zero_le _, by show (0 : Int) ≤ x0; omega, fun _ => rfl, fun p hp => (by cases hp), fun p hp => (by cases hp)⟩
end Go.Proofs.Ytdalpckomnkilaa
end
