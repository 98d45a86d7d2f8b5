/- What the law needs. -/
import Derived.Test.YtbfiagimgokccaaGreatMBlockWholeb
import Derived.Test.YtbfiagimgokccaaGreatMBlockWholee
import Derived.Test.YtbfiagimgokccaaGreatMBlockWholef
import Derived.Test.YtbfiagimgokccaaGreatProg
section
namespace Go.Proofs.YtbfiagimgokccaaGreat
open Go Go.RowKit Go.Hp
set_option linter.unusedVariables false
set_option linter.unusedSimpArgs false
set_option maxRecDepth 100000
set_option maxHeartbeats 8000000

structure S_ref08_taker where
  l : (List Int)
  at_ : Int
  deriving DecidableEq

def S_ref08_taker.hp (b : Nat) (x : S_ref08_taker) : HP := Ex fun v0 : Value => Sep (B b [v0, .int .i64 x.at_] 179) (Own (pInt .i8) 88 v0 x.l)

theorem S_ref08_taker.uf {w : World} {l : List HP} {b : Nat} {x : S_ref08_taker} (h : Ctx w (S_ref08_taker.hp b x :: l)) : ∃ (a0 : Option Addr) (q0 : Nat), Ctx w (B b [.slice a0 x.l.length q0, .int .i64 x.at_] 179 :: Own (pInt .i8) 88 (.slice a0 x.l.length q0) x.l :: l) := by
  obtain ⟨v0, h⟩ := Ctx.exF h
  replace h := Ctx.sepF h
  obtain ⟨a0, q0, u0⟩ := h.rd (k := 1) rfl rfl reads_own; subst u0
  exact ⟨a0, q0, h⟩
theorem S_ref08_taker.fd {w : World} {l : List HP} {b : Nat} {x : S_ref08_taker} {v0 : Value} (h : Ctx w (B b [v0, .int .i64 x.at_] 179 :: Own (pInt .i8) 88 v0 x.l :: l)) : Ctx w (S_ref08_taker.hp b x :: l) := Ctx.exB _ _ (Ctx.sepB h)

structure S_api_Mat where
  Rows : Int
  Cols : Int
  V : (List Int)
  deriving DecidableEq

def S_api_Mat.pr : PR S_api_Mat 3 := pMap (fun x : S_api_Mat => (x.Rows, x.Cols, x.V)) (pSeq (pInt .i64) (pSeq (pInt .i64) (pRo (pInt .i8))))

theorem S_api_Mat.op {w : World} {l : List HP} {cs : List Value} {x : S_api_Mat} (h : Ctx w (Hold S_api_Mat.pr cs x :: l)) : ∃ a2 q2, cs = [.int .i64 x.Rows, .int .i64 x.Cols, .slice a2 x.V.length q2] ∧ Ctx w (Hold (pRo (pInt .i8)) [.slice a2 x.V.length q2] x.V :: l) := by
  obtain ⟨R, Ss, hc⟩ := h
  match Ss, hc with
  | S :: Ss, hc =>
    obtain ⟨⟨rfl, ⟨_, _, rfl, rfl, ⟨_, _, rfl, rfl, ⟨_, rfl, a2, q2, rfl, hc2, hr2⟩⟩⟩⟩, h3⟩ := hc.all
    exact ⟨a2, q2, rfl, R, [] :: Ss, ⟨⟨rfl, _, rfl, a2, q2, rfl, hc2, hr2⟩, h3⟩, by simpa using hc.nodup, by simpa using hc.own, hc.fz⟩
theorem S_api_Mat.cl {w : World} {l : List HP} {z0 : Int} {z1 : Int} {z2 : (List Int)} {v2 : Value} (h : Ctx w (Hold (pRo (pInt .i8)) [v2] z2 :: l)) : Ctx w (Hold S_api_Mat.pr [.int .i64 z0, .int .i64 z1, v2] (⟨z0, z1, z2⟩ : S_api_Mat) :: l) := by
  obtain ⟨R, Ss, hc⟩ := h
  match Ss, hc with
  | S2 :: Ss, hc =>
    obtain ⟨⟨rfl, _, e2, hr2⟩, h3⟩ := hc.all
    injection e2 with e2; subst e2
    exact ⟨R, [] :: Ss, ⟨⟨rfl, ⟨_, _, rfl, rfl, ⟨_, _, rfl, rfl, ⟨_, rfl, hr2⟩⟩⟩⟩, h3⟩, by simpa using hc.nodup, by simpa using hc.own, hc.fz⟩
  | [], hc => exact hc.all.elim

structure S_api_Shape where
  Layers : Int
  Width : Int
  Heads : Int
  Inner : Int
  Vocab : Int
  Places : Int
  deriving DecidableEq

def S_api_Shape.pr : PR S_api_Shape 6 := pC (fun x => [.int .i64 x.Layers, .int .i64 x.Width, .int .i64 x.Heads, .int .i64 x.Inner, .int .i64 x.Vocab, .int .i64 x.Places]) (fun _ => rfl) (fun _ => rfl)

structure S_api_Block where
  First : (List Int)
  Second : (List Int)
  Q : S_api_Mat
  K : S_api_Mat
  V : S_api_Mat
  O : S_api_Mat
  Up : S_api_Mat
  Down : S_api_Mat
  deriving DecidableEq

def S_api_Block.pr : PR S_api_Block 20 := pMap (fun x : S_api_Block => (x.First, x.Second, x.Q, x.K, x.V, x.O, x.Up, x.Down)) (pSeq (pRo (pInt .i8)) (pSeq (pRo (pInt .i8)) (pSeq S_api_Mat.pr (pSeq S_api_Mat.pr (pSeq S_api_Mat.pr (pSeq S_api_Mat.pr (pSeq S_api_Mat.pr S_api_Mat.pr)))))))

theorem S_api_Block.op {w : World} {l : List HP} {cs : List Value} {x : S_api_Block} (h : Ctx w (Hold S_api_Block.pr cs x :: l)) : ∃ a0 q0 a1 q1 a4 q4 a7 q7 a10 q10 a13 q13 a16 q16 a19 q19, cs = [.slice a0 x.First.length q0, .slice a1 x.Second.length q1, .int .i64 x.Q.Rows, .int .i64 x.Q.Cols, .slice a4 x.Q.V.length q4, .int .i64 x.K.Rows, .int .i64 x.K.Cols, .slice a7 x.K.V.length q7, .int .i64 x.V.Rows, .int .i64 x.V.Cols, .slice a10 x.V.V.length q10, .int .i64 x.O.Rows, .int .i64 x.O.Cols, .slice a13 x.O.V.length q13, .int .i64 x.Up.Rows, .int .i64 x.Up.Cols, .slice a16 x.Up.V.length q16, .int .i64 x.Down.Rows, .int .i64 x.Down.Cols, .slice a19 x.Down.V.length q19] ∧ Ctx w (Hold (pRo (pInt .i8)) [.slice a0 x.First.length q0] x.First :: Hold (pRo (pInt .i8)) [.slice a1 x.Second.length q1] x.Second :: Hold (pRo (pInt .i8)) [.slice a4 x.Q.V.length q4] x.Q.V :: Hold (pRo (pInt .i8)) [.slice a7 x.K.V.length q7] x.K.V :: Hold (pRo (pInt .i8)) [.slice a10 x.V.V.length q10] x.V.V :: Hold (pRo (pInt .i8)) [.slice a13 x.O.V.length q13] x.O.V :: Hold (pRo (pInt .i8)) [.slice a16 x.Up.V.length q16] x.Up.V :: Hold (pRo (pInt .i8)) [.slice a19 x.Down.V.length q19] x.Down.V :: l) := by
  obtain ⟨R, Ss, hc⟩ := h
  match Ss, hc with
  | S :: Ss, hc =>
    obtain ⟨⟨rfl, ⟨_, _, rfl, ⟨_, rfl, a0, q0, rfl, hc0, hr0⟩, ⟨_, _, rfl, ⟨_, rfl, a1, q1, rfl, hc1, hr1⟩, ⟨_, _, rfl, ⟨_, _, rfl, rfl, ⟨_, _, rfl, rfl, ⟨_, rfl, a4, q4, rfl, hc4, hr4⟩⟩⟩, ⟨_, _, rfl, ⟨_, _, rfl, rfl, ⟨_, _, rfl, rfl, ⟨_, rfl, a7, q7, rfl, hc7, hr7⟩⟩⟩, ⟨_, _, rfl, ⟨_, _, rfl, rfl, ⟨_, _, rfl, rfl, ⟨_, rfl, a10, q10, rfl, hc10, hr10⟩⟩⟩, ⟨_, _, rfl, ⟨_, _, rfl, rfl, ⟨_, _, rfl, rfl, ⟨_, rfl, a13, q13, rfl, hc13, hr13⟩⟩⟩, ⟨_, _, rfl, ⟨_, _, rfl, rfl, ⟨_, _, rfl, rfl, ⟨_, rfl, a16, q16, rfl, hc16, hr16⟩⟩⟩, ⟨_, _, rfl, rfl, ⟨_, _, rfl, rfl, ⟨_, rfl, a19, q19, rfl, hc19, hr19⟩⟩⟩⟩⟩⟩⟩⟩⟩⟩⟩, h3⟩ := hc.all
    exact ⟨a0, q0, a1, q1, a4, q4, a7, q7, a10, q10, a13, q13, a16, q16, a19, q19, rfl, R, [] :: [] :: [] :: [] :: [] :: [] :: [] :: [] :: Ss, ⟨⟨rfl, _, rfl, a0, q0, rfl, hc0, hr0⟩, ⟨rfl, _, rfl, a1, q1, rfl, hc1, hr1⟩, ⟨rfl, _, rfl, a4, q4, rfl, hc4, hr4⟩, ⟨rfl, _, rfl, a7, q7, rfl, hc7, hr7⟩, ⟨rfl, _, rfl, a10, q10, rfl, hc10, hr10⟩, ⟨rfl, _, rfl, a13, q13, rfl, hc13, hr13⟩, ⟨rfl, _, rfl, a16, q16, rfl, hc16, hr16⟩, ⟨rfl, _, rfl, a19, q19, rfl, hc19, hr19⟩, h3⟩, by simpa using hc.nodup, by simpa using hc.own, hc.fz⟩
theorem S_api_Block.cl {w : World} {l : List HP} {z0 : (List Int)} {z1 : (List Int)} {z2 : Int} {z3 : Int} {z4 : (List Int)} {z5 : Int} {z6 : Int} {z7 : (List Int)} {z8 : Int} {z9 : Int} {z10 : (List Int)} {z11 : Int} {z12 : Int} {z13 : (List Int)} {z14 : Int} {z15 : Int} {z16 : (List Int)} {z17 : Int} {z18 : Int} {z19 : (List Int)} {v0 v1 v4 v7 v10 v13 v16 v19 : Value} (h : Ctx w (Hold (pRo (pInt .i8)) [v0] z0 :: Hold (pRo (pInt .i8)) [v1] z1 :: Hold (pRo (pInt .i8)) [v4] z4 :: Hold (pRo (pInt .i8)) [v7] z7 :: Hold (pRo (pInt .i8)) [v10] z10 :: Hold (pRo (pInt .i8)) [v13] z13 :: Hold (pRo (pInt .i8)) [v16] z16 :: Hold (pRo (pInt .i8)) [v19] z19 :: l)) : Ctx w (Hold S_api_Block.pr [v0, v1, .int .i64 z2, .int .i64 z3, v4, .int .i64 z5, .int .i64 z6, v7, .int .i64 z8, .int .i64 z9, v10, .int .i64 z11, .int .i64 z12, v13, .int .i64 z14, .int .i64 z15, v16, .int .i64 z17, .int .i64 z18, v19] (⟨z0, z1, ⟨z2, z3, z4⟩, ⟨z5, z6, z7⟩, ⟨z8, z9, z10⟩, ⟨z11, z12, z13⟩, ⟨z14, z15, z16⟩, ⟨z17, z18, z19⟩⟩ : S_api_Block) :: l) := by
  obtain ⟨R, Ss, hc⟩ := h
  match Ss, hc with
  | S0 :: S1 :: S4 :: S7 :: S10 :: S13 :: S16 :: S19 :: Ss, hc =>
    obtain ⟨⟨rfl, _, e0, hr0⟩, ⟨rfl, _, e1, hr1⟩, ⟨rfl, _, e4, hr4⟩, ⟨rfl, _, e7, hr7⟩, ⟨rfl, _, e10, hr10⟩, ⟨rfl, _, e13, hr13⟩, ⟨rfl, _, e16, hr16⟩, ⟨rfl, _, e19, hr19⟩, h3⟩ := hc.all
    injection e0 with e0; subst e0
    injection e1 with e1; subst e1
    injection e4 with e4; subst e4
    injection e7 with e7; subst e7
    injection e10 with e10; subst e10
    injection e13 with e13; subst e13
    injection e16 with e16; subst e16
    injection e19 with e19; subst e19
    exact ⟨R, [] :: Ss, ⟨⟨rfl, ⟨_, _, rfl, ⟨_, rfl, hr0⟩, ⟨_, _, rfl, ⟨_, rfl, hr1⟩, ⟨_, _, rfl, ⟨_, _, rfl, rfl, ⟨_, _, rfl, rfl, ⟨_, rfl, hr4⟩⟩⟩, ⟨_, _, rfl, ⟨_, _, rfl, rfl, ⟨_, _, rfl, rfl, ⟨_, rfl, hr7⟩⟩⟩, ⟨_, _, rfl, ⟨_, _, rfl, rfl, ⟨_, _, rfl, rfl, ⟨_, rfl, hr10⟩⟩⟩, ⟨_, _, rfl, ⟨_, _, rfl, rfl, ⟨_, _, rfl, rfl, ⟨_, rfl, hr13⟩⟩⟩, ⟨_, _, rfl, ⟨_, _, rfl, rfl, ⟨_, _, rfl, rfl, ⟨_, rfl, hr16⟩⟩⟩, ⟨_, _, rfl, rfl, ⟨_, _, rfl, rfl, ⟨_, rfl, hr19⟩⟩⟩⟩⟩⟩⟩⟩⟩⟩⟩, h3⟩, by simpa using hc.nodup, by simpa using hc.own, hc.fz⟩
  | [], hc => exact hc.all.elim
  | [_], hc => exact hc.all.2.elim
  | [_, _], hc => exact hc.all.2.2.elim
  | [_, _, _], hc => exact hc.all.2.2.2.elim
  | [_, _, _, _], hc => exact hc.all.2.2.2.2.elim
  | [_, _, _, _, _], hc => exact hc.all.2.2.2.2.2.elim
  | [_, _, _, _, _, _], hc => exact hc.all.2.2.2.2.2.2.elim
  | [_, _, _, _, _, _, _], hc => exact hc.all.2.2.2.2.2.2.2.elim

structure S_api_Weights where
  Shape : S_api_Shape
  Embed : S_api_Mat
  Blocks : (List S_api_Block)
  Last : (List Int)
  Head : S_api_Mat
  deriving DecidableEq

structure A2_i32 where
  c0 : Int
  c1 : Int
  deriving DecidableEq

def A2_i32.pr : PR A2_i32 2 := pC (fun x => [.int .i32 x.c0, .int .i32 x.c1]) (fun _ => rfl) (fun _ => rfl)

structure S_api_Cut where
  Stages : Int
  Parts : Int
  deriving DecidableEq

def S_api_Cut.pr : PR S_api_Cut 2 := pC (fun x => [.int .i64 x.Stages, .int .i64 x.Parts]) (fun _ => rfl) (fun _ => rfl)

structure S_api_Shard where
  Shape : S_api_Shape
  Cut : S_api_Cut
  Stage : Int
  Part : Int
  Embed : S_api_Mat
  Blocks : (List S_api_Block)
  Last : (List Int)
  Head : S_api_Mat
  deriving DecidableEq

def S_api_Shard.pr : PR S_api_Shard 18 := pMap (fun x : S_api_Shard => (x.Shape, x.Cut, x.Stage, x.Part, x.Embed, x.Blocks, x.Last, x.Head)) (pSeq S_api_Shape.pr (pSeq S_api_Cut.pr (pSeq (pInt .i64) (pSeq (pInt .i64) (pSeq S_api_Mat.pr (pSeq (pRo S_api_Block.pr) (pSeq (pRo (pInt .i8)) S_api_Mat.pr)))))))

theorem S_api_Shard.op {w : World} {l : List HP} {cs : List Value} {x : S_api_Shard} (h : Ctx w (Hold S_api_Shard.pr cs x :: l)) : ∃ a12 q12 a13 q13 a14 q14 a17 q17, cs = [.int .i64 x.Shape.Layers, .int .i64 x.Shape.Width, .int .i64 x.Shape.Heads, .int .i64 x.Shape.Inner, .int .i64 x.Shape.Vocab, .int .i64 x.Shape.Places, .int .i64 x.Cut.Stages, .int .i64 x.Cut.Parts, .int .i64 x.Stage, .int .i64 x.Part, .int .i64 x.Embed.Rows, .int .i64 x.Embed.Cols, .slice a12 x.Embed.V.length q12, .slice a13 x.Blocks.length q13, .slice a14 x.Last.length q14, .int .i64 x.Head.Rows, .int .i64 x.Head.Cols, .slice a17 x.Head.V.length q17] ∧ Ctx w (Hold (pRo (pInt .i8)) [.slice a12 x.Embed.V.length q12] x.Embed.V :: Hold (pRo S_api_Block.pr) [.slice a13 x.Blocks.length q13] x.Blocks :: Hold (pRo (pInt .i8)) [.slice a14 x.Last.length q14] x.Last :: Hold (pRo (pInt .i8)) [.slice a17 x.Head.V.length q17] x.Head.V :: l) := by
  obtain ⟨R, Ss, hc⟩ := h
  match Ss, hc with
  | S :: Ss, hc =>
    obtain ⟨⟨rfl, ⟨_, _, rfl, rfl, ⟨_, _, rfl, rfl, ⟨_, _, rfl, rfl, ⟨_, _, rfl, rfl, ⟨_, _, rfl, ⟨_, _, rfl, rfl, ⟨_, _, rfl, rfl, ⟨_, rfl, a12, q12, rfl, hc12, hr12⟩⟩⟩, ⟨_, _, rfl, ⟨_, rfl, a13, q13, rfl, hc13, hr13⟩, ⟨_, _, rfl, ⟨_, rfl, a14, q14, rfl, hc14, hr14⟩, ⟨_, _, rfl, rfl, ⟨_, _, rfl, rfl, ⟨_, rfl, a17, q17, rfl, hc17, hr17⟩⟩⟩⟩⟩⟩⟩⟩⟩⟩⟩, h3⟩ := hc.all
    exact ⟨a12, q12, a13, q13, a14, q14, a17, q17, rfl, R, [] :: [] :: [] :: [] :: Ss, ⟨⟨rfl, _, rfl, a12, q12, rfl, hc12, hr12⟩, ⟨rfl, _, rfl, a13, q13, rfl, hc13, hr13⟩, ⟨rfl, _, rfl, a14, q14, rfl, hc14, hr14⟩, ⟨rfl, _, rfl, a17, q17, rfl, hc17, hr17⟩, h3⟩, by simpa using hc.nodup, by simpa using hc.own, hc.fz⟩
theorem S_api_Shard.cl {w : World} {l : List HP} {z0 : Int} {z1 : Int} {z2 : Int} {z3 : Int} {z4 : Int} {z5 : Int} {z6 : Int} {z7 : Int} {z8 : Int} {z9 : Int} {z10 : Int} {z11 : Int} {z12 : (List Int)} {z13 : (List S_api_Block)} {z14 : (List Int)} {z15 : Int} {z16 : Int} {z17 : (List Int)} {v12 v13 v14 v17 : Value} (h : Ctx w (Hold (pRo (pInt .i8)) [v12] z12 :: Hold (pRo S_api_Block.pr) [v13] z13 :: Hold (pRo (pInt .i8)) [v14] z14 :: Hold (pRo (pInt .i8)) [v17] z17 :: l)) : Ctx w (Hold S_api_Shard.pr [.int .i64 z0, .int .i64 z1, .int .i64 z2, .int .i64 z3, .int .i64 z4, .int .i64 z5, .int .i64 z6, .int .i64 z7, .int .i64 z8, .int .i64 z9, .int .i64 z10, .int .i64 z11, v12, v13, v14, .int .i64 z15, .int .i64 z16, v17] (⟨⟨z0, z1, z2, z3, z4, z5⟩, ⟨z6, z7⟩, z8, z9, ⟨z10, z11, z12⟩, z13, z14, ⟨z15, z16, z17⟩⟩ : S_api_Shard) :: l) := by
  obtain ⟨R, Ss, hc⟩ := h
  match Ss, hc with
  | S12 :: S13 :: S14 :: S17 :: Ss, hc =>
    obtain ⟨⟨rfl, _, e12, hr12⟩, ⟨rfl, _, e13, hr13⟩, ⟨rfl, _, e14, hr14⟩, ⟨rfl, _, e17, hr17⟩, h3⟩ := hc.all
    injection e12 with e12; subst e12
    injection e13 with e13; subst e13
    injection e14 with e14; subst e14
    injection e17 with e17; subst e17
    exact ⟨R, [] :: Ss, ⟨⟨rfl, ⟨_, _, rfl, rfl, ⟨_, _, rfl, rfl, ⟨_, _, rfl, rfl, ⟨_, _, rfl, rfl, ⟨_, _, rfl, ⟨_, _, rfl, rfl, ⟨_, _, rfl, rfl, ⟨_, rfl, hr12⟩⟩⟩, ⟨_, _, rfl, ⟨_, rfl, hr13⟩, ⟨_, _, rfl, ⟨_, rfl, hr14⟩, ⟨_, _, rfl, rfl, ⟨_, _, rfl, rfl, ⟨_, rfl, hr17⟩⟩⟩⟩⟩⟩⟩⟩⟩⟩⟩, h3⟩, by simpa using hc.nodup, by simpa using hc.own, hc.fz⟩
  | [], hc => exact hc.all.elim
  | [_], hc => exact hc.all.2.elim
  | [_, _], hc => exact hc.all.2.2.elim
  | [_, _, _], hc => exact hc.all.2.2.2.elim

structure A2_i64 where
  c0 : Int
  c1 : Int
  deriving DecidableEq

def A2_i64.pr : PR A2_i64 2 := pC (fun x => [.int .i64 x.c0, .int .i64 x.c1]) (fun _ => rfl) (fun _ => rfl)

structure S_part_spans where
  layers : A2_i64
  heads : A2_i64
  inner : A2_i64
  deriving DecidableEq

structure S_api_Spot where
  Request : Int
  Layer : Int
  Place : Int
  deriving DecidableEq

structure S_cache_rows where
  k : (List Int)
  v : (List Int)
  deriving DecidableEq

def S_cache_rows.pr : PR S_cache_rows 2 := pMap (fun x : S_cache_rows => (x.k, x.v)) (pSeq (pRo (pInt .i8)) (pRo (pInt .i8)))

theorem S_cache_rows.op {w : World} {l : List HP} {cs : List Value} {x : S_cache_rows} (h : Ctx w (Hold S_cache_rows.pr cs x :: l)) : ∃ a0 q0 a1 q1, cs = [.slice a0 x.k.length q0, .slice a1 x.v.length q1] ∧ Ctx w (Hold (pRo (pInt .i8)) [.slice a0 x.k.length q0] x.k :: Hold (pRo (pInt .i8)) [.slice a1 x.v.length q1] x.v :: l) := by
  obtain ⟨R, Ss, hc⟩ := h
  match Ss, hc with
  | S :: Ss, hc =>
    obtain ⟨⟨rfl, ⟨_, _, rfl, ⟨_, rfl, a0, q0, rfl, hc0, hr0⟩, ⟨_, rfl, a1, q1, rfl, hc1, hr1⟩⟩⟩, h3⟩ := hc.all
    exact ⟨a0, q0, a1, q1, rfl, R, [] :: [] :: Ss, ⟨⟨rfl, _, rfl, a0, q0, rfl, hc0, hr0⟩, ⟨rfl, _, rfl, a1, q1, rfl, hc1, hr1⟩, h3⟩, by simpa using hc.nodup, by simpa using hc.own, hc.fz⟩
theorem S_cache_rows.cl {w : World} {l : List HP} {z0 : (List Int)} {z1 : (List Int)} {v0 v1 : Value} (h : Ctx w (Hold (pRo (pInt .i8)) [v0] z0 :: Hold (pRo (pInt .i8)) [v1] z1 :: l)) : Ctx w (Hold S_cache_rows.pr [v0, v1] (⟨z0, z1⟩ : S_cache_rows) :: l) := by
  obtain ⟨R, Ss, hc⟩ := h
  match Ss, hc with
  | S0 :: S1 :: Ss, hc =>
    obtain ⟨⟨rfl, _, e0, hr0⟩, ⟨rfl, _, e1, hr1⟩, h3⟩ := hc.all
    injection e0 with e0; subst e0
    injection e1 with e1; subst e1
    exact ⟨R, [] :: Ss, ⟨⟨rfl, ⟨_, _, rfl, ⟨_, rfl, hr0⟩, ⟨_, rfl, hr1⟩⟩⟩, h3⟩, by simpa using hc.nodup, by simpa using hc.own, hc.fz⟩
  | [], hc => exact hc.all.elim
  | [_], hc => exact hc.all.2.elim

def S_api_Spot.cs (x : S_api_Spot) : List Value := [.int .i64 x.Request, .int .i64 x.Layer, .int .i64 x.Place]
def S_api_Spot.ek (x : S_api_Spot) : Value := .agg (S_api_Spot.cs x).toArray
theorem S_api_Spot.eql (w : World) (x y : S_api_Spot) : (Op.equal 55 (.agg (S_api_Spot.cs x).toArray) (.agg (S_api_Spot.cs y).toArray)).run Tryz.prog w = .ok (decide (x = y)) w := by
  have hst : Tryz.prog.stoodInHeld 55 = false := by kernel_rfl
  have pt3 : ∀ {off : Nat} {xs : Array Value} {v : Value} {w : World}, xs[off]? = some v → (part 3 xs off).run Tryz.prog w = .ok v w := fun h => by simp [part, Tryz.isAgg3, h]
  have eq3 : ∀ (d : Nat) (k : IntKind) (a b : Int) (w : World), (Op.equalIn (d + 1) 3 (.int k a) (.int k b)).run Tryz.prog w = .ok (a == b) w := fun d k a b w => by simp [Op.equalIn, run_underlying Tryz.underlying3]
  have key : ∀ d, (Op.equalIn (d + 2) 55 (.agg (S_api_Spot.cs x).toArray) (.agg (S_api_Spot.cs y).toArray)).run Tryz.prog w = .ok (decide (x = y)) w := by
    intro d
    obtain ⟨a0, a1, a2⟩ := x
    obtain ⟨b0, b1, b2⟩ := y
    rw [Op.equalIn]
    simp [run_underlying Tryz.underlying55, S_api_Spot.cs, hst, pt3, eq3]
    repeat' split
    all_goals simp_all
  exact key 9998
theorem S_api_Spot.keyL : KeyL Tryz.prog 55 S_api_Spot S_api_Spot.ek := keyL_agg (f := S_api_Spot.cs) Tryz.underlying55 S_api_Spot.eql
  (fun b k w => by
    have h : ∀ n, (Instr.checkKey b (n + 2) 55 (.agg (S_api_Spot.cs k).toArray)).run Tryz.prog w = .ok () w := by
      intro n
      simp [Instr.checkKey, run_underlying Tryz.underlying55, S_api_Spot.cs, part, Tryz.isAgg3, run_underlying Tryz.underlying3]
    exact h 9998)
  (fun k => by
    have h : ∀ n, Instr.sameBits (n + 2) (.agg (S_api_Spot.cs k).toArray) (.agg (S_api_Spot.cs k).toArray) = true := by
      intro n
      simp [Instr.sameBits, S_api_Spot.cs]
    exact h 9998)

structure S_cache_Store where
  room : Int
  m : (List (S_api_Spot × S_cache_rows))
  deriving DecidableEq

def S_cache_Store.hp (b : Nat) (x : S_cache_Store) : HP := Ex fun v1 : Nat => Sep (B b [.int .i64 x.room, .map (some v1)] 101) (Mp S_api_Spot.ek (HV vfA S_cache_rows.pr) v1 x.m)

theorem S_cache_Store.uf {w : World} {l : List HP} {b : Nat} {x : S_cache_Store} (h : Ctx w (S_cache_Store.hp b x :: l)) : ∃ (v1 : Nat), Ctx w (B b [.int .i64 x.room, .map (some v1)] 101 :: Mp S_api_Spot.ek (HV vfA S_cache_rows.pr) v1 x.m :: l) := by
  obtain ⟨v1, h⟩ := Ctx.exF h
  replace h := Ctx.sepF h
  exact ⟨v1, h⟩
theorem S_cache_Store.fd {w : World} {l : List HP} {b : Nat} {x : S_cache_Store} {v1 : Nat} (h : Ctx w (B b [.int .i64 x.room, .map (some v1)] 101 :: Mp S_api_Spot.ek (HV vfA S_cache_rows.pr) v1 x.m :: l)) : Ctx w (S_cache_Store.hp b x :: l) := Ctx.exB _ _ (Ctx.sepB h)

structure S_law13_run where
  request : Int
  place : Int
  token : Int
  turn : Int
  deriving DecidableEq

structure A6_i64 where
  c0 : Int
  c1 : Int
  c2 : Int
  c3 : Int
  c4 : Int
  c5 : Int
  deriving DecidableEq

def A6_i64.pr : PR A6_i64 6 := pC (fun x => [.int .i64 x.c0, .int .i64 x.c1, .int .i64 x.c2, .int .i64 x.c3, .int .i64 x.c4, .int .i64 x.c5]) (fun _ => rfl) (fun _ => rfl)

structure S_ref07_Row where
  Gain : Bool
  N : Int
  deriving DecidableEq

def S_ref07_Row.pr : PR S_ref07_Row 2 := pC (fun x => [.bool x.Gain, .int .i64 x.N]) (fun _ => rfl) (fun _ => rfl)

structure S_ref08_Kept where
  K : (List (List Int))
  V : (List (List Int))
  deriving DecidableEq

def S_ref08_Kept.vp : VP S_ref08_Kept 2 := ⟨fun cs x => Ex fun v0 : Value => Ex fun v1 : Value => Sep (Sep (Pu (cs = [v0, v1] ∧ ([v0, v1] : List Value).all (·.oneCell') = true)) (Own (pRo (pInt .i8)) 30 v0 x.K)) (Own (pRo (pInt .i8)) 30 v1 x.V),
  fun h => by obtain ⟨_, ⟨_, ⟨_, _, _, ⟨_, _, _, ⟨_, e, h1⟩, _⟩, _⟩⟩⟩ := h; rw [e]; rfl,
  fun h v hv => by obtain ⟨_, ⟨_, ⟨_, _, _, ⟨_, _, _, ⟨_, e, h1⟩, _⟩, _⟩⟩⟩ := h; rw [e] at hv; exact List.all_eq_true.1 h1 v hv⟩

structure S_ref08_Run where
  W : S_api_Weights
  L : (List S_ref08_Kept)
  deriving DecidableEq

def S_ref08_Run.hp (b : Nat) (x : S_ref08_Run) : HP := Ex fun v8 : Value => Ex fun v9 : Value => Ex fun v10 : Value => Ex fun v13 : Value => Ex fun v14 : Value => Sep (Sep (Sep (Sep (Sep (B b [.int .i64 x.W.Shape.Layers, .int .i64 x.W.Shape.Width, .int .i64 x.W.Shape.Heads, .int .i64 x.W.Shape.Inner, .int .i64 x.W.Shape.Vocab, .int .i64 x.W.Shape.Places, .int .i64 x.W.Embed.Rows, .int .i64 x.W.Embed.Cols, v8, v9, v10, .int .i64 x.W.Head.Rows, .int .i64 x.W.Head.Cols, v13, v14] 77) (Hold (pRo (pInt .i8)) [v8] x.W.Embed.V)) (Hold (pRo S_api_Block.pr) [v9] x.W.Blocks)) (Hold (pRo (pInt .i8)) [v10] x.W.Last)) (Hold (pRo (pInt .i8)) [v13] x.W.Head.V)) (OwnV S_ref08_Kept.vp 132 v14 x.L)

theorem S_ref08_Run.uf {w : World} {l : List HP} {b : Nat} {x : S_ref08_Run} (h : Ctx w (S_ref08_Run.hp b x :: l)) : ∃ (a8 : Option Addr) (q8 : Nat) (a9 : Option Addr) (q9 : Nat) (a10 : Option Addr) (q10 : Nat) (a13 : Option Addr) (q13 : Nat) (a14 : Option Addr) (q14 : Nat), Ctx w (B b [.int .i64 x.W.Shape.Layers, .int .i64 x.W.Shape.Width, .int .i64 x.W.Shape.Heads, .int .i64 x.W.Shape.Inner, .int .i64 x.W.Shape.Vocab, .int .i64 x.W.Shape.Places, .int .i64 x.W.Embed.Rows, .int .i64 x.W.Embed.Cols, .slice a8 x.W.Embed.V.length q8, .slice a9 x.W.Blocks.length q9, .slice a10 x.W.Last.length q10, .int .i64 x.W.Head.Rows, .int .i64 x.W.Head.Cols, .slice a13 x.W.Head.V.length q13, .slice a14 x.L.length q14] 77 :: Hold (pRo (pInt .i8)) [(.slice a8 x.W.Embed.V.length q8)] x.W.Embed.V :: Hold (pRo S_api_Block.pr) [(.slice a9 x.W.Blocks.length q9)] x.W.Blocks :: Hold (pRo (pInt .i8)) [(.slice a10 x.W.Last.length q10)] x.W.Last :: Hold (pRo (pInt .i8)) [(.slice a13 x.W.Head.V.length q13)] x.W.Head.V :: OwnV S_ref08_Kept.vp 132 (.slice a14 x.L.length q14) x.L :: l) := by
  obtain ⟨v8, h⟩ := Ctx.exF h
  obtain ⟨v9, h⟩ := Ctx.exF h
  obtain ⟨v10, h⟩ := Ctx.exF h
  obtain ⟨v13, h⟩ := Ctx.exF h
  obtain ⟨v14, h⟩ := Ctx.exF h
  replace h := Ctx.sepF h
  replace h := Ctx.sepF h
  replace h := Ctx.sepF h
  replace h := Ctx.sepF h
  replace h := Ctx.sepF h
  obtain ⟨a8, q8, u8⟩ := h.rd (k := 1) rfl rfl reads_ro; subst u8
  obtain ⟨a9, q9, u9⟩ := h.rd (k := 2) rfl rfl reads_ro; subst u9
  obtain ⟨a10, q10, u10⟩ := h.rd (k := 3) rfl rfl reads_ro; subst u10
  obtain ⟨a13, q13, u13⟩ := h.rd (k := 4) rfl rfl reads_ro; subst u13
  obtain ⟨a14, q14, u14⟩ := h.ownVLen (k := 5) rfl rfl; subst u14
  exact ⟨a8, q8, a9, q9, a10, q10, a13, q13, a14, q14, h⟩
theorem S_ref08_Run.fd {w : World} {l : List HP} {b : Nat} {x : S_ref08_Run} {v8 : Value} {v9 : Value} {v10 : Value} {v13 : Value} {v14 : Value} (h : Ctx w (B b [.int .i64 x.W.Shape.Layers, .int .i64 x.W.Shape.Width, .int .i64 x.W.Shape.Heads, .int .i64 x.W.Shape.Inner, .int .i64 x.W.Shape.Vocab, .int .i64 x.W.Shape.Places, .int .i64 x.W.Embed.Rows, .int .i64 x.W.Embed.Cols, v8, v9, v10, .int .i64 x.W.Head.Rows, .int .i64 x.W.Head.Cols, v13, v14] 77 :: Hold (pRo (pInt .i8)) [v8] x.W.Embed.V :: Hold (pRo S_api_Block.pr) [v9] x.W.Blocks :: Hold (pRo (pInt .i8)) [v10] x.W.Last :: Hold (pRo (pInt .i8)) [v13] x.W.Head.V :: OwnV S_ref08_Kept.vp 132 v14 x.L :: l)) : Ctx w (S_ref08_Run.hp b x :: l) := Ctx.exB _ _ (Ctx.exB _ _ (Ctx.exB _ _ (Ctx.exB _ _ (Ctx.exB _ _ (Ctx.sepB (Ctx.sepB (Ctx.sepB (Ctx.sepB (Ctx.sepB h)))))))))

structure S_law13_Seeds where
  N : A6_i64
  Seed : Int
  A : Int
  B : Int
  deriving DecidableEq

def S_law13_Seeds.pr : PR S_law13_Seeds 9 := pC (fun x => [.int .i64 x.N.c0, .int .i64 x.N.c1, .int .i64 x.N.c2, .int .i64 x.N.c3, .int .i64 x.N.c4, .int .i64 x.N.c5, .int .u64 x.Seed, .int .i64 x.A, .int .i64 x.B]) (fun _ => rfl) (fun _ => rfl)

abbrev S_api_Shape.cz (x : S_api_Shape) : List Value := [.int .i64 x.Layers, .int .i64 x.Width, .int .i64 x.Heads, .int .i64 x.Inner, .int .i64 x.Vocab, .int .i64 x.Places]
abbrev S_api_Mat.cz (x : S_api_Mat) (a2 : Option Addr) (q2 : Nat) : List Value := [.int .i64 x.Rows, .int .i64 x.Cols, .slice a2 x.V.length q2]
abbrev S_api_Shard.cz (x : S_api_Shard) (a12 : Option Addr) (q12 : Nat) (a13 : Option Addr) (q13 : Nat) (a14 : Option Addr) (q14 : Nat) (a17 : Option Addr) (q17 : Nat) : List Value := [.int .i64 x.Shape.Layers, .int .i64 x.Shape.Width, .int .i64 x.Shape.Heads, .int .i64 x.Shape.Inner, .int .i64 x.Shape.Vocab, .int .i64 x.Shape.Places, .int .i64 x.Cut.Stages, .int .i64 x.Cut.Parts, .int .i64 x.Stage, .int .i64 x.Part, .int .i64 x.Embed.Rows, .int .i64 x.Embed.Cols, .slice a12 x.Embed.V.length q12, .slice a13 x.Blocks.length q13, .slice a14 x.Last.length q14, .int .i64 x.Head.Rows, .int .i64 x.Head.Cols, .slice a17 x.Head.V.length q17]
abbrev S_part_spans.cz (x : S_part_spans) : List Value := [.int .i64 x.layers.c0, .int .i64 x.layers.c1, .int .i64 x.heads.c0, .int .i64 x.heads.c1, .int .i64 x.inner.c0, .int .i64 x.inner.c1]
abbrev S_api_Block.cz (x : S_api_Block) (a0 : Option Addr) (q0 : Nat) (a1 : Option Addr) (q1 : Nat) (a4 : Option Addr) (q4 : Nat) (a7 : Option Addr) (q7 : Nat) (a10 : Option Addr) (q10 : Nat) (a13 : Option Addr) (q13 : Nat) (a16 : Option Addr) (q16 : Nat) (a19 : Option Addr) (q19 : Nat) : List Value := [.slice a0 x.First.length q0, .slice a1 x.Second.length q1, .int .i64 x.Q.Rows, .int .i64 x.Q.Cols, .slice a4 x.Q.V.length q4, .int .i64 x.K.Rows, .int .i64 x.K.Cols, .slice a7 x.K.V.length q7, .int .i64 x.V.Rows, .int .i64 x.V.Cols, .slice a10 x.V.V.length q10, .int .i64 x.O.Rows, .int .i64 x.O.Cols, .slice a13 x.O.V.length q13, .int .i64 x.Up.Rows, .int .i64 x.Up.Cols, .slice a16 x.Up.V.length q16, .int .i64 x.Down.Rows, .int .i64 x.Down.Cols, .slice a19 x.Down.V.length q19]
abbrev S_api_Spot.cz (x : S_api_Spot) : List Value := [.int .i64 x.Request, .int .i64 x.Layer, .int .i64 x.Place]
abbrev S_law13_run.cz (x : S_law13_run) : List Value := [.int .i64 x.request, .int .i64 x.place, .int .i64 x.token, .int .i64 x.turn]
abbrev A6_i64.cz (x : A6_i64) : List Value := [.int .i64 x.c0, .int .i64 x.c1, .int .i64 x.c2, .int .i64 x.c3, .int .i64 x.c4, .int .i64 x.c5]
abbrev S_api_Weights.cz (x : S_api_Weights) (a8 : Option Addr) (q8 : Nat) (a9 : Option Addr) (q9 : Nat) (a10 : Option Addr) (q10 : Nat) (a13 : Option Addr) (q13 : Nat) : List Value := [.int .i64 x.Shape.Layers, .int .i64 x.Shape.Width, .int .i64 x.Shape.Heads, .int .i64 x.Shape.Inner, .int .i64 x.Shape.Vocab, .int .i64 x.Shape.Places, .int .i64 x.Embed.Rows, .int .i64 x.Embed.Cols, .slice a8 x.Embed.V.length q8, .slice a9 x.Blocks.length q9, .slice a10 x.Last.length q10, .int .i64 x.Head.Rows, .int .i64 x.Head.Cols, .slice a13 x.Head.V.length q13]
abbrev S_ref08_Run.cz (x : S_ref08_Run) (a8 : Option Addr) (q8 : Nat) (a9 : Option Addr) (q9 : Nat) (a10 : Option Addr) (q10 : Nat) (a13 : Option Addr) (q13 : Nat) (a14 : Option Addr) (q14 : Nat) : List Value := [.int .i64 x.W.Shape.Layers, .int .i64 x.W.Shape.Width, .int .i64 x.W.Shape.Heads, .int .i64 x.W.Shape.Inner, .int .i64 x.W.Shape.Vocab, .int .i64 x.W.Shape.Places, .int .i64 x.W.Embed.Rows, .int .i64 x.W.Embed.Cols, .slice a8 x.W.Embed.V.length q8, .slice a9 x.W.Blocks.length q9, .slice a10 x.W.Last.length q10, .int .i64 x.W.Head.Rows, .int .i64 x.W.Head.Cols, .slice a13 x.W.Head.V.length q13, .slice a14 x.L.length q14]
abbrev S_law13_Seeds.cz (x : S_law13_Seeds) : List Value := [.int .i64 x.N.c0, .int .i64 x.N.c1, .int .i64 x.N.c2, .int .i64 x.N.c3, .int .i64 x.N.c4, .int .i64 x.N.c5, .int .u64 x.Seed, .int .i64 x.A, .int .i64 x.B]
abbrev C10 := @Tryz.call10
abbrev C100 := @Tryz.call100
abbrev C101 := @Tryz.call101
abbrev C102 := @Tryz.call102
abbrev C103 := @Tryz.call103
abbrev C104 := @Tryz.call104
abbrev C105 := @Tryz.call105
abbrev C106 := @Tryz.call106
abbrev C107 := @Tryz.call107
abbrev C108 := @Tryz.call108
abbrev C109 := @Tryz.call109
abbrev C11 := @Tryz.call11
abbrev C110 := @Tryz.call110
abbrev C111 := @Tryz.call111
abbrev C112 := @Tryz.call112
abbrev C113 := @Tryz.call113
abbrev C114 := @Tryz.call114
abbrev C115 := @Tryz.call115
abbrev C116 := @Tryz.call116
abbrev C117 := @Tryz.call117
abbrev C118 := @Tryz.call118
abbrev C119 := @Tryz.call119
abbrev C120 := @Tryz.call120
abbrev C121 := @Tryz.call121
abbrev C122 := @Tryz.call122
abbrev C123 := @Tryz.call123
abbrev C124 := @Tryz.call124
abbrev C125 := @Tryz.call125
abbrev C126 := @Tryz.call126
abbrev C127 := @Tryz.call127
abbrev C128 := @Tryz.call128
abbrev C129 := @Tryz.call129
abbrev C13 := @Tryz.call13
abbrev C130 := @Tryz.call130
abbrev C131 := @Tryz.call131
abbrev C132 := @Tryz.call132
abbrev C133 := @Tryz.call133
abbrev C134 := @Tryz.call134
abbrev C135 := @Tryz.call135
abbrev C136 := @Tryz.call136
abbrev C15 := @Tryz.call15
abbrev C17 := @Tryz.call17
abbrev C18 := @Tryz.call18
abbrev C19 := @Tryz.call19
abbrev C20 := @Tryz.call20
abbrev C21 := @Tryz.call21
abbrev C22 := @Tryz.call22
abbrev C23 := @Tryz.call23
abbrev C25 := @Tryz.call25
abbrev C26 := @Tryz.call26
abbrev C27 := @Tryz.call27
abbrev C28 := @Tryz.call28
abbrev C29 := @Tryz.call29
abbrev C30 := @Tryz.call30
abbrev C31 := @Tryz.call31
abbrev C32 := @Tryz.call32
abbrev C33 := @Tryz.call33
abbrev C34 := @Tryz.call34
abbrev C35 := @Tryz.call35
abbrev C36 := @Tryz.call36
abbrev C37 := @Tryz.call37
abbrev C38 := @Tryz.call38
abbrev C39 := @Tryz.call39
abbrev C45 := @Tryz.call45
abbrev C46 := @Tryz.call46
abbrev C47 := @Tryz.call47
abbrev C48 := @Tryz.call48
abbrev C49 := @Tryz.call49
abbrev C50 := @Tryz.call50
abbrev C51 := @Tryz.call51
abbrev C52 := @Tryz.call52
abbrev C53 := @Tryz.call53
abbrev C54 := @Tryz.call54
abbrev C55 := @Tryz.call55
abbrev C56 := @Tryz.call56
abbrev C57 := @Tryz.call57
abbrev C58 := @Tryz.call58
abbrev C59 := @Tryz.call59
abbrev C60 := @Tryz.call60
abbrev C61 := @Tryz.call61
abbrev C62 := @Tryz.call62
abbrev C63 := @Tryz.call63
abbrev C64 := @Tryz.call64
abbrev C65 := @Tryz.call65
abbrev C66 := @Tryz.call66
abbrev C67 := @Tryz.call67
abbrev C68 := @Tryz.call68
abbrev C69 := @Tryz.call69
abbrev C7 := @Tryz.call7
abbrev C70 := @Tryz.call70
abbrev C71 := @Tryz.call71
abbrev C72 := @Tryz.call72
abbrev C73 := @Tryz.call73
abbrev C74 := @Tryz.call74
abbrev C75 := @Tryz.call75
abbrev C76 := @Tryz.call76
abbrev C77 := @Tryz.call77
abbrev C78 := @Tryz.call78
abbrev C79 := @Tryz.call79
abbrev C8 := @Tryz.call8
abbrev C80 := @Tryz.call80
abbrev C81 := @Tryz.call81
abbrev C82 := @Tryz.call82
abbrev C83 := @Tryz.call83
abbrev C84 := @Tryz.call84
abbrev C85 := @Tryz.call85
abbrev C86 := @Tryz.call86
abbrev C87 := @Tryz.call87
abbrev C88 := @Tryz.call88
abbrev C89 := @Tryz.call89
abbrev C9 := @Tryz.call9
abbrev C90 := @Tryz.call90
abbrev C91 := @Tryz.call91
abbrev C92 := @Tryz.call92
abbrev C93 := @Tryz.call93
abbrev C94 := @Tryz.call94
abbrev C95 := @Tryz.call95
abbrev C96 := @Tryz.call96
abbrev C97 := @Tryz.call97
abbrev C98 := @Tryz.call98
abbrev C99 := @Tryz.call99
abbrev F10 := @Tryz.func10
abbrev F101 := @Tryz.func101
abbrev F102 := @Tryz.func102
abbrev F103 := @Tryz.func103
abbrev F104 := @Tryz.func104
abbrev F105 := @Tryz.func105
abbrev F106 := @Tryz.func106
abbrev F107 := @Tryz.func107
abbrev F108 := @Tryz.func108
abbrev F109 := @Tryz.func109
abbrev F11 := @Tryz.func11
abbrev F110 := @Tryz.func110
abbrev F111 := @Tryz.func111
abbrev F112 := @Tryz.func112
abbrev F113 := @Tryz.func113
abbrev F114 := @Tryz.func114
abbrev F115 := @Tryz.func115
abbrev F116 := @Tryz.func116
abbrev F117 := @Tryz.func117
abbrev F118 := @Tryz.func118
abbrev F119 := @Tryz.func119
abbrev F120 := @Tryz.func120
abbrev F121 := @Tryz.func121
abbrev F122 := @Tryz.func122
abbrev F123 := @Tryz.func123
abbrev F125 := @Tryz.func125
abbrev F128 := @Tryz.func128
abbrev F129 := @Tryz.func129
abbrev F13 := @Tryz.func13
abbrev F130 := @Tryz.func130
abbrev F131 := @Tryz.func131
abbrev F132 := @Tryz.func132
abbrev F133 := @Tryz.func133
abbrev F134 := @Tryz.func134
abbrev F135 := @Tryz.func135
abbrev F136 := @Tryz.func136
abbrev F15 := @Tryz.func15
abbrev F17 := @Tryz.func17
abbrev F18 := @Tryz.func18
abbrev F19 := @Tryz.func19
abbrev F20 := @Tryz.func20
abbrev F21 := @Tryz.func21
abbrev F22 := @Tryz.func22
abbrev F23 := @Tryz.func23
abbrev F25 := @Tryz.func25
abbrev F26 := @Tryz.func26
abbrev F27 := @Tryz.func27
abbrev F28 := @Tryz.func28
abbrev F29 := @Tryz.func29
abbrev F30 := @Tryz.func30
abbrev F31 := @Tryz.func31
abbrev F32 := @Tryz.func32
abbrev F33 := @Tryz.func33
abbrev F34 := @Tryz.func34
abbrev F35 := @Tryz.func35
abbrev F36 := @Tryz.func36
abbrev F37 := @Tryz.func37
abbrev F38 := @Tryz.func38
abbrev F39 := @Tryz.func39
abbrev F45 := @Tryz.func45
abbrev F46 := @Tryz.func46
abbrev F47 := @Tryz.func47
abbrev F48 := @Tryz.func48
abbrev F49 := @Tryz.func49
abbrev F5 := @Tryz.func5
abbrev F50 := @Tryz.func50
abbrev F51 := @Tryz.func51
abbrev F52 := @Tryz.func52
abbrev F53 := @Tryz.func53
abbrev F54 := @Tryz.func54
abbrev F55 := @Tryz.func55
abbrev F56 := @Tryz.func56
abbrev F57 := @Tryz.func57
abbrev F58 := @Tryz.func58
abbrev F59 := @Tryz.func59
abbrev F60 := @Tryz.func60
abbrev F61 := @Tryz.func61
abbrev F62 := @Tryz.func62
abbrev F63 := @Tryz.func63
abbrev F64 := @Tryz.func64
abbrev F65 := @Tryz.func65
abbrev F66 := @Tryz.func66
abbrev F67 := @Tryz.func67
abbrev F68 := @Tryz.func68
abbrev F69 := @Tryz.func69
abbrev F7 := @Tryz.func7
abbrev F70 := @Tryz.func70
abbrev F71 := @Tryz.func71
abbrev F73 := @Tryz.func73
abbrev F74 := @Tryz.func74
abbrev F75 := @Tryz.func75
abbrev F76 := @Tryz.func76
abbrev F77 := @Tryz.func77
abbrev F78 := @Tryz.func78
abbrev F79 := @Tryz.func79
abbrev F8 := @Tryz.func8
abbrev F80 := @Tryz.func80
abbrev F81 := @Tryz.func81
abbrev F82 := @Tryz.func82
abbrev F83 := @Tryz.func83
abbrev F84 := @Tryz.func84
abbrev F85 := @Tryz.func85
abbrev F86 := @Tryz.func86
abbrev F87 := @Tryz.func87
abbrev F88 := @Tryz.func88
abbrev F89 := @Tryz.func89
abbrev F9 := @Tryz.func9
abbrev F90 := @Tryz.func90
abbrev F91 := @Tryz.func91
abbrev F92 := @Tryz.func92
abbrev F93 := @Tryz.func93
abbrev F94 := @Tryz.func94
abbrev F95 := @Tryz.func95
abbrev F96 := @Tryz.func96
abbrev F97 := @Tryz.func97
abbrev F98 := @Tryz.func98
abbrev F99 := @Tryz.func99
abbrev G110 := @Tryz.isAgg110
abbrev G196 := @Tryz.isAgg196
abbrev G2 := @Tryz.isAgg2
abbrev G21 := @Tryz.isAgg21
abbrev G22 := @Tryz.isAgg22
abbrev G23 := @Tryz.isAgg23
abbrev G25 := @Tryz.isAgg25
abbrev G29 := @Tryz.isAgg29
abbrev G3 := @Tryz.isAgg3
abbrev G30 := @Tryz.isAgg30
abbrev G32 := @Tryz.isAgg32
abbrev G33 := @Tryz.isAgg33
abbrev G35 := @Tryz.isAgg35
abbrev G37 := @Tryz.isAgg37
abbrev G4 := @Tryz.isAgg4
abbrev G41 := @Tryz.isAgg41
abbrev G43 := @Tryz.isAgg43
abbrev G51 := @Tryz.isAgg51
abbrev G55 := @Tryz.isAgg55
abbrev G74 := @Tryz.isAgg74
abbrev G75 := @Tryz.isAgg75
abbrev G88 := @Tryz.isAgg88
abbrev G89 := @Tryz.isAgg89
abbrev G97 := @Tryz.isAgg97
abbrev G99 := @Tryz.isAgg99
abbrev M10 := @Tryz.ntmps10
abbrev M101 := @Tryz.ntmps101
abbrev M102 := @Tryz.ntmps102
abbrev M103 := @Tryz.ntmps103
abbrev M104 := @Tryz.ntmps104
abbrev M105 := @Tryz.ntmps105
abbrev M106 := @Tryz.ntmps106
abbrev M107 := @Tryz.ntmps107
abbrev M108 := @Tryz.ntmps108
abbrev M109 := @Tryz.ntmps109
abbrev M11 := @Tryz.ntmps11
abbrev M110 := @Tryz.ntmps110
abbrev M111 := @Tryz.ntmps111
abbrev M112 := @Tryz.ntmps112
abbrev M113 := @Tryz.ntmps113
abbrev M114 := @Tryz.ntmps114
abbrev M115 := @Tryz.ntmps115
abbrev M116 := @Tryz.ntmps116
abbrev M117 := @Tryz.ntmps117
abbrev M118 := @Tryz.ntmps118
abbrev M119 := @Tryz.ntmps119
abbrev M120 := @Tryz.ntmps120
abbrev M121 := @Tryz.ntmps121
abbrev M122 := @Tryz.ntmps122
abbrev M123 := @Tryz.ntmps123
abbrev M125 := @Tryz.ntmps125
abbrev M128 := @Tryz.ntmps128
abbrev M129 := @Tryz.ntmps129
abbrev M13 := @Tryz.ntmps13
abbrev M130 := @Tryz.ntmps130
abbrev M131 := @Tryz.ntmps131
abbrev M132 := @Tryz.ntmps132
abbrev M133 := @Tryz.ntmps133
abbrev M134 := @Tryz.ntmps134
abbrev M135 := @Tryz.ntmps135
abbrev M136 := @Tryz.ntmps136
abbrev M15 := @Tryz.ntmps15
abbrev M17 := @Tryz.ntmps17
abbrev M18 := @Tryz.ntmps18
abbrev M19 := @Tryz.ntmps19
abbrev M20 := @Tryz.ntmps20
abbrev M21 := @Tryz.ntmps21
abbrev M22 := @Tryz.ntmps22
abbrev M23 := @Tryz.ntmps23
abbrev M25 := @Tryz.ntmps25
abbrev M26 := @Tryz.ntmps26
abbrev M27 := @Tryz.ntmps27
abbrev M28 := @Tryz.ntmps28
abbrev M29 := @Tryz.ntmps29
abbrev M30 := @Tryz.ntmps30
abbrev M31 := @Tryz.ntmps31
abbrev M32 := @Tryz.ntmps32
abbrev M33 := @Tryz.ntmps33
abbrev M34 := @Tryz.ntmps34
abbrev M35 := @Tryz.ntmps35
abbrev M36 := @Tryz.ntmps36
abbrev M37 := @Tryz.ntmps37
abbrev M38 := @Tryz.ntmps38
abbrev M39 := @Tryz.ntmps39
abbrev M45 := @Tryz.ntmps45
abbrev M46 := @Tryz.ntmps46
abbrev M47 := @Tryz.ntmps47
abbrev M48 := @Tryz.ntmps48
abbrev M49 := @Tryz.ntmps49
abbrev M5 := @Tryz.ntmps5
abbrev M50 := @Tryz.ntmps50
abbrev M51 := @Tryz.ntmps51
abbrev M52 := @Tryz.ntmps52
abbrev M53 := @Tryz.ntmps53
abbrev M54 := @Tryz.ntmps54
abbrev M55 := @Tryz.ntmps55
abbrev M56 := @Tryz.ntmps56
abbrev M57 := @Tryz.ntmps57
abbrev M58 := @Tryz.ntmps58
abbrev M59 := @Tryz.ntmps59
abbrev M60 := @Tryz.ntmps60
abbrev M61 := @Tryz.ntmps61
abbrev M62 := @Tryz.ntmps62
abbrev M63 := @Tryz.ntmps63
abbrev M64 := @Tryz.ntmps64
abbrev M65 := @Tryz.ntmps65
abbrev M66 := @Tryz.ntmps66
abbrev M67 := @Tryz.ntmps67
abbrev M68 := @Tryz.ntmps68
abbrev M69 := @Tryz.ntmps69
abbrev M7 := @Tryz.ntmps7
abbrev M70 := @Tryz.ntmps70
abbrev M71 := @Tryz.ntmps71
abbrev M73 := @Tryz.ntmps73
abbrev M74 := @Tryz.ntmps74
abbrev M75 := @Tryz.ntmps75
abbrev M76 := @Tryz.ntmps76
abbrev M77 := @Tryz.ntmps77
abbrev M78 := @Tryz.ntmps78
abbrev M79 := @Tryz.ntmps79
abbrev M8 := @Tryz.ntmps8
abbrev M80 := @Tryz.ntmps80
abbrev M81 := @Tryz.ntmps81
abbrev M82 := @Tryz.ntmps82
abbrev M83 := @Tryz.ntmps83
abbrev M84 := @Tryz.ntmps84
abbrev M85 := @Tryz.ntmps85
abbrev M86 := @Tryz.ntmps86
abbrev M87 := @Tryz.ntmps87
abbrev M88 := @Tryz.ntmps88
abbrev M89 := @Tryz.ntmps89
abbrev M9 := @Tryz.ntmps9
abbrev M90 := @Tryz.ntmps90
abbrev M91 := @Tryz.ntmps91
abbrev M92 := @Tryz.ntmps92
abbrev M93 := @Tryz.ntmps93
abbrev M94 := @Tryz.ntmps94
abbrev M95 := @Tryz.ntmps95
abbrev M96 := @Tryz.ntmps96
abbrev M97 := @Tryz.ntmps97
abbrev M98 := @Tryz.ntmps98
abbrev M99 := @Tryz.ntmps99
abbrev R10 := @Tryz.results10
abbrev R101 := @Tryz.results101
abbrev R102 := @Tryz.results102
abbrev R103 := @Tryz.results103
abbrev R104 := @Tryz.results104
abbrev R105 := @Tryz.results105
abbrev R106 := @Tryz.results106
abbrev R107 := @Tryz.results107
abbrev R108 := @Tryz.results108
abbrev R109 := @Tryz.results109
abbrev R11 := @Tryz.results11
abbrev R110 := @Tryz.results110
abbrev R111 := @Tryz.results111
abbrev R112 := @Tryz.results112
abbrev R113 := @Tryz.results113
abbrev R114 := @Tryz.results114
abbrev R115 := @Tryz.results115
abbrev R116 := @Tryz.results116
abbrev R117 := @Tryz.results117
abbrev R118 := @Tryz.results118
abbrev R119 := @Tryz.results119
abbrev R120 := @Tryz.results120
abbrev R121 := @Tryz.results121
abbrev R122 := @Tryz.results122
abbrev R123 := @Tryz.results123
abbrev R125 := @Tryz.results125
abbrev R128 := @Tryz.results128
abbrev R129 := @Tryz.results129
abbrev R13 := @Tryz.results13
abbrev R130 := @Tryz.results130
abbrev R131 := @Tryz.results131
abbrev R132 := @Tryz.results132
abbrev R133 := @Tryz.results133
abbrev R134 := @Tryz.results134
abbrev R135 := @Tryz.results135
abbrev R136 := @Tryz.results136
abbrev R15 := @Tryz.results15
abbrev R17 := @Tryz.results17
abbrev R18 := @Tryz.results18
abbrev R19 := @Tryz.results19
abbrev R20 := @Tryz.results20
abbrev R21 := @Tryz.results21
abbrev R22 := @Tryz.results22
abbrev R23 := @Tryz.results23
abbrev R25 := @Tryz.results25
abbrev R26 := @Tryz.results26
abbrev R27 := @Tryz.results27
abbrev R28 := @Tryz.results28
abbrev R29 := @Tryz.results29
abbrev R30 := @Tryz.results30
abbrev R31 := @Tryz.results31
abbrev R32 := @Tryz.results32
abbrev R33 := @Tryz.results33
abbrev R34 := @Tryz.results34
abbrev R35 := @Tryz.results35
abbrev R36 := @Tryz.results36
abbrev R37 := @Tryz.results37
abbrev R38 := @Tryz.results38
abbrev R39 := @Tryz.results39
abbrev R45 := @Tryz.results45
abbrev R46 := @Tryz.results46
abbrev R47 := @Tryz.results47
abbrev R48 := @Tryz.results48
abbrev R49 := @Tryz.results49
abbrev R5 := @Tryz.results5
abbrev R50 := @Tryz.results50
abbrev R51 := @Tryz.results51
abbrev R52 := @Tryz.results52
abbrev R53 := @Tryz.results53
abbrev R54 := @Tryz.results54
abbrev R55 := @Tryz.results55
abbrev R56 := @Tryz.results56
abbrev R57 := @Tryz.results57
abbrev R58 := @Tryz.results58
abbrev R59 := @Tryz.results59
abbrev R60 := @Tryz.results60
abbrev R61 := @Tryz.results61
abbrev R62 := @Tryz.results62
abbrev R63 := @Tryz.results63
abbrev R64 := @Tryz.results64
abbrev R65 := @Tryz.results65
abbrev R66 := @Tryz.results66
abbrev R67 := @Tryz.results67
abbrev R68 := @Tryz.results68
abbrev R69 := @Tryz.results69
abbrev R7 := @Tryz.results7
abbrev R70 := @Tryz.results70
abbrev R71 := @Tryz.results71
abbrev R73 := @Tryz.results73
abbrev R74 := @Tryz.results74
abbrev R75 := @Tryz.results75
abbrev R76 := @Tryz.results76
abbrev R77 := @Tryz.results77
abbrev R78 := @Tryz.results78
abbrev R79 := @Tryz.results79
abbrev R8 := @Tryz.results8
abbrev R80 := @Tryz.results80
abbrev R81 := @Tryz.results81
abbrev R82 := @Tryz.results82
abbrev R83 := @Tryz.results83
abbrev R84 := @Tryz.results84
abbrev R85 := @Tryz.results85
abbrev R86 := @Tryz.results86
abbrev R87 := @Tryz.results87
abbrev R88 := @Tryz.results88
abbrev R89 := @Tryz.results89
abbrev R9 := @Tryz.results9
abbrev R90 := @Tryz.results90
abbrev R91 := @Tryz.results91
abbrev R92 := @Tryz.results92
abbrev R93 := @Tryz.results93
abbrev R94 := @Tryz.results94
abbrev R95 := @Tryz.results95
abbrev R96 := @Tryz.results96
abbrev R97 := @Tryz.results97
abbrev R98 := @Tryz.results98
abbrev R99 := @Tryz.results99
abbrev U101 := @Tryz.underlying101
abbrev U110 := @Tryz.underlying110
abbrev U125 := @Tryz.underlying125
abbrev U132 := @Tryz.underlying132
abbrev U138 := @Tryz.underlying138
abbrev U153 := @Tryz.underlying153
abbrev U166 := @Tryz.underlying166
abbrev U173 := @Tryz.underlying173
abbrev U176 := @Tryz.underlying176
abbrev U179 := @Tryz.underlying179
abbrev U187 := @Tryz.underlying187
abbrev U196 := @Tryz.underlying196
abbrev U2 := @Tryz.underlying2
abbrev U21 := @Tryz.underlying21
abbrev U215 := @Tryz.underlying215
abbrev U22 := @Tryz.underlying22
abbrev U23 := @Tryz.underlying23
abbrev U25 := @Tryz.underlying25
abbrev U26 := @Tryz.underlying26
abbrev U29 := @Tryz.underlying29
abbrev U3 := @Tryz.underlying3
abbrev U30 := @Tryz.underlying30
abbrev U32 := @Tryz.underlying32
abbrev U33 := @Tryz.underlying33
abbrev U35 := @Tryz.underlying35
abbrev U37 := @Tryz.underlying37
abbrev U41 := @Tryz.underlying41
abbrev U43 := @Tryz.underlying43
abbrev U51 := @Tryz.underlying51
abbrev U55 := @Tryz.underlying55
abbrev U71 := @Tryz.underlying71
abbrev U72 := @Tryz.underlying72
abbrev U73 := @Tryz.underlying73
abbrev U75 := @Tryz.underlying75
abbrev U77 := @Tryz.underlying77
abbrev U78 := @Tryz.underlying78
abbrev U81 := @Tryz.underlying81
abbrev U88 := @Tryz.underlying88
abbrev U89 := @Tryz.underlying89
abbrev U97 := @Tryz.underlying97
abbrev U99 := @Tryz.underlying99
abbrev V132 := @Tryz.zeroValue132
abbrev V153 := @Tryz.zeroValue153
abbrev V176 := @Tryz.zeroValue176
abbrev V196 := @Tryz.zeroValue196
abbrev V2 := @Tryz.zeroValue2
abbrev V21 := @Tryz.zeroValue21
abbrev V29 := @Tryz.zeroValue29
abbrev V3 := @Tryz.zeroValue3
abbrev V30 := @Tryz.zeroValue30
abbrev V32 := @Tryz.zeroValue32
abbrev V35 := @Tryz.zeroValue35
abbrev V37 := @Tryz.zeroValue37
abbrev V41 := @Tryz.zeroValue41
abbrev V43 := @Tryz.zeroValue43
abbrev V51 := @Tryz.zeroValue51
abbrev V55 := @Tryz.zeroValue55
abbrev V74 := @Tryz.zeroValue74
abbrev V88 := @Tryz.zeroValue88
abbrev V89 := @Tryz.zeroValue89
abbrev V97 := @Tryz.zeroValue97
abbrev Z110 := @Tryz.sizeOf110
abbrev Z132 := @Tryz.sizeOf132
abbrev Z153 := @Tryz.sizeOf153
abbrev Z176 := @Tryz.sizeOf176
abbrev Z196 := @Tryz.sizeOf196
abbrev Z2 := @Tryz.sizeOf2
abbrev Z21 := @Tryz.sizeOf21
abbrev Z22 := @Tryz.sizeOf22
abbrev Z23 := @Tryz.sizeOf23
abbrev Z25 := @Tryz.sizeOf25
abbrev Z29 := @Tryz.sizeOf29
abbrev Z3 := @Tryz.sizeOf3
abbrev Z30 := @Tryz.sizeOf30
abbrev Z32 := @Tryz.sizeOf32
abbrev Z33 := @Tryz.sizeOf33
abbrev Z35 := @Tryz.sizeOf35
abbrev Z37 := @Tryz.sizeOf37
abbrev Z4 := @Tryz.sizeOf4
abbrev Z41 := @Tryz.sizeOf41
abbrev Z43 := @Tryz.sizeOf43
abbrev Z51 := @Tryz.sizeOf51
abbrev Z55 := @Tryz.sizeOf55
abbrev Z74 := @Tryz.sizeOf74
abbrev Z75 := @Tryz.sizeOf75
abbrev Z88 := @Tryz.sizeOf88
abbrev Z89 := @Tryz.sizeOf89
abbrev Z97 := @Tryz.sizeOf97
abbrev Z99 := @Tryz.sizeOf99
def ref08_taker_take (x0 : S_ref08_taker) (x1 : Int) : Option ((List Int) × S_ref08_taker) :=
  chk (0 ≤ x0.at_ ∧ x0.at_ ≤ (IntKind.i64.wrap (x0.at_ + x1)) ∧ (IntKind.i64.wrap (x0.at_ + x1)) ≤ ((x0.l.length : Nat) : Int)) <|
  (app ([]) ((x0.l.take ((IntKind.i64.wrap (x0.at_ + x1))).toNat).drop (x0.at_).toNat)).bind fun z10 =>
  some (z10, (⟨x0.l, (IntKind.i64.wrap (x0.at_ + x1))⟩ : S_ref08_taker))

theorem ref08_taker_take_any {b0 : Nat} {x0 : S_ref08_taker} {x1 : Int} {Fr : List HP} {w : World} {r : (List Int) × S_ref08_taker} {K : Value → World → Prop}  (hc : Ctx w (S_ref08_taker.hp b0 x0 :: Fr)) (hp : ref08_taker_take x0 x1 = some r)
    (k : ∀ a17 n18 q19 w', Ctx w' (Own (pInt .i8) 88 (.slice a17 n18 q19) r.1 :: S_ref08_taker.hp b0 r.2 :: Fr) → K (.slice a17 n18 q19) w') : Calls Tryz.prog 97 #[pt b0 0, .int .i64 x1] w (Ret K) := by
 unfold ref08_taker_take at hp; refine Center2 F97 M97 rfl rfl ?_; refine Wseq (Wreg ?_); refine au 1 rfl <| rn (qn (Wseq (Wreg ?_))); refine au 1 rfl <| rn (qn (Wseq ?_)); replace hc := S_ref08_taker.uf hc; obtain ⟨a1, q2, hc⟩ := hc; replace hc := hc.drew; refine Wdrw (fun j w' => True) [0, 0, 2, 6, 14, 0, 32, 96, 224, 0, 512, 1536, 3584, 0, 15872, 32766, 65535, 131071] 0 4368 rfl (by kernel_rfl) (fun _ _ => trivial) ?_; generalize hw : World.drew w = w3 at *; clear hw; refine ad_ 3 rfl <| ds (v := pt b0 0) rfl (fun w' hF => fax 0 rfl U179 rfl Z30 rfl rfl rfl) rfl <| dx rfl (ld rfl G30 (Ctx.cell hc (k := 0) rfl rfl rfl)) rfl rfl <| ad_ 2 rfl <| ds (v := pt b0 1) rfl (fun w' hF => fax 1 rfl U179 rfl Z3 rfl rfl rfl) rfl <| dx rfl (ld rfl G3 (Ctx.cell hc (k := 0) rfl rfl rfl)) rfl rfl <| ad_ 2 rfl <| ds (v := pt b0 1) rfl (fun w' hF => fax 1 rfl U179 rfl Z3 rfl rfl rfl) rfl <| dx rfl (ld rfl G3 (Ctx.cell hc (k := 0) rfl rfl rfl)) rfl rfl <| ad_ 2 rfl ?_; obtain ⟨hg4, hp⟩ := chk_some hp; obtain ⟨hl8, hq9⟩ := Ctx.rdLen hc (k := 1) rfl rfl reads_own; have rd7 := reads_sub (lo := (x0.at_).toNat) (hi := ((IntKind.i64.wrap (x0.at_ + x1))).toNat) ((reads_own : Reads (oR .i8 88 a1 q2 x0.l) (pInt .i8) (.slice a1 x0.l.length q2) x0.l)) (by omega) (by omega); refine ds (v := .slice (if q2 = (x0.at_).toNat then a1 else Option.map (fun x => x.add ((x0.at_).toNat * 1)) a1) (((IntKind.i64.wrap (x0.at_ + x1))).toNat - (x0.at_).toNat) (q2 - (x0.at_).toNat)) rfl (fun w' hF => run_sub (li := some x0.at_) (hi' := some (IntKind.i64.wrap (x0.at_ + x1))) rfl ⟨_, rfl⟩ ⟨_, rfl⟩ U30 Z88 hg4 hq9) rfl ?_; replace hc := hc.nilOwn (pInt .i8) 88; obtain ⟨z10, hz10, hp⟩ := bind_some hp; obtain ⟨hg11, e12⟩ := app_some hz10; refine deE (hc.ap 0 2 rd7 U30 Tryz.t88 hg11) rfl rfl ?_; clear hc; rintro _ w15 ⟨a13, q14, rfl, hc⟩; rw [← e12] at hc ⊢; replace hc := Ctx.n0 hc; refine ⟨fun j hj hb => trivial, ?_⟩; refine ad_ 1 rfl <| dn (qn (Wseq (Wreg ?_))); refine au 3 rfl ?_; refine fq 1 U179 Z3 G3 hc 1 ?_; refine au 3 rfl <| sz (v := pt b0 1) (fax 1 rfl U179 rfl Z3 rfl rfl rfl) <| po hc 1 Z3 ?_; clear hc; rintro w16 hc; refine rn (qn (Wseq (Wreg ?_))); refine au 2 rfl <| rn (qn (Wret ?_)); replace hc := hc.m [4, 4]; replace hc := S_ref08_taker.fd (x := (⟨x0.l, (IntKind.i64.wrap (x0.at_ + x1))⟩ : S_ref08_taker)) hc; replace hc := hc.m [2]; obtain rfl := sj hp; exact fz R97 M97 (k _ _ _ _ hc)

theorem bd_32_0_1_2 {ρ : Operand → Value} {w : World} {dst : Option Nat} {ty : TypeId} {pos : String} {after : Array Edge} {g : Option (Nat × Bool)} {x0 x1 x2 : Operand} {k0 : IntKind} {a0 : Int} {k1 : IntKind} {a1 : Int} {a2 : Option Addr} {l2 c2 : Nat} (h0 : ρ x0 = (.int k0 a0)) (h1 : ρ x1 = (.int k1 a1)) (h2 : ρ x2 = (.slice a2 l2 c2)) :
    (execOp ρ ⟨dst, .build 32 #[(0, x0), (1, x1), (2, x2)], ty, pos, after, g⟩).run Tryz.prog w = .ok (.value (.agg #[(.int k0 a0), (.int k1 a1), (.slice a2 l2 c2)])) w := by
  simp [execOp, Instr.build, Instr.fill, Tryz.zeroValue32, Tryz.runUnderlying32, Tryz.sizeOf3, Tryz.sizeOf30, h0, h1, h2, Value.cells]

def ref08_taker_mat (x0 : S_ref08_taker) (x1 : Int) (x2 : Int) : Option (S_api_Mat × S_ref08_taker) :=
  (ref08_taker_take x0 (IntKind.i64.wrap (x1 * x2))).bind fun r4 =>
  some ((⟨x1, x2, r4.1⟩ : S_api_Mat), r4.2)

theorem ref08_taker_mat_any {b0 : Nat} {x0 : S_ref08_taker} {x1 x2 : Int} {Fr : List HP} {w : World} {r : S_api_Mat × S_ref08_taker} {K : Value → World → Prop}  (hc : Ctx w (S_ref08_taker.hp b0 x0 :: Fr)) (hp : ref08_taker_mat x0 x1 x2 = some r)
    (k : ∀ a11 n12 q13 w', Ctx w' (Hold (pRo (pInt .i8)) [.slice a11 n12 q13] r.1.V :: S_ref08_taker.hp b0 r.2 :: Fr) → K (.agg #[.int .i64 r.1.Rows, .int .i64 r.1.Cols, .slice a11 n12 q13]) w') : Calls Tryz.prog 96 #[pt b0 0, .int .i64 x1, .int .i64 x2] w (Ret K) := by
 unfold ref08_taker_mat at hp; refine Center3 F96 M96 rfl rfl ?_; refine Wseq (Wreg ?_); refine rsE (Ctx.allocOp (cs := [.int .i64 0, .int .i64 0, .slice none 0 0]) hc V32 rfl) rfl ?_; clear hc; rintro _ w3 ⟨b1, rfl, hc⟩; refine rn (qn (Wseq (Wreg ?_))); refine au 6 rfl ?_; obtain ⟨r4, hr4, hp⟩ := bind_some hp; replace hc := hc.m [2]; refine kz C97 ?_; refine ref08_taker_take_any hc hr4 ?_; clear hc; intro a5 n6 q7 w8 hc; obtain rfl := hc.rz 0 reads_own; refine sz (v := .agg #[.int .i64 x1, .int .i64 x2, .slice a5 r4.1.length q7]) (bd_32_0_1_2 rfl rfl rfl) <| pa hc 2 Z32 ?_; clear hc; rintro w10 hc; refine rn (qn (Wret ?_)); have hres := Ctx.cells hc (k := 2) rfl rfl 0 (vs := [.int .i64 x1, .int .i64 x2, .slice a5 r4.1.length q7]) rfl; replace hc := hc.freeze (k := 0) rfl rfl rfl; replace hc := Ctx.n0 hc; replace hc := hc.dz 0; replace hc := hc.m [7, 3]; obtain rfl := sj hp; refine f1c (cs := [.int .i64 x1, .int .i64 x2, .slice a5 r4.1.length q7]) R96 M96 rfl G32 Z32 rfl hres ?_; exact ⟨_, rfl, k _ _ _ _ hc⟩

theorem bd_179_0 {ρ : Operand → Value} {w : World} {dst : Option Nat} {ty : TypeId} {pos : String} {after : Array Edge} {g : Option (Nat × Bool)} {x0 : Operand} {a0 : Option Addr} {l0 c0 : Nat} (h0 : ρ x0 = (.slice a0 l0 c0)) :
    (execOp ρ ⟨dst, .build 179 #[(0, x0)], ty, pos, after, g⟩).run Tryz.prog w = .ok (.value (.agg #[(.slice a0 l0 c0), (.int .i64 0)])) w := by
  simp [execOp, Instr.build, Instr.fill, Tryz.zeroValue179, Tryz.runUnderlying179, Tryz.sizeOf3, Tryz.sizeOf30, h0, Value.cells]

theorem bd_35_0 {ρ : Operand → Value} {w : World} {dst : Option Nat} {ty : TypeId} {pos : String} {after : Array Edge} {g : Option (Nat × Bool)} {x0 : Operand} {c0_0 c0_1 c0_2 c0_3 c0_4 c0_5 : Value} (h0 : ρ x0 = .agg #[c0_0, c0_1, c0_2, c0_3, c0_4, c0_5]) :
    (execOp ρ ⟨dst, .build 35 #[(0, x0)], ty, pos, after, g⟩).run Tryz.prog w = .ok (.value (.agg #[c0_0, c0_1, c0_2, c0_3, c0_4, c0_5, (.int .i64 0), (.int .i64 0), (.slice none 0 0), (.slice none 0 0), (.slice none 0 0), (.int .i64 0), (.int .i64 0), (.slice none 0 0)])) w := by
  simp [execOp, Instr.build, Instr.fill, Tryz.zeroValue35, Tryz.runUnderlying35, Tryz.sizeOf29, Tryz.sizeOf30, Tryz.sizeOf32, Tryz.sizeOf33, h0, Value.cells]

theorem bd_97_ {ρ : Operand → Value} {w : World} {dst : Option Nat} {ty : TypeId} {pos : String} {after : Array Edge} {g : Option (Nat × Bool)}    :
    (execOp ρ ⟨dst, .build 97 #[], ty, pos, after, g⟩).run Tryz.prog w = .ok (.value (.agg #[(.slice none 0 0), (.slice none 0 0), (.int .i64 0), (.int .i64 0), (.slice none 0 0), (.int .i64 0), (.int .i64 0), (.slice none 0 0), (.int .i64 0), (.int .i64 0), (.slice none 0 0), (.int .i64 0), (.int .i64 0), (.slice none 0 0), (.int .i64 0), (.int .i64 0), (.slice none 0 0), (.int .i64 0), (.int .i64 0), (.slice none 0 0)])) w := by
  simp [execOp, Instr.build, Instr.fill, Tryz.zeroValue97, Tryz.runUnderlying97, Tryz.sizeOf30, Tryz.sizeOf32, Value.cells]

def ref08_Of.L1 (x0 : S_api_Shape) (r14 : (S_api_Mat × S_ref08_taker)) : Nat → S_ref08_taker → (List S_api_Block) → Int → Option (S_api_Weights)
  | 0, _, _, _ => none
  | m1 + 1, j21, j22, j26 =>
    if j26 < x0.Layers then
      (ref08_taker_take j21 x0.Width).bind fun r49 =>
      (ref08_taker_mat r49.2 x0.Width x0.Width).bind fun r56 =>
      (ref08_taker_mat r56.2 x0.Width x0.Width).bind fun r63 =>
      (ref08_taker_mat r63.2 x0.Width x0.Width).bind fun r70 =>
      (ref08_taker_mat r70.2 x0.Width x0.Width).bind fun r77 =>
      (ref08_taker_take r77.2 x0.Width).bind fun r84 =>
      (ref08_taker_mat r84.2 x0.Inner x0.Width).bind fun r91 =>
      (ref08_taker_mat r91.2 x0.Width x0.Inner).bind fun r98 =>
      (app j22 ([(⟨r49.1, r84.1, (⟨r56.1.Rows, r56.1.Cols, r56.1.V⟩ : S_api_Mat), (⟨r63.1.Rows, r63.1.Cols, r63.1.V⟩ : S_api_Mat), (⟨r70.1.Rows, r70.1.Cols, r70.1.V⟩ : S_api_Mat), (⟨r77.1.Rows, r77.1.Cols, r77.1.V⟩ : S_api_Mat), (⟨r91.1.Rows, r91.1.Cols, r91.1.V⟩ : S_api_Mat), (⟨r98.1.Rows, r98.1.Cols, r98.1.V⟩ : S_api_Mat)⟩ : S_api_Block)])).bind fun z107 =>
      (ref08_Of.L1 x0 r14 m1) r98.2 z107 (IntKind.i64.wrap (j26 + 1))
    else
      (ref08_taker_take j21 x0.Width).bind fun r30 =>
      (ref08_taker_mat r30.2 x0.Vocab x0.Width).bind fun r37 =>
      some (⟨(⟨x0.Layers, x0.Width, x0.Heads, x0.Inner, x0.Vocab, x0.Places⟩ : S_api_Shape), (⟨r14.1.Rows, r14.1.Cols, r14.1.V⟩ : S_api_Mat), j22, r30.1, (⟨r37.1.Rows, r37.1.Cols, r37.1.V⟩ : S_api_Mat)⟩ : S_api_Weights)

def ref08_Of (N : Nat) (x0 : S_api_Shape) (x1 : (List Int)) : Option (S_api_Weights) :=
  (ref08_taker_mat (⟨x1, 0⟩ : S_ref08_taker) x0.Vocab x0.Width).bind fun r14 =>
  ref08_Of.L1 x0 r14 N r14.2 ([]) 0

theorem ref08_Of_any {N nx1 qx1 : Nat} {x0 : S_api_Shape} {x1 : (List Int)} {ax1 : Option Addr} {Fr : List HP} {w : World} {r : S_api_Weights} {K : Value → World → Prop}  (hc : Ctx w (Own (pInt .i8) 88 (.slice ax1 nx1 qx1) x1 :: Fr)) (hp : ref08_Of N x0 x1 = some r)
    (k : ∀ a114 n115 q116 a117 n118 q119 a120 n121 q122 a123 n124 q125 w', Ctx w' (Hold (pRo (pInt .i8)) [.slice a114 n115 q116] r.Embed.V :: Hold (pRo S_api_Block.pr) [.slice a117 n118 q119] r.Blocks :: Hold (pRo (pInt .i8)) [.slice a120 n121 q122] r.Last :: Hold (pRo (pInt .i8)) [.slice a123 n124 q125] r.Head.V :: Fr) → K (.agg #[.int .i64 r.Shape.Layers, .int .i64 r.Shape.Width, .int .i64 r.Shape.Heads, .int .i64 r.Shape.Inner, .int .i64 r.Shape.Vocab, .int .i64 r.Shape.Places, .int .i64 r.Embed.Rows, .int .i64 r.Embed.Cols, .slice a114 n115 q116, .slice a117 n118 q119, .slice a120 n121 q122, .int .i64 r.Head.Rows, .int .i64 r.Head.Cols, .slice a123 n124 q125]) w') : Calls Tryz.prog 65 #[.agg (S_api_Shape.cz x0).toArray, .slice ax1 nx1 qx1] w (Ret K) := by
 unfold ref08_Of at hp; refine Center2 F65 M65 rfl rfl ?_; obtain ⟨hn1, _⟩ := Ctx.rdLen hc (k := 0) rfl rfl reads_own; subst hn1; refine Wseq (Wreg ?_); refine rsE (Ctx.boxOp (cs := (S_api_Shape.cz x0)) (v := .agg (S_api_Shape.cz x0).toArray) hc rfl rfl) rfl ?_; clear hc; rintro _ w3 ⟨b1, rfl, hc⟩; refine rsE (Ctx.allocOp (cs := [.int .i64 0, .int .i64 0, .int .i64 0, .int .i64 0, .int .i64 0, .int .i64 0, .int .i64 0, .int .i64 0, .slice none 0 0, .slice none 0 0, .slice none 0 0, .int .i64 0, .int .i64 0, .slice none 0 0]) hc V35 rfl) rfl ?_; clear hc; rintro _ w6 ⟨b4, rfl, hc⟩; refine rn (qn (Wseq (Wreg ?_))); refine au 1 rfl <| sz (v := .agg #[.slice ax1 x1.length qx1, .int .i64 0]) (bd_179_0 rfl) ?_; refine rsE (Ctx.boxOp (cs := [.slice ax1 x1.length qx1, .int .i64 0]) (v := .agg #[.slice ax1 x1.length qx1, .int .i64 0]) hc rfl rfl) rfl ?_; clear hc; rintro _ w9 ⟨b7, rfl, hc⟩; refine au 1 rfl <| rn (qn (Wseq (Wreg ?_))); refine lg G29 Z29 hc 2 ?_; refine sz (v := .agg #[.int .i64 x0.Layers, .int .i64 x0.Width, .int .i64 x0.Heads, .int .i64 x0.Inner, .int .i64 x0.Vocab, .int .i64 x0.Places, .int .i64 0, .int .i64 0, .slice none 0 0, .slice none 0 0, .slice none 0 0, .int .i64 0, .int .i64 0, .slice none 0 0]) (bd_35_0 rfl) ?_; refine rsE (Ctx.allocOp (cs := [.int .i64 0, .int .i64 0, .int .i64 0, .int .i64 0, .int .i64 0, .int .i64 0, .int .i64 0, .int .i64 0, .slice none 0 0, .slice none 0 0, .slice none 0 0, .int .i64 0, .int .i64 0, .slice none 0 0]) hc V35 rfl) rfl ?_; clear hc; rintro _ w12 ⟨b10, rfl, hc⟩; refine pa hc 0 Z35 ?_; clear hc; rintro w13 hc; refine rn (qn (Wseq (Wreg ?_))); refine au 1 rfl ?_; refine fq 4 U29 Z3 G3 hc 3 ?_; refine fq 1 U29 Z3 G3 hc 3 ?_; replace hc := hc.m [8, 4]; replace hc := S_ref08_taker.fd (x := (⟨x1, 0⟩ : S_ref08_taker)) hc; obtain ⟨r14, hr14, hp⟩ := bind_some hp; refine kz C96 ?_; refine ref08_taker_mat_any (x0 := (⟨x1, 0⟩ : S_ref08_taker)) hc hr14 ?_; clear hc; intro a15 n16 q17 w18 hc; obtain rfl := hc.rz 0 reads_ro; refine sz (v := pt b10 6) (fax 6 rfl U35 rfl Z32 rfl rfl rfl) <| pa hc 2 Z32 ?_; clear hc; rintro w20 hc; refine rn (qn (Wseq (Wseq (Wreg ?_)))); refine au 1 rfl <| rn (qn (Wblk ?_)); replace hc := hc.nilOwn S_api_Block.pr 97; replace hc := hc.m [10, 10, 10, 10, 10]; refine Wloop (rg [7, 2, 21, 65]) [7] (fun m vs w' => ∃ j21 : S_ref08_taker, ∃ j22 : (List S_api_Block), ∃ j26 : Int, ∃ a23 n24 q25, vs = [.int .i64 j26] ∧ ref08_Of.L1 x0 r14 m j21 j22 j26 = some r ∧ Ctx w' (hR .i8 a15 q17 r14.1.V :: S_ref08_taker.hp b7 j21 :: B b10 [.int .i64 x0.Layers, .int .i64 x0.Width, .int .i64 x0.Heads, .int .i64 x0.Inner, .int .i64 x0.Vocab, .int .i64 x0.Places, .int .i64 r14.1.Rows, .int .i64 r14.1.Cols, .slice a15 r14.1.V.length q17, .slice a23 n24 q25, .slice none 0 0, .int .i64 0, .int .i64 0, .slice none 0 0] 35 :: B b4 [.int .i64 0, .int .i64 0, .int .i64 0, .int .i64 0, .int .i64 0, .int .i64 0, .int .i64 0, .int .i64 0, .slice none 0 0, .slice none 0 0, .slice none 0 0, .int .i64 0, .int .i64 0, .slice none 0 0] 35 :: B b1 (S_api_Shape.cz x0) 29 :: Own S_api_Block.pr 97 (.slice a23 n24 q25) j22 :: Fr)) N ?_ ?_
 · exact ⟨r14.2, [], 0, none, 0, 0, rfl, hp, hc⟩
 · clear hp hc; intro m vs u w27 hJ; obtain ⟨j21, j22, j26, a23, n24, q25, rfl, hp, hc⟩ := hJ; obtain rfl := hc.rz 5 reads_own; rcases m with _ | m1
   · cases (show none = some r from hp)
   rw [ref08_Of.L1] at hp; refine Wseq (Wseq (Wreg ?_)); refine au 1 rfl ?_; refine fq 0 U29 Z3 G3 hc 4 ?_; refine au 1 rfl <| rn (qn ?_); refine Wif hp (fun _ hp => ?_) fun _ hp => ?_
   · refine Wexit (qx (qx (be (qn (Wseq (Wreg ?_)))))); refine au 1 rfl ?_; refine fq 1 U29 Z3 G3 hc 4 ?_; obtain ⟨r30, hr30, hp⟩ := bind_some hp; replace hc := hc.m [2]; refine kz C97 ?_; refine ref08_taker_take_any hc hr30 ?_; clear hc; intro a31 n32 q33 w34 hc; obtain rfl := hc.rz 0 reads_own; refine sz (v := pt b10 10) (fax 10 rfl U35 rfl Z30 rfl rfl rfl) <| po hc 3 Z30 ?_; clear hc; rintro w36 hc; refine rn (qn (Wseq (Wreg ?_))); refine au 1 rfl ?_; refine fq 4 U29 Z3 G3 hc 5 ?_; refine fq 1 U29 Z3 G3 hc 5 ?_; obtain ⟨r37, hr37, hp⟩ := bind_some hp; replace hc := hc.m [2]; refine kz C96 ?_; refine ref08_taker_mat_any hc hr37 ?_; clear hc; intro a38 n39 q40 w41 hc; obtain rfl := hc.rz 0 reads_ro; refine sz (v := pt b10 11) (fax 11 rfl U35 rfl Z32 rfl rfl rfl) <| pa hc 4 Z32 ?_; clear hc; rintro w43 hc; refine rn (qn (Wseq (Wreg ?_))); refine lg G35 Z35 hc 4 ?_; refine pa hc 5 Z35 ?_; clear hc; rintro w44 hc; refine rn (qn (Wret ?_)); have hres := Ctx.cells hc (k := 5) rfl rfl 0 (vs := [.int .i64 x0.Layers, .int .i64 x0.Width, .int .i64 x0.Heads, .int .i64 x0.Inner, .int .i64 x0.Vocab, .int .i64 x0.Places, .int .i64 r14.1.Rows, .int .i64 r14.1.Cols, .slice a15 r14.1.V.length q17, .slice a23 j22.length q25, .slice a31 r30.1.length q33, .int .i64 r37.1.Rows, .int .i64 r37.1.Cols, .slice a38 r37.1.V.length q40]) rfl; replace hc := hc.dz 3; replace hc := hc.freeze (k := 8) rfl rfl rfl; replace hc := Ctx.n8 hc; replace hc := hc.dz 8; replace hc := hc.freeze (k := 4) rfl rfl rfl; replace hc := Ctx.n4 hc; replace hc := hc.dz 4; replace hc := hc.dz 3; replace hc := hc.m [23, 21, 19, 17, 15, 13, 11, 9, 2, 4, 6]; obtain rfl := sj hp; refine f1c (cs := [.int .i64 x0.Layers, .int .i64 x0.Width, .int .i64 x0.Heads, .int .i64 x0.Inner, .int .i64 x0.Vocab, .int .i64 x0.Places, .int .i64 r14.1.Rows, .int .i64 r14.1.Cols, .slice a15 r14.1.V.length q17, .slice a23 j22.length q25, .slice a31 r30.1.length q33, .int .i64 r37.1.Rows, .int .i64 r37.1.Cols, .slice a38 r37.1.V.length q40]) R65 M65 rfl G35 Z35 rfl hres ?_; exact ⟨_, rfl, k _ _ _ _ _ _ _ _ _ _ _ _ _ hc⟩
   · refine Wskip (qn (Wseq (Wblk (Wseq (Wreg ?_))))); refine sz (v := .agg #[.slice none 0 0, .slice none 0 0, .int .i64 0, .int .i64 0, .slice none 0 0, .int .i64 0, .int .i64 0, .slice none 0 0, .int .i64 0, .int .i64 0, .slice none 0 0, .int .i64 0, .int .i64 0, .slice none 0 0, .int .i64 0, .int .i64 0, .slice none 0 0, .int .i64 0, .int .i64 0, .slice none 0 0]) (bd_97_ ) ?_; refine rsE (Ctx.allocOp (cs := [.slice none 0 0, .slice none 0 0, .int .i64 0, .int .i64 0, .slice none 0 0, .int .i64 0, .int .i64 0, .slice none 0 0, .int .i64 0, .int .i64 0, .slice none 0 0, .int .i64 0, .int .i64 0, .slice none 0 0, .int .i64 0, .int .i64 0, .slice none 0 0, .int .i64 0, .int .i64 0, .slice none 0 0]) hc V97 rfl) rfl ?_; clear hc; rintro _ w47 ⟨b45, rfl, hc⟩; refine pa hc 0 Z97 ?_; clear hc; rintro w48 hc; refine rn (qn (Wseq (Wreg ?_))); refine au 1 rfl ?_; refine fq 1 U29 Z3 G3 hc 5 ?_; obtain ⟨r49, hr49, hp⟩ := bind_some hp; replace hc := hc.m [4]; refine kz C97 ?_; refine ref08_taker_take_any hc hr49 ?_; clear hc; intro a50 n51 q52 w53 hc; obtain rfl := hc.rz 0 reads_own; refine sz (v := pt b45 0) (fax 0 rfl U97 rfl Z30 rfl rfl rfl) <| po hc 2 Z30 ?_; clear hc; rintro w55 hc; refine rn (qn (Wseq (Wreg ?_))); refine au 1 rfl ?_; refine fq 1 U29 Z3 G3 hc 6 ?_; refine fq 1 U29 Z3 G3 hc 6 ?_; obtain ⟨r56, hr56, hp⟩ := bind_some hp; replace hc := hc.m [2]; refine kz C96 ?_; refine ref08_taker_mat_any hc hr56 ?_; clear hc; intro a57 n58 q59 w60 hc; obtain rfl := hc.rz 0 reads_ro; refine sz (v := pt b45 2) (fax 2 rfl U97 rfl Z32 rfl rfl rfl) <| pa hc 3 Z32 ?_; clear hc; rintro w62 hc; refine rn (qn (Wseq (Wreg ?_))); refine au 1 rfl ?_; refine fq 1 U29 Z3 G3 hc 7 ?_; refine fq 1 U29 Z3 G3 hc 7 ?_; obtain ⟨r63, hr63, hp⟩ := bind_some hp; replace hc := hc.m [2]; refine kz C96 ?_; refine ref08_taker_mat_any hc hr63 ?_; clear hc; intro a64 n65 q66 w67 hc; obtain rfl := hc.rz 0 reads_ro; refine sz (v := pt b45 5) (fax 5 rfl U97 rfl Z32 rfl rfl rfl) <| pa hc 4 Z32 ?_; clear hc; rintro w69 hc; refine rn (qn (Wseq (Wreg ?_))); refine au 1 rfl ?_; refine fq 1 U29 Z3 G3 hc 8 ?_; refine fq 1 U29 Z3 G3 hc 8 ?_; obtain ⟨r70, hr70, hp⟩ := bind_some hp; replace hc := hc.m [2]; refine kz C96 ?_; refine ref08_taker_mat_any hc hr70 ?_; clear hc; intro a71 n72 q73 w74 hc; obtain rfl := hc.rz 0 reads_ro; refine sz (v := pt b45 8) (fax 8 rfl U97 rfl Z32 rfl rfl rfl) <| pa hc 5 Z32 ?_; clear hc; rintro w76 hc; refine rn (qn (Wseq (Wreg ?_))); refine au 1 rfl ?_; refine fq 1 U29 Z3 G3 hc 9 ?_; refine fq 1 U29 Z3 G3 hc 9 ?_; obtain ⟨r77, hr77, hp⟩ := bind_some hp; replace hc := hc.m [2]; refine kz C96 ?_; refine ref08_taker_mat_any hc hr77 ?_; clear hc; intro a78 n79 q80 w81 hc; obtain rfl := hc.rz 0 reads_ro; refine sz (v := pt b45 11) (fax 11 rfl U97 rfl Z32 rfl rfl rfl) <| pa hc 6 Z32 ?_; clear hc; rintro w83 hc; refine rn (qn (Wseq (Wreg ?_))); refine au 1 rfl ?_; refine fq 1 U29 Z3 G3 hc 10 ?_; obtain ⟨r84, hr84, hp⟩ := bind_some hp; replace hc := hc.m [2]; refine kz C97 ?_; refine ref08_taker_take_any hc hr84 ?_; clear hc; intro a85 n86 q87 w88 hc; obtain rfl := hc.rz 0 reads_own; refine sz (v := pt b45 1) (fax 1 rfl U97 rfl Z30 rfl rfl rfl) <| po hc 7 Z30 ?_; clear hc; rintro w90 hc; refine rn (qn (Wseq (Wreg ?_))); refine au 1 rfl ?_; refine fq 3 U29 Z3 G3 hc 11 ?_; refine fq 1 U29 Z3 G3 hc 11 ?_; obtain ⟨r91, hr91, hp⟩ := bind_some hp; replace hc := hc.m [2]; refine kz C96 ?_; refine ref08_taker_mat_any hc hr91 ?_; clear hc; intro a92 n93 q94 w95 hc; obtain rfl := hc.rz 0 reads_ro; refine sz (v := pt b45 14) (fax 14 rfl U97 rfl Z32 rfl rfl rfl) <| pa hc 8 Z32 ?_; clear hc; rintro w97 hc; refine rn (qn (Wseq (Wreg ?_))); refine au 1 rfl ?_; refine fq 1 U29 Z3 G3 hc 12 ?_; refine fq 3 U29 Z3 G3 hc 12 ?_; obtain ⟨r98, hr98, hp⟩ := bind_some hp; replace hc := hc.m [2]; refine kz C96 ?_; refine ref08_taker_mat_any hc hr98 ?_; clear hc; intro a99 n100 q101 w102 hc; obtain rfl := hc.rz 0 reads_ro; refine sz (v := pt b45 17) (fax 17 rfl U97 rfl Z32 rfl rfl rfl) <| pa hc 9 Z32 ?_; clear hc; rintro w104 hc; refine rn (qn (Wreg ?_)); refine fq 9 U35 Z33 G33 hc 11 ?_; refine lg G97 Z97 hc 9 ?_; replace hc := hc.dz 0; replace hc := hc.dz 3; replace hc := hc.dz 6; replace hc := hc.dz 8; replace hc := hc.dz 10; replace hc := hc.dz 12; replace hc := hc.freeze (k := 9) rfl rfl rfl; replace hc := Ctx.n9 hc; replace hc := hc.dz 9; replace hc := hc.freeze (k := 15) rfl rfl rfl; replace hc := Ctx.n15 hc; replace hc := hc.dz 15; replace hc : Ctx w104 (Hold S_api_Block.pr [.slice a50 r49.1.length q52, .slice a85 r84.1.length q87, .int .i64 r56.1.Rows, .int .i64 r56.1.Cols, .slice a57 r56.1.V.length q59, .int .i64 r63.1.Rows, .int .i64 r63.1.Cols, .slice a64 r63.1.V.length q66, .int .i64 r70.1.Rows, .int .i64 r70.1.Cols, .slice a71 r70.1.V.length q73, .int .i64 r77.1.Rows, .int .i64 r77.1.Cols, .slice a78 r77.1.V.length q80, .int .i64 r91.1.Rows, .int .i64 r91.1.Cols, .slice a92 r91.1.V.length q94, .int .i64 r98.1.Rows, .int .i64 r98.1.Cols, .slice a99 r98.1.V.length q101] (⟨r49.1, r84.1, r56.1, r63.1, r70.1, r77.1, r91.1, r98.1⟩ : S_api_Block) :: hR .i8 a99 q101 r98.1.V :: S_ref08_taker.hp b7 r98.2 :: hR .i8 a92 q94 r91.1.V :: hR .i8 a85 q87 r84.1 :: hR .i8 a78 q80 r77.1.V :: hR .i8 a71 q73 r70.1.V :: hR .i8 a64 q66 r63.1.V :: hR .i8 a57 q59 r56.1.V :: hR .i8 a50 q52 r49.1 :: B b45 [.slice a50 r49.1.length q52, .slice a85 r84.1.length q87, .int .i64 r56.1.Rows, .int .i64 r56.1.Cols, .slice a57 r56.1.V.length q59, .int .i64 r63.1.Rows, .int .i64 r63.1.Cols, .slice a64 r63.1.V.length q66, .int .i64 r70.1.Rows, .int .i64 r70.1.Cols, .slice a71 r70.1.V.length q73, .int .i64 r77.1.Rows, .int .i64 r77.1.Cols, .slice a78 r77.1.V.length q80, .int .i64 r91.1.Rows, .int .i64 r91.1.Cols, .slice a92 r91.1.V.length q94, .int .i64 r98.1.Rows, .int .i64 r98.1.Cols, .slice a99 r98.1.V.length q101] 97 :: hR .i8 a15 q17 r14.1.V :: B b10 [.int .i64 x0.Layers, .int .i64 x0.Width, .int .i64 x0.Heads, .int .i64 x0.Inner, .int .i64 x0.Vocab, .int .i64 x0.Places, .int .i64 r14.1.Rows, .int .i64 r14.1.Cols, .slice a15 r14.1.V.length q17, .slice a23 j22.length q25, .slice none 0 0, .int .i64 0, .int .i64 0, .slice none 0 0] 35 :: B b4 [.int .i64 0, .int .i64 0, .int .i64 0, .int .i64 0, .int .i64 0, .int .i64 0, .int .i64 0, .int .i64 0, .slice none 0 0, .slice none 0 0, .slice none 0 0, .int .i64 0, .int .i64 0, .slice none 0 0] 35 :: B b1 (S_api_Shape.cz x0) 29 :: Own S_api_Block.pr 97 (.slice a23 j22.length q25) j22 :: Fr) := S_api_Block.cl hc; refine rsE (Ctx.builtOp (css := [[.slice a50 r49.1.length q52, .slice a85 r84.1.length q87, .int .i64 r56.1.Rows, .int .i64 r56.1.Cols, .slice a57 r56.1.V.length q59, .int .i64 r63.1.Rows, .int .i64 r63.1.Cols, .slice a64 r63.1.V.length q66, .int .i64 r70.1.Rows, .int .i64 r70.1.Cols, .slice a71 r70.1.V.length q73, .int .i64 r77.1.Rows, .int .i64 r77.1.Cols, .slice a78 r77.1.V.length q80, .int .i64 r91.1.Rows, .int .i64 r91.1.Cols, .slice a92 r91.1.V.length q94, .int .i64 r98.1.Rows, .int .i64 r98.1.Cols, .slice a99 r98.1.V.length q101]]) (xs := ([(⟨r49.1, r84.1, r56.1, r63.1, r70.1, r77.1, r91.1, r98.1⟩ : S_api_Block)] : List S_api_Block)) (E := S_api_Block.pr) hc U33 Z97 V97 rfl rfl rfl rfl rfl rfl rfl rfl) rfl ?_; clear hc; rintro _ w106 ⟨a105, rfl, hc⟩; obtain ⟨z107, hz107, hp⟩ := bind_some hp; obtain ⟨hg108, e109⟩ := app_some hz107; refine rsE (hc.ap 15 0 reads_own U33 Tryz.t97 hg108) rfl ?_; clear hc; rintro _ w112 ⟨a110, q111, rfl, hc⟩; rw [← e109] at hc ⊢; replace hc := Ctx.n15 hc; refine sz (v := pt b10 9) (fax 9 rfl U35 rfl Z33 rfl rfl rfl) <| po hc 12 Z33 ?_; clear hc; rintro w113 hc; refine rn (bn (qn (Wreg ?_))); refine au 3 rfl <| rn (qn ?_); replace hc := hc.m [21, 19, 17, 15, 13, 11, 9, 7, 3, 1, 10, 10, 10, 10, 8, 10]; exact ⟨m1, Nat.lt_succ_self _, ⟨r98.2, z107, (IntKind.i64.wrap (j26 + 1)), a110, z107.length, q111, rfl, hp, hc⟩, (kl rfl k0)⟩

def rope_Angle (x0 : Int) (x1 : Int) : Option (Int) :=
  if x0 < 0 then
    some 0
  else
    if x0 > 1048576 then
      some 0
    else
      if x1 < 0 then
        some 0
      else
        chk (0 ≤ (min (IntKind.u64.wrap x1) 14)) <|
        (some (iand .i64 (IntKind.i64.wrap (x0 * (ishr .i64 8192 (min (IntKind.u64.wrap x1) 14)))) 65535)).bind fun e5 =>
        some e5

theorem rope_Angle_any {x0 x1 r : Int} {Fr : List HP} {w : World} {K : Value → World → Prop}  (hc : Ctx w (Fr)) (hp : rope_Angle x0 x1 = some r)
    (k : ∀ w', Ctx w' (Fr) → K (.int .i64 r) w') : Calls Tryz.prog 101 #[.int .i64 x0, .int .i64 x1] w (Ret K) := by
 unfold rope_Angle at hp; refine Center2 F101 M101 rfl rfl ?_; refine Wseq (Wreg ?_); refine au 1 rfl <| rn (qn (Wseq (Wseq (Wreg ?_)))); refine au 3 rfl ?_; cases hb1 : (decide (x0 < 0))
 · replace hp := gneg hp (of_decide_eq_false hb1); refine au 4 rfl ?_; cases hb2 : (decide (x0 > 1048576))
   · replace hp := gneg hp (of_decide_eq_false hb2); refine au 3 rfl <| rn (qn ?_); refine Wif hp (fun _ hp => ?_) fun _ hp => ?_
     · refine Wskip (qn (Wseq (Wreg ?_))); refine au 2 rfl <| sz (cvi rfl U3 U138) <| sz (v := .int .u64 (min (IntKind.u64.wrap x1) 14)) (bmn rfl rfl U138) ?_; obtain ⟨hg4, hp⟩ := chk_some hp; refine sz (shr_ rfl rfl hg4) <| au 1 rfl <| sz (and_ rfl rfl) ?_; obtain ⟨e5, he5, hp⟩ := bind_some hp; injection he5 with he5; refine sz (v := .int .i64 e5) (av (v := .int .i64 e5) (by rw [← he5]; rfl)) <| rn (qn (Wret ?_)); obtain rfl := sj hp; exact fz R101 M101 (k _ hc)
     · refine Wseq (Wreg ?_); refine au 1 rfl <| rn (qn (Wret (qr ?_))); obtain rfl := sj hp; exact fz R101 M101 (k _ hc)
   · replace hp := gpos hp (of_decide_eq_true hb2); (iterate 2 refine r0 rfl ?_); refine au 1 rfl <| rn (qn (Wct rfl (Wseq (Wreg ?_)))); refine au 1 rfl <| rn (qn (Wret (qr ?_))); obtain rfl := sj hp; exact fz R101 M101 (k _ hc)
 · replace hp := gpos hp (of_decide_eq_true hb1); (iterate 2 refine r0 rfl ?_); refine au 2 rfl ?_; (iterate 2 refine r0 rfl ?_); refine au 1 rfl <| rn (qn (Wct rfl (Wseq (Wreg ?_)))); refine au 1 rfl <| rn (qn (Wret (qr ?_))); obtain rfl := sj hp; exact fz R101 M101 (k _ hc)

def round_Shift.J1 (e2 : Int) (j7 : Bool) : Option (Int) :=
  if j7 = true then
    some (IntKind.i64.wrap (e2 + 1))
  else
    some e2

def round_Shift (x0 : Int) (x1 : Int) : Option (Int) :=
  chk (0 ≤ (min (max x1 0) 62)) <|
  (some (ishr .i64 x0 (min (max x1 0) 62))).bind fun e2 =>
  chk (0 ≤ (min (max x1 0) 62)) <|
  (some (iand .u64 (IntKind.u64.wrap x0) (IntKind.u64.wrap ((ishl .u64 1 (min (max x1 0) 62)) - 1)))).bind fun e4 =>
  chk (0 ≤ (min (max x1 0) 62)) <|
  (some (ishr .u64 (ishl .u64 1 (min (max x1 0) 62)) 1)).bind fun e6 =>
  if e4 > e6 then
    round_Shift.J1 e2 true
  else
    if e4 = e6 then
      if (min (max x1 0) 62) > 0 then
        round_Shift.J1 e2 (decide ((iand .i64 e2 1) = 1))
      else
        round_Shift.J1 e2 false
    else
      round_Shift.J1 e2 false

theorem round_Shift_any {x0 x1 r : Int} {Fr : List HP} {w : World} {K : Value → World → Prop}  (hc : Ctx w (Fr)) (hp : round_Shift x0 x1 = some r)
    (k : ∀ w', Ctx w' (Fr) → K (.int .i64 r) w') : Calls Tryz.prog 70 #[.int .i64 x0, .int .i64 x1] w (Ret K) := by
 unfold round_Shift at hp; refine Center2 F70 M70 rfl rfl ?_; refine Wseq (Wreg ?_); refine au 1 rfl <| rn (qn (Wseq (Wreg ?_))); refine au 1 rfl <| sz (v := .int .i64 (max x1 0)) (bmx rfl rfl U3) <| sz (v := .int .i64 (min (max x1 0) 62)) (bmn rfl rfl U3) <| au 1 rfl <| rn (qn (Wseq (Wreg ?_))); refine au 2 rfl ?_; replace hp := chk_some hp; obtain ⟨hg1, hp⟩ := hp; refine sz (shr_ rfl rfl hg1) ?_; replace hp := bind_some hp; obtain ⟨e2, he2, hp⟩ := hp; injection he2 with he2; refine sz (v := .int .i64 e2) (av (v := .int .i64 e2) (by rw [← he2]; rfl)) <| rn (qn (Wseq (Wreg ?_))); refine au 1 rfl <| sz (cvi rfl U2 U23) <| au 1 rfl ?_; replace hp := chk_some hp; obtain ⟨hg3, hp⟩ := hp; refine sz (shl_ rfl rfl hg3) <| au 1 rfl <| sz (and_ rfl rfl) ?_; replace hp := bind_some hp; obtain ⟨e4, he4, hp⟩ := hp; injection he4 with he4; refine sz (v := .int .u64 e4) (av (v := .int .u64 e4) (by rw [← he4]; rfl)) <| rn (qn (Wseq (Wreg ?_))); refine au 1 rfl ?_; replace hp := chk_some hp; obtain ⟨hg5, hp⟩ := hp; refine sz (shl_ rfl rfl hg5) <| sz (shr_ rfl rfl (by decide)) ?_; replace hp := bind_some hp; obtain ⟨e6, he6, hp⟩ := hp; injection he6 with he6; refine sz (v := .int .u64 e6) (av (v := .int .u64 e6) (by rw [← he6]; rfl)) <| rn (qn (Wseq ?_)); refine Wseqm (rg [23, 17]) [39] (fun vs w' => ∃ j7 : Bool, vs = [.bool j7] ∧ round_Shift.J1 e2 j7 = some r ∧ Ctx w' (Fr)) ?_ ?_
 · refine Wreg <| au 4 rfl ?_; cases hb8 : (decide (e4 > e6))
   · replace hp := gneg hp (of_decide_eq_false hb8); refine au 4 rfl ?_; cases hb9 : (decide (e4 = e6))
     · replace hp := gneg hp (of_decide_eq_false hb9); (iterate 2 refine r0 rfl ?_); refine au 2 rfl ?_; (iterate 3 refine r0 rfl ?_); refine au 2 rfl <| rn (qn ?_); exact ⟨⟨false, rfl, hp, hc⟩, (kl rfl kb)⟩
     · replace hp := gpos hp (of_decide_eq_true hb9); refine au 4 rfl ?_; cases hb10 : (decide ((min (max x1 0) 62) > 0))
       · replace hp := gneg hp (of_decide_eq_false hb10); (iterate 3 refine r0 rfl ?_); refine au 2 rfl <| rn (qn ?_); exact ⟨⟨false, rfl, hp, hc⟩, (kl rfl kb)⟩
       · replace hp := gpos hp (of_decide_eq_true hb10); refine au 1 rfl <| sz (and_ rfl rfl) <| au 3 rfl <| rn (qn ?_); exact ⟨⟨decide ((iand .i64 e2 1) = 1), rfl, hp, hc⟩, (kl rfl kb)⟩
   · replace hp := gpos hp (of_decide_eq_true hb8); (iterate 12 refine r0 rfl ?_); refine au 1 rfl <| rn (qn ?_); exact ⟨⟨true, rfl, hp, hc⟩, (kl rfl kb)⟩
 · clear hp hc; intro vs u w11 hJ; obtain ⟨j7, rfl, hp, hc⟩ := hJ; unfold round_Shift.J1 at hp; cases hb12 : j7
   · replace hp := gneg hp (by rw [hb12]; exact Bool.false_ne_true); subst hb12; refine Wcf rfl (Wskip (qn (Wseq (Wreg ?_)))); refine au 2 rfl <| rn (qn (Wret ?_)); obtain rfl := sj hp; exact fz R70 M70 (k _ hc)
   · replace hp := gpos hp hb12; subst hb12; refine Wct rfl (Wreg ?_); refine au 3 rfl <| rn (qn (Wseq (Wreg ?_))); refine au 2 rfl <| rn (qn (Wret ?_)); obtain rfl := sj hp; exact fz R70 M70 (k _ hc)

def rope_Sin.J1 (e1 : Int) (j3 : Int) : Option (Int) :=
  (rope_step (ishr .i64 j3 9)).bind fun r7 =>
  (rope_step (IntKind.i64.wrap ((ishr .i64 j3 9) + 1))).bind fun r9 =>
  (rope_step (ishr .i64 j3 9)).bind fun r11 =>
  (round_Shift (IntKind.i64.wrap ((IntKind.i64.wrap (r9 - r11)) * (iand .i64 j3 511))) 9).bind fun r13 =>
  if e1 ≥ 2 then
    (some (IntKind.i64.wrap (0 - (IntKind.i64.wrap (r7 + r13))))).bind fun e17 =>
    some (IntKind.i32.wrap e17)
  else
    (some (IntKind.i32.wrap (IntKind.i64.wrap (r7 + r13)))).bind fun e16 =>
    some e16

def rope_Sin (x0 : Int) : Option (Int) :=
  (some (IntKind.i64.wrap (Int.tdiv (iand .i64 x0 65535) 16384))).bind fun e1 =>
  (some (Int.tmod (iand .i64 x0 65535) 16384)).bind fun e2 =>
  if (iand .i64 e1 1) = 1 then
    (some (IntKind.i64.wrap (16384 - e2))).bind fun e5 =>
    rope_Sin.J1 e1 e5
  else
    rope_Sin.J1 e1 e2

theorem rope_Sin_any {x0 r : Int} {Fr : List HP} {w : World} {K : Value → World → Prop}  (hc : Ctx w (Fr)) (hp : rope_Sin x0 = some r)
    (k : ∀ w', Ctx w' (Fr) → K (.int .i32 r) w') : Calls Tryz.prog 104 #[.int .i64 x0] w (Ret K) := by
 unfold rope_Sin at hp; refine Center1 F104 M104 rfl rfl ?_; refine Wseq (Wreg ?_); refine au 1 rfl <| rn (qn (Wseq (Wreg ?_))); refine au 1 rfl <| sz (and_ rfl rfl) <| au 1 rfl <| rn (qn (Wseq (Wreg ?_))); refine au 1 rfl <| sz (quw rfl rfl (by decide)) <| au 1 rfl <| sz (rm rfl rfl (by decide)) ?_; obtain ⟨e1, he1, hp⟩ := bind_some hp; injection he1 with he1; refine sz (v := .int .i64 e1) (av (v := .int .i64 e1) (by rw [← he1]; rfl)) ?_; obtain ⟨e2, he2, hp⟩ := bind_some hp; injection he2 with he2; refine sz (v := .int .i64 e2) (av (v := .int .i64 e2) (by rw [← he2]; rfl)) <| rn (qn ?_); refine Wseqm (rg [4, 1, 14, 5]) [4] (fun vs w' => ∃ j3 : Int, vs = [.int .i64 j3] ∧ rope_Sin.J1 e1 j3 = some r ∧ Ctx w' (Fr)) ?_ ?_
 · refine Wseq (Wreg ?_); refine au 1 rfl <| sz (and_ rfl rfl) <| au 1 rfl <| rn (qn ?_); refine Wif hp (fun _ hp => ?_) fun _ hp => ?_
   · refine Wskip (qn ?_); exact ⟨⟨e2, rfl, hp, hc⟩, (kl rfl kb)⟩
   · refine Wreg <| au 2 rfl ?_; obtain ⟨e5, he5, hp⟩ := bind_some hp; injection he5 with he5; refine sz (v := .int .i64 e5) (av (v := .int .i64 e5) (by rw [← he5]; rfl)) <| rn (qn ?_); exact ⟨⟨e5, rfl, hp, hc⟩, (kl rfl kb)⟩
 · clear hp hc; intro vs u w6 hJ; obtain ⟨j3, rfl, hp, hc⟩ := hJ; unfold rope_Sin.J1 at hp; refine Wseq (Wreg ?_); refine au 1 rfl <| sz (shr_ rfl rfl (by decide)) <| au 1 rfl <| sz (and_ rfl rfl) <| au 2 rfl <| rn (qn (Wseq (Wreg ?_))); refine au 1 rfl ?_; obtain ⟨r7, hr7, hp⟩ := bind_some hp; refine kz C126 ?_; refine rope_step_any hc hr7 ?_; clear hc; intro w8 hc; refine au 2 rfl ?_; obtain ⟨r9, hr9, hp⟩ := bind_some hp; refine kz C126 ?_; refine rope_step_any hc hr9 ?_; clear hc; intro w10 hc; refine au 1 rfl ?_; obtain ⟨r11, hr11, hp⟩ := bind_some hp; refine kz C126 ?_; refine rope_step_any hc hr11 ?_; clear hc; intro w12 hc; refine au 3 rfl ?_; obtain ⟨r13, hr13, hp⟩ := bind_some hp; refine kz C70 ?_; refine round_Shift_any hc hr13 ?_; clear hc; intro w14 hc; refine au 2 rfl <| rn (qn (Wseq (Wseq (Wreg ?_)))); refine au 2 rfl <| rn (qn ?_); refine Wif hp (fun _ hp => ?_) fun _ hp => ?_
   · refine Wskip (qn (Wseq (Wreg ?_))); refine au 1 rfl <| sz (cvi rfl U2 U21) ?_; obtain ⟨e16, he16, hp⟩ := bind_some hp; injection he16 with he16; refine sz (v := .int .i32 e16) (av (v := .int .i32 e16) (by rw [← he16]; rfl)) <| rn (qn (Wret ?_)); obtain rfl := sj hp; exact fz R104 M104 (k _ hc)
   · refine Wreg <| au 1 rfl <| sz (neg_ rfl) ?_; obtain ⟨e17, he17, hp⟩ := bind_some hp; injection he17 with he17; refine sz (v := .int .i64 e17) (av (v := .int .i64 e17) (by rw [← he17]; rfl)) <| rn (qn (Wseq (Wreg ?_))); refine au 1 rfl <| sz (cvi rfl U2 U21) <| au 1 rfl <| rn (qn (Wret ?_)); obtain rfl := sj hp; exact fz R104 M104 (k _ hc)

def rope_Cos (x0 : Int) : Option (Int) :=
  (rope_Sin (IntKind.i64.wrap ((iand .i64 x0 65535) + 16384))).bind fun r1 =>
  some r1

theorem rope_Cos_any {x0 r : Int} {Fr : List HP} {w : World} {K : Value → World → Prop}  (hc : Ctx w (Fr)) (hp : rope_Cos x0 = some r)
    (k : ∀ w', Ctx w' (Fr) → K (.int .i32 r) w') : Calls Tryz.prog 103 #[.int .i64 x0] w (Ret K) := by
 unfold rope_Cos at hp; refine Center1 F103 M103 rfl rfl ?_; refine Wseq (Wreg ?_); refine au 1 rfl <| rn (qn (Wseq (Wreg ?_))); refine au 1 rfl <| sz (and_ rfl rfl) <| au 1 rfl ?_; obtain ⟨r1, hr1, hp⟩ := bind_some hp; refine kz C104 ?_; refine rope_Sin_any hc hr1 ?_; clear hc; intro w2 hc; refine au 1 rfl <| rn (qn (Wret ?_)); obtain rfl := sj hp; exact fz R103 M103 (k _ hc)

def round_near_int8 (x0 : Int) (x1 : Int) (x2 : Int) : Option (Int) :=
  (some (IntKind.i8.wrap (min (max x0 x1) x2))).bind fun e1 =>
  some e1

theorem round_near_int8_any {x0 x1 x2 r : Int} {Fr : List HP} {w : World} {K : Value → World → Prop}  (hc : Ctx w (Fr)) (hp : round_near_int8 x0 x1 x2 = some r)
    (k : ∀ w', Ctx w' (Fr) → K (.int .i8 r) w') : Calls Tryz.prog 99 #[.int .i64 x0, .int .i64 x1, .int .i64 x2] w (Ret K) := by
 unfold round_near_int8 at hp; refine Center3 F99 M99 rfl rfl ?_; refine Wseq (Wreg ?_); refine au 1 rfl <| rn (qn (Wseq (Wreg ?_))); refine au 2 rfl <| sz (v := .int .i64 (max x0 x1)) (bmx rfl rfl U2) <| au 1 rfl <| sz (v := .int .i64 (min (max x0 x1) x2)) (bmn rfl rfl U2) <| sz (cvi rfl U2 U88) ?_; obtain ⟨e1, he1, hp⟩ := bind_some hp; injection he1 with he1; refine sz (v := .int .i8 e1) (av (v := .int .i8 e1) (by rw [← he1]; rfl)) <| rn (qn (Wret ?_)); obtain rfl := sj hp; exact fz R99 M99 (k _ hc)

def round_Sat8 (x0 : Int) : Option (Int) :=
  (round_near_int8 x0 (-128) 127).bind fun r1 =>
  some r1

theorem round_Sat8_any {x0 r : Int} {Fr : List HP} {w : World} {K : Value → World → Prop}  (hc : Ctx w (Fr)) (hp : round_Sat8 x0 = some r)
    (k : ∀ w', Ctx w' (Fr) → K (.int .i8 r) w') : Calls Tryz.prog 69 #[.int .i64 x0] w (Ret K) := by
 unfold round_Sat8 at hp; refine Center1 F69 M69 rfl rfl ?_; refine Wseq (Wreg ?_); refine au 1 rfl <| rn (qn (Wseq (Wreg ?_))); refine au 1 rfl ?_; obtain ⟨r1, hr1, hp⟩ := bind_some hp; refine kz C99 ?_; refine round_near_int8_any hc hr1 ?_; clear hc; intro w2 hc; refine au 1 rfl <| rn (qn (Wret ?_)); obtain rfl := sj hp; exact fz R69 M69 (k _ hc)

def rope_pairOf (x0 : Int) (x1 : Int) (x2 : A2_i32) : Option (Int × Int) :=
  (round_Shift (IntKind.i64.wrap ((IntKind.i64.wrap ((IntKind.i64.wrap x0) * (IntKind.i64.wrap x2.c0))) - (IntKind.i64.wrap ((IntKind.i64.wrap x1) * (IntKind.i64.wrap x2.c1))))) 14).bind fun r5 =>
  (round_Sat8 r5).bind fun r7 =>
  (round_Shift (IntKind.i64.wrap ((IntKind.i64.wrap ((IntKind.i64.wrap x0) * (IntKind.i64.wrap x2.c1))) + (IntKind.i64.wrap ((IntKind.i64.wrap x1) * (IntKind.i64.wrap x2.c0))))) 14).bind fun r9 =>
  (round_Sat8 r9).bind fun r11 =>
  some (r7, r11)

theorem rope_pairOf_any {x0 x1 : Int} {x2 : A2_i32} {Fr : List HP} {w : World} {r : Int × Int} {K : Value → World → Prop}  (hc : Ctx w (Fr)) (hp : rope_pairOf x0 x1 x2 = some r)
    (k : ∀ w', Ctx w' (Fr) → K (.tuple #[.int .i8 r.1, .int .i8 r.2]) w') : Calls Tryz.prog 102 #[.int .i8 x0, .int .i8 x1, .agg #[.int .i32 x2.c0, .int .i32 x2.c1]] w (Ret K) := by
 unfold rope_pairOf at hp; refine Center3 F102 M102 rfl rfl ?_; refine Wseq (Wreg ?_); refine rsE (Ctx.boxOp (cs := [.int .i32 x2.c0, .int .i32 x2.c1]) (v := .agg #[.int .i32 x2.c0, .int .i32 x2.c1]) hc rfl rfl) rfl ?_; clear hc; rintro _ w3 ⟨b1, rfl, hc⟩; refine au 2 rfl <| rn (qn (Wseq ?_)); replace hc := hc.drew; refine Wdrw (fun _ w' => w' = World.drew w3) [0, 1, 0, 4, 0, 16, 48, 0, 128, 384, 3, 1039, 3199, 8191] 0 0 rfl (by kernel_rfl) (fun _ _ => rfl) ?_; generalize hw : World.drew w3 = w4 at *; clear hw; refine ad_ 1 rfl <| dE (cvi rfl U88 U2) rfl rfl <| ad_ 1 rfl <| dE (cvi rfl U88 U2) rfl rfl <| dE (v := pt b1 0) (ixa (i := 0) rfl rfl U187 Z21 (by decide) (by decide) (by decide) (by decide) rfl) rfl rfl <| dE (ld rfl G21 (Ctx.cell hc (k := 0) rfl rfl rfl)) rfl rfl <| dE (cvi rfl U21 U2) rfl rfl <| dE (v := pt b1 1) (ixa (i := 1) rfl rfl U187 Z21 (by decide) (by decide) (by decide) (by decide) rfl) rfl rfl <| dE (ld rfl G21 (Ctx.cell hc (k := 0) rfl rfl rfl)) rfl rfl <| dE (cvi rfl U21 U2) rfl rfl <| ad_ 4 rfl <| dn (qn (Wseq (Wreg ?_))); refine au 7 rfl ?_; obtain ⟨r5, hr5, hp⟩ := bind_some hp; refine kz C70 ?_; refine round_Shift_any hc hr5 ?_; clear hc; intro w6 hc; obtain ⟨r7, hr7, hp⟩ := bind_some hp; refine kz C69 ?_; refine round_Sat8_any hc hr7 ?_; clear hc; intro w8 hc; refine au 7 rfl ?_; obtain ⟨r9, hr9, hp⟩ := bind_some hp; refine kz C70 ?_; refine round_Shift_any hc hr9 ?_; clear hc; intro w10 hc; obtain ⟨r11, hr11, hp⟩ := bind_some hp; refine kz C69 ?_; refine round_Sat8_any hc hr11 ?_; clear hc; intro w12 hc; refine au 2 rfl <| rn (qn (Wret ?_)); replace hc := hc.m [1]; obtain rfl := sj hp; exact fz2 R102 M102 (k _ hc)

theorem bd_187_0_1 {ρ : Operand → Value} {w : World} {dst : Option Nat} {ty : TypeId} {pos : String} {after : Array Edge} {g : Option (Nat × Bool)} {x0 x1 : Operand} {k0 : IntKind} {a0 : Int} {k1 : IntKind} {a1 : Int} (h0 : ρ x0 = (.int k0 a0)) (h1 : ρ x1 = (.int k1 a1)) :
    (execOp ρ ⟨dst, .build 187 #[(0, x0), (1, x1)], ty, pos, after, g⟩).run Tryz.prog w = .ok (.value (.agg #[(.int k0 a0), (.int k1 a1)])) w := by
  simp [execOp, Instr.build, Instr.fill, Tryz.zeroValue187, Tryz.runUnderlying187, Tryz.sizeOf21, h0, h1, Value.cells]

def rope_Turn.L1 (x0 : Int) (x1 : (List Int)) : Nat → (List Int) → Int → Option ((List Int) × Int)
  | 0, _, _ => none
  | m1 + 1, j9, j13 =>
    if j13 < ((x1.length : Nat) : Int) then
      (rope_Angle x0 (IntKind.i64.wrap (Int.tdiv j13 2))).bind fun r16 =>
      (idx x1 j13).bind fun y19 =>
      (idx x1 (IntKind.i64.wrap (j13 + 1))).bind fun y28 =>
      (rope_Cos r16).bind fun r37 =>
      (rope_Sin r16).bind fun r39 =>
      (rope_pairOf y19 y28 (⟨r37, r39⟩ : A2_i32)).bind fun r41 =>
      (idx j9 j13).bind fun y43 =>
      (idx (j9.set (j13).toNat r41.1) (IntKind.i64.wrap (j13 + 1))).bind fun y50 =>
      (rope_Turn.L1 x0 x1 m1) ((j9.set (j13).toNat r41.1).set ((IntKind.i64.wrap (j13 + 1))).toNat r41.2) (IntKind.i64.wrap (j13 + 2))
    else
      some (j9, 0)

def rope_Turn (N : Nat) (x0 : Int) (x1 : (List Int)) : Option ((List Int) × Int) :=
  if (Int.tmod ((x1.length : Nat) : Int) 2) ≠ 0 then
    some ([], 30)
  else
    if x0 < 0 then
      some ([], 2)
    else
      if x0 > 1048576 then
        some ([], 2)
      else
        chk (0 ≤ ((x1.length : Nat) : Int) ∧ ((x1.length : Nat) : Int) ≤ 4294967296) <|
        rope_Turn.L1 x0 x1 N (List.replicate (((x1.length : Nat) : Int)).toNat 0) 0

theorem rope_Turn_any {N nx1 qx1 : Nat} {x0 : Int} {x1 : (List Int)} {ax1 : Option Addr} {P1 : HP} {Fr : List HP} {w : World} {r : (List Int) × Int} {K : Value → World → Prop} (hrd1 : Reads P1 (pInt .i8) (.slice ax1 nx1 qx1) x1) (hc : Ctx w (P1 :: Fr)) (hp : rope_Turn N x0 x1 = some r)
    (k : ∀ a57 n58 q59 w', Ctx w' (Own (pInt .i8) 88 (.slice a57 n58 q59) r.1 :: P1 :: Fr) → K (.tuple #[.slice a57 n58 q59, .int .i64 r.2]) w') : Calls Tryz.prog 73 #[.int .i64 x0, .slice ax1 nx1 qx1] w (Ret K) := by
 unfold rope_Turn at hp; refine Center2 F73 M73 rfl rfl ?_; obtain ⟨hn1, _⟩ := Ctx.rdLen hc (k := 0) rfl rfl hrd1; subst hn1; refine Wseq (Wreg ?_); refine au 2 rfl <| rn (qn (Wseq (Wblk (Wseq (Wreg ?_))))); refine au 1 rfl <| sz (ln rfl U30) <| sz (rm rfl rfl (by decide)) <| au 2 rfl <| rn (qn ?_); refine Wif hp (fun _ hp => ?_) fun _ hp => ?_
 · refine Wseq (Wreg ?_); refine au 3 rfl ?_; cases hb2 : (decide (x0 < 0))
   · replace hp := gneg hp (of_decide_eq_false hb2); refine au 4 rfl <| rn (qn ?_); refine Wif hp (fun _ hp => ?_) fun _ hp => ?_
     · refine Wskip (bn (qn (Wseq (Wreg ?_)))); refine au 1 rfl <| sz (ln rfl U30) ?_; obtain ⟨hg4, hp⟩ := chk_some hp; have hm6 : ((((x1.length : Nat) : Int)).toNat : Int) = ((x1.length : Nat) : Int) := Int.toNat_of_nonneg hg4.1; refine rsE (Ctx.make (n := (((x1.length : Nat) : Int)).toNat) (E := (pInt .i8)) (x0 := 0) hc (by rw [hm6]; rfl) (by rw [hm6]; rfl) U30 (i := Tryz.t88) rfl rfl rfl rfl rfl rfl (fun _ _ => rfl) (by omega)) rfl ?_; clear hc; rintro _ w8 ⟨a5, rfl, hc⟩; refine au 1 rfl <| rn (qn (Wseq (Wseq (Wreg ?_)))); refine au 1 rfl <| rn (qn (Wblk ?_)); refine Wloop (rg [7, 2, 24, 35]) [7] (fun m vs w' => ∃ j9 : (List Int), ∃ j13 : Int, vs = [.int .i64 j13] ∧ rope_Turn.L1 x0 x1 m j9 j13 = some r ∧ Ctx w' (Own (pInt .i8) 88 (.slice a5 ((((x1.length : Nat) : Int)).toNat) ((((x1.length : Nat) : Int)).toNat)) j9 :: P1 :: Fr)) N ?_ ?_
       · exact ⟨(List.replicate (((x1.length : Nat) : Int)).toNat 0), 0, rfl, hp, hc⟩
       · clear hp hc; intro m vs u w14 hJ; obtain ⟨j9, j13, rfl, hp, hc⟩ := hJ; rcases m with _ | m1
         · cases (show none = some r from hp)
         rw [rope_Turn.L1] at hp; refine Wseq (Wseq (Wreg ?_)); refine au 2 rfl <| sz (ln rfl U30) <| au 1 rfl <| rn (qn ?_); refine Wif hp (fun _ hp => ?_) fun _ hp => ?_
         · refine Wexit (qx (qx (be (qn (Wseq (Wreg ?_)))))); refine au 3 rfl <| rn (qn (Wret ?_)); obtain rfl := sj hp; exact fz2 R73 M73 (k _ _ _ _ hc)
         · refine Wskip (qn (Wseq (Wblk (Wseq (Wreg ?_))))); refine au 2 rfl <| sz (quw rfl rfl (by decide)) ?_; obtain ⟨r16, hr16, hp⟩ := bind_some hp; refine kz C101 ?_; refine rope_Angle_any hc hr16 ?_; clear hc; intro w17 hc; refine au 1 rfl <| rn (qn ?_); replace hc := hc.drew; refine Wdrw (fun j w' => (j = 8 → PinRow (pInt .i8) ax1 x1 w') ∧ (j = 13 → PinRow (pInt .i8) ax1 x1 w') ∧ True) [0, 0, 0, 0, 8, 0, 0, 96, 224, 0, 0, 1024, 3584, 7680, 0, 16384, 0, 114688, 245760, 524256, 1048544, 2097120, 2097120, 4194275, 12582883, 33554431, 67108863] 0 0 rfl (by kernel_rfl) (fun j hj => ⟨fun _ => PinRow.of hc (k := 1) rfl rfl hrd1 (fun _ _ _ _ _ _ _ h1 h2 => h1.trans h2.symm), fun _ => PinRow.of hc (k := 1) rfl rfl hrd1 (fun _ _ _ _ _ _ _ h1 h2 => h1.trans h2.symm), trivial⟩) ?_; generalize hw : World.drew w17 = w18 at *; clear hw; refine ad_ 7 rfl ?_; obtain ⟨y19, hy19, hp⟩ := bind_some hp; obtain ⟨b22, o23, rfl, hi20, hi21⟩ := hc.ra 1 hrd1 hy19; refine ds rfl (fun w' hF => ixx rfl rfl U30 Z88 hi20 hi21 rfl) rfl ?_; have hcell26 := hc.rv 1 hrd1 hy19; refine ds rfl (fun w' hF => ld rfl G88 ((hF.1 rfl) _ _ _ _ hy19 rfl w' (fun _ => True) _ rfl 0 _ rfl)) rfl <| ad_ 3 rfl ?_; obtain ⟨y28, hy28, hp⟩ := bind_some hp; obtain ⟨b31, o32, -, hi29, hi30⟩ := hc.ra 1 hrd1 hy28; refine ds rfl (fun w' hF => ixx rfl rfl U30 Z88 hi29 hi30 rfl) rfl ?_; have hcell35 := hc.rv 1 hrd1 hy28; refine ds rfl (fun w' hF => ld rfl G88 ((hF.2.1 rfl) _ _ _ _ hy28 rfl w' (fun _ => True) _ rfl 0 _ rfl)) rfl <| ad_ 1 rfl ?_; obtain ⟨r37, hr37, hp⟩ := bind_some hp; refine dc (cl C103 rfl rfl) rfl rfl ?_; refine rope_Cos_any hc hr37 ?_; clear hc; intro w38 hc; refine ⟨fun j hj hb => ⟨fun _ => PinRow.of hc (k := 1) rfl rfl hrd1 (fun _ _ _ _ _ _ _ h1 h2 => h1.trans h2.symm), fun _ => PinRow.of hc (k := 1) rfl rfl hrd1 (fun _ _ _ _ _ _ _ h1 h2 => h1.trans h2.symm), trivial⟩, ?_⟩; refine ad_ 1 rfl ?_; obtain ⟨r39, hr39, hp⟩ := bind_some hp; refine dc (cl C104 rfl rfl) rfl rfl ?_; refine rope_Sin_any hc hr39 ?_; clear hc; intro w40 hc; refine ⟨fun j hj hb => ⟨fun _ => PinRow.of hc (k := 1) rfl rfl hrd1 (fun _ _ _ _ _ _ _ h1 h2 => h1.trans h2.symm), fun _ => PinRow.of hc (k := 1) rfl rfl hrd1 (fun _ _ _ _ _ _ _ h1 h2 => h1.trans h2.symm), trivial⟩, ?_⟩; refine ds (v := .agg #[.int .i32 r37, .int .i32 r39]) rfl (fun w' hF => bd_187_0_1 rfl rfl) rfl ?_; obtain ⟨r41, hr41, hp⟩ := bind_some hp; refine dc (cl C102 rfl rfl) rfl rfl ?_; refine rope_pairOf_any (x2 := (⟨r37, r39⟩ : A2_i32)) hc hr41 ?_; clear hc; intro w42 hc; refine ⟨fun j hj hb => ⟨fun e => nja hj e, fun e => nja hj e, trivial⟩, ?_⟩; refine ad_ 3 rfl ?_; obtain ⟨y43, hy43, hp⟩ := bind_some hp; obtain ⟨b46, o47, rfl, hi44, hi45⟩ := hc.ra 0 reads_own hy43; refine ds rfl (fun w' hF => ixx rfl rfl U30 Z88 hi44 hi45 rfl) rfl ?_; refine duE (Ctx.ownPutOp hc (k := 0) rfl rfl (z := y43) (z' := r41.1) hy43 0 rfl (u := .int .i8 r41.1) rfl rfl rfl Z88 (fun _ _ _ h => by cases h; rfl) rfl) rfl rfl ?_; clear hc; rintro w49 hc; replace hc := Ctx.n0 hc; refine ⟨fun j hj hb => ⟨fun e => nja hj e, fun e => nja hj e, trivial⟩, ?_⟩; obtain ⟨y50, hy50, hp⟩ := bind_some hp; obtain ⟨b53, o54, -, hi51, hi52⟩ := hc.ra 0 reads_own hy50; refine ds rfl (fun w' hF => ixx rfl rfl U30 Z88 hi51 hi52 rfl) rfl ?_; refine duE (Ctx.ownPutOp hc (k := 0) rfl rfl (z := y50) (z' := r41.2) hy50 0 rfl (u := .int .i8 r41.2) rfl rfl rfl Z88 (fun _ _ _ h => by cases h; rfl) rfl) rfl rfl ?_; clear hc; rintro w56 hc; replace hc := Ctx.n0 hc; refine ⟨fun j hj hb => ⟨fun e => nja hj e, fun e => nja hj e, trivial⟩, ?_⟩; refine dn (bn (qn (Wreg ?_))); refine au 3 rfl <| rn (qn ?_); exact ⟨m1, Nat.lt_succ_self _, ⟨((j9.set (j13).toNat r41.1).set ((IntKind.i64.wrap (j13 + 1))).toNat r41.2), (IntKind.i64.wrap (j13 + 2)), rfl, hp, hc⟩, (kl rfl k0)⟩
     · refine Wseq (Wreg ?_); refine au 2 rfl <| rn (qn (Wret (br (qr ?_)))); replace hc := hc.nilOwn (pInt .i8) 88; obtain rfl := sj hp; exact fz2 R73 M73 (k _ _ _ _ hc)
   · replace hp := gpos hp (of_decide_eq_true hb2); (iterate 2 refine r0 rfl ?_); refine au 2 rfl <| rn (qn (Wct rfl (Wseq (Wreg ?_)))); refine au 2 rfl <| rn (qn (Wret (br (qr ?_)))); replace hc := hc.nilOwn (pInt .i8) 88; obtain rfl := sj hp; exact fz2 R73 M73 (k _ _ _ _ hc)
 · refine Wseq (Wreg ?_); refine au 2 rfl <| rn (qn (Wret (br (qr ?_)))); replace hc := hc.nilOwn (pInt .i8) 88; obtain rfl := sj hp; exact fz2 R73 M73 (k _ _ _ _ hc)

def block_turned.L (N : Nat) (x0 : Int) (wd : Nat) (x2 : List Int) : Nat → List Int → Nat → Option (List Int)
  | 0, _, _ => none
  | m + 1, out, i => if i < x2.length then (rope_Turn N x0 ((x2.take (i + min wd (x2.length - i))).drop i)).bind fun r => chk (out.length + r.1.length ≤ 4294967296) <| block_turned.L N x0 wd x2 m (out ++ r.1) (i + wd) else some out
def block_turned (N : Nat) (x0 : Int) (x1 : Int) (x2 : (List Int)) : Option (List Int) :=
  chk (1 ≤ x1 ∧ x1 < 4611686018427387904 ∧ x2.length < 4611686018427387904) <| block_turned.L N x0 x1.toNat x2 N [] 0
theorem block_turned_any {N nx2 qx2 : Nat} {x0 x1 : Int} {x2 rr : (List Int)} {ax2 : Option Addr} {P2 : HP} {Fr : List HP} {w : World} {K : Value → World → Prop} (hrd2 : Reads P2 (pInt .i8) (.slice ax2 nx2 qx2) x2) (hc : Ctx w (P2 :: Fr)) (hp : block_turned N x0 x1 x2 = some rr)
    (k : ∀ (a : Option Addr) (n : Nat) (q : Nat) w', Ctx w' (Own (pInt .i8) 88 (.slice a n q) rr :: P2 :: Fr) → K (.slice a n q) w') : Calls Tryz.prog 34 #[.int .i64 x0, .int .i64 x1, .slice ax2 nx2 qx2] w (Ret K) := by
  unfold block_turned at hp
  replace hp := chk_some hp
  obtain ⟨⟨hw1, hw2, hw3⟩, hp⟩ := hp
  refine CenterMC (args := [.int .i64 x0, .int .i64 x1, .slice ax2 nx2 qx2]) (l := [(0, .int .i64 x0), (1, .int .i64 x1), (2, .slice ax2 nx2 qx2)]) F34 M34 rfl rfl rfl ?_
  obtain ⟨hn1, hq⟩ := Ctx.rdLen hc (k := 0) rfl rfl hrd2
  subst hn1
  obtain ⟨wd, rfl⟩ : ∃ wd : Nat, x1 = (wd : Int) := ⟨x1.toNat, by omega⟩
  rw [Int.toNat_natCast] at hp
  refine WiSeq (Wi_of (Wreg ?_)); refine rsE (Ctx.boxOp (cs := [.int .i64 x0]) (v := .int .i64 x0) hc rfl rfl) rfl ?_; clear hc; rintro _ w1 ⟨b3, rfl, hc⟩; refine au 1 rfl <| rn (qn ?_)
  refine WiSeq (Wi_of (Wreg ?_)); refine rsE (Ctx.allocOp (cs := [.slice none 0 0]) hc V30 rfl) rfl ?_; clear hc; rintro _ w2 ⟨b7, rfl, hc⟩; refine rn (qn ?_)
  refine WiSeq (WiSeq (Wi_of (Wreg ?_))); refine au 2 rfl ?_
  refine kz C72 ?_; refine chunk_any hw1 hc ?_; clear hc; intro b1 b2 w3 hc; refine rn (qn (WiBlk ?_))
  refine WiRange (caps := [pt b1 0, pt b2 0]) rfl C100 hc ?_
  clear hc; intro D r rc w4 hst hpd htm hps has hbd hc
  have hD : ∀ (w : World) (out : List Int) (a7 : Option Addr) (q7 : Nat), Ctx w (Ob r (.loop rc) :: P2 :: oR .i8 88 a7 q7 out :: B b7 [.slice a7 out.length q7] 30 :: B b3 [.int .i64 x0] 3 :: B b2 [.int .i64 (wd : Int)] 3 :: B b1 [.slice ax2 x2.length qx2] 30 :: Ob D (.deferred (some [])) :: Fr) →
      Ctx w (Ob r (.loop rc) :: Ob D (.deferred (some [])) :: P2 :: oR .i8 88 a7 q7 out :: B b7 [.slice a7 out.length q7] 30 :: B b3 [.int .i64 x0] 3 :: B b2 [.int .i64 (wd : Int)] 3 :: B b1 [.slice ax2 x2.length qx2] 30 :: Fr) := fun w out a7 q7 h => (h.pull 7 rfl rfl).swap
  refine (chunk_it (a := ax2) (q := qx2) (n := x2.length) (wd := wd) (rc := rc) (by omega) hw3 (by omega) hq (by rw [hps]; rfl) (fun i w => ∃ (out : List Int) (a7 : Option Addr) (q7 : Nat) (m : Nat), block_turned.L N x0 wd x2 m out i = some rr ∧
      Ctx w (Ob r (.loop rc) :: P2 :: oR .i8 88 a7 q7 out :: B b7 [.slice a7 out.length q7] 30 :: B b3 [.int .i64 x0] 3 :: B b2 [.int .i64 (wd : Int)] 3 :: B b1 [.slice ax2 x2.length qx2] 30 :: Ob D (.deferred (some [])) :: Fr)) ?_ ?_ ?_ ?_).mono ?_
  · rintro i w ⟨out, a7, q7, m, h, hc⟩
    exact ⟨out, a7, q7, m, h, hc.drew⟩
  · rintro i w ⟨out, a7, q7, m, h, hc⟩
    exact ⟨Ctx.cell hc (k := 6) rfl rfl (i := 0) rfl, Ctx.cell hc (k := 5) rfl rfl (i := 0) rfl, hc.obGet (k := 0) rfl rfl⟩
  · rintro i w hi ⟨out, a7, q7, m, h, hc⟩
    cases m with
    | zero => cases h
    | succ m =>
      rw [block_turned.L, if_pos hi] at h
      replace h := bind_some h
      obtain ⟨r1, hr1, h⟩ := h
      replace h := chk_some h
      obtain ⟨hg, h⟩ := h
      generalize hv : (Value.slice (if i + min wd (x2.length - i) = i then ax2 else ax2.map (·.add (i * 1))) (i + min wd (x2.length - i) - i) (i + min wd (x2.length - i) - i)) = v
      have hrd : Reads P2 (pInt .i8) v ((x2.take (i + min wd (x2.length - i))).drop i) := hv ▸ reads_sub3 hrd2 (by omega) (by omega) (Nat.le_refl _)
      refine round_1 (l := [(13, .func (.func 100) #[] #[pt b1 0, pt b2 0]), (12, .int .i64 (wd : Int)), (11, .slice ax2 x2.length qx2), (7, pt b7 0), (6, .slice none 0 0), (3, pt b3 0), (0, .int .i64 x0), (1, .int .i64 (wd : Int)), (2, .slice ax2 x2.length qx2)]) (b := fun _ => undef) hst hpd htm hps ?_
      rw [has]
      refine WiReg ?_
      refine riS (v := v) (free_round r) (fun _ h => by cases h) (av rfl) rfl ?_
      refine riN ⟨_, hc, ?_⟩
      clear hc; intro w6 hc
      replace hc := hc.swap
      rw [hbd]
      refine WiBlk (WiSeq (WiReg ?_))
      refine riS (free_round r) (fun _ h => by cases h) (ld rfl G3 (Ctx.cell hc (k := 4) rfl rfl (i := 0) rfl)) rfl ?_
      refine riS (v := v) (free_round r) (fun _ h => by cases h) (mv rfl) rfl ?_
      subst hv
      refine riC (free_round r) (fun _ h => by cases h) (cl C73 rfl rfl) rfl ?_
      refine rope_Turn_any hrd hc hr1 ?_
      clear hc; intro a8 n8 q8 w7 hc
      obtain ⟨u8, _⟩ := Ctx.rdLen hc (k := 0) rfl rfl reads_own
      subst u8
      refine riS (v := .tuple #[.slice a8 r1.1.length q8, .int .i64 r1.2]) (free_round r) (fun _ h => by cases h) (mv rfl) rfl ?_
      refine riS (v := .slice a8 r1.1.length q8) (free_round r) (fun _ h => by cases h) (ext (vs := [.slice a8 r1.1.length q8, .int .i64 r1.2]) rfl rfl) rfl ?_
      refine riS (v := .int .i64 r1.2) (free_round r) (fun _ h => by cases h) (ext (vs := [.slice a8 r1.1.length q8, .int .i64 r1.2]) rfl rfl) rfl ?_
      refine riS (v := .slice a8 r1.1.length q8) (free_round r) (fun _ h => by cases h) (av rfl) rfl ?_
      refine riS (v := .int .i64 r1.2) (free_round r) (fun _ h => by cases h) (av rfl) rfl ?_
      refine riN ?_
      refine (show Wi _ _ _ _ _ _ _ _ _ from WiReg ?_)
      refine riS (free_round r) (fun _ h => by cases h) (ld rfl G30 (Ctx.cell hc (k := 4) rfl rfl (i := 0) rfl)) rfl ?_
      refine riS (v := .slice a8 r1.1.length q8) (free_round r) (fun _ h => by cases h) (mv rfl) rfl ?_
      refine riSE (free_round r) (fun _ h => by cases h) (Ctx.append hc (k := 3) rfl rfl (k2 := 0) rfl rfl reads_own U30 (i := Tryz.t88) rfl rfl rfl rfl rfl rfl rfl rfl hg) rfl ?_
      clear hc; rintro _ w8 ⟨a9, q9, rfl, hc⟩
      replace hc := Ctx.n3 hc
      refine riUE (free_round r) (fun _ h => by cases h) (Ctx.putOp hc (k := 4) rfl rfl (v := .slice a9 (out ++ r1.1).length q9) (cs' := [.slice a9 (out ++ r1.1).length q9]) rfl rfl rfl Z30 rfl rfl rfl) rfl ?_
      clear hc; rintro w9 hc
      replace hc := Ctx.n4 hc
      refine riN ⟨_, hc.pull 2 rfl rfl, ?_⟩
      intro w10 hc
      exact ⟨out ++ r1.1, a9, q9, m, h, (hc.pull 1 rfl rfl).drop⟩
  · exact ⟨[], none, 0, N, hp, ((((((((Ctx.nilOwn (pInt .i8) 88 hc).pull 2 rfl rfl).pull 4 rfl rfl).pull 4 rfl rfl).pull 6 rfl rfl).pull 6 rfl rfl).pull 5 rfl rfl).pull 7 rfl rfl).pull 7 rfl rfl⟩
  · rintro e w5 ⟨rfl, i, hi, out, a7, q7, m, h, hc⟩
    refine ⟨⟨_, rfl⟩, _, hD _ _ _ _ hc, ?_⟩
    clear hc; intro w6 hc
    refine bn (qn (WiSeq (WiReg ?_)))
    refine riS free_wide (fun _ h => by cases h) (ld rfl G30 (Ctx.cell hc (k := 3) rfl rfl (i := 0) rfl)) rfl ?_
    refine riS (v := .slice a7 out.length q7) free_wide (fun _ h => by cases h) (av rfl) rfl ?_
    refine riN (qn (WiRet ?_))
    refine m1r R34 M34 rfl (hc.obGet (k := 0) rfl rfl) ?_
    have hc' := (hc.obPut (k := 0) rfl rfl (.deferred none) rfl).drop.swap
    cases m with
    | zero => cases h
    | succ m =>
      rw [block_turned.L, if_neg (by omega)] at h
      injection h with h
      subst h
      exact ⟨_, rfl, k _ _ _ _ ((((hc'.pull 2 rfl rfl).drop.pull 2 rfl rfl).drop.pull 2 rfl rfl).drop.pull 2 rfl rfl).drop⟩

def slices_IndexFunc_s_api_Shard_api_Shard.L1 (x0 : (List S_api_Shard)) (x1 : (S_api_Shard → Option Bool)) : Nat → Int → Option (Int)
  | 0, _ => none
  | m1 + 1, j1 =>
    if j1 < ((x0.length : Nat) : Int) then
      (idx x0 j1).bind fun y4 =>
      (x1 y4).bind fun r21 =>
      if r21 = true then
        some j1
      else
        (slices_IndexFunc_s_api_Shard_api_Shard.L1 x0 x1 m1) (IntKind.i64.wrap (j1 + 1))
    else
      some (-1)

def slices_IndexFunc_s_api_Shard_api_Shard (N : Nat) (x0 : (List S_api_Shard)) (x1 : (S_api_Shard → Option Bool)) : Option (Int) :=
  slices_IndexFunc_s_api_Shard_api_Shard.L1 x0 x1 N 0

theorem slices_IndexFunc_s_api_Shard_api_Shard_any {N nx0 qx0 : Nat} {x0 : (List S_api_Shard)} {ax0 : Option Addr} {P0 : HP} {x1 : (S_api_Shard → Option Bool)} {fid1 : FuncId} {cap1 : List Value} {Fr : List HP} {w : World} {r : Int} {K : Value → World → Prop} (hrd0 : Reads P0 S_api_Shard.pr (.slice ax0 nx0 qx0) x0) (hcl1 : ∀ a w, (callFunc fid1 a).run Tryz.prog w = .ok (.enter fid1 a) w) (hf1 : ∀ (y0 : S_api_Shard) (a1 : Option Addr) (n2 : Nat) (q3 : Nat) (a4 : Option Addr) (n5 : Nat) (q6 : Nat) (a7 : Option Addr) (n8 : Nat) (q9 : Nat) (a10 : Option Addr) (n11 : Nat) (q12 : Nat) (Qs : List HP) (w : World) (r : Bool) (K : Value → World → Prop), Ctx w (Hold (pRo (pInt .i8)) [.slice a1 n2 q3] y0.Embed.V :: Hold (pRo S_api_Block.pr) [.slice a4 n5 q6] y0.Blocks :: Hold (pRo (pInt .i8)) [.slice a7 n8 q9] y0.Last :: Hold (pRo (pInt .i8)) [.slice a10 n11 q12] y0.Head.V :: (Qs ++ Fr)) → x1 y0 = some r → (∀ w', Ctx w' (Qs ++ Fr) → K (.bool r) w') → Calls Tryz.prog fid1 (([.agg #[.int .i64 y0.Shape.Layers, .int .i64 y0.Shape.Width, .int .i64 y0.Shape.Heads, .int .i64 y0.Shape.Inner, .int .i64 y0.Shape.Vocab, .int .i64 y0.Shape.Places, .int .i64 y0.Cut.Stages, .int .i64 y0.Cut.Parts, .int .i64 y0.Stage, .int .i64 y0.Part, .int .i64 y0.Embed.Rows, .int .i64 y0.Embed.Cols, .slice a1 n2 q3, .slice a4 n5 q6, .slice a7 n8 q9, .int .i64 y0.Head.Rows, .int .i64 y0.Head.Cols, .slice a10 n11 q12]] : List Value) ++ cap1).toArray w (Ret K)) (hc : Ctx w (P0 :: Fr)) (hp : slices_IndexFunc_s_api_Shard_api_Shard N x0 x1 = some r)
    (k : ∀ w', Ctx w' (P0 :: Fr) → K (.int .i64 r) w') : Calls Tryz.prog 116 #[.slice ax0 nx0 qx0, .func (.func fid1) #[] cap1.toArray] w (Ret K) := by
 unfold slices_IndexFunc_s_api_Shard_api_Shard at hp; refine Center2 F116 M116 rfl rfl ?_; obtain ⟨hn0, _⟩ := Ctx.rdLen hc (k := 0) rfl rfl hrd0; subst hn0; refine Wseq (Wreg ?_); refine au 1 rfl <| rn (qn (Wseq (Wseq (Wreg ?_)))); refine au 1 rfl <| sz (ln rfl U72) <| au 1 rfl <| rn (qn (Wblk ?_)); refine Wloop (rg [4, 2, 8, 11]) [8] (fun m vs w' => ∃ j1 : Int, vs = [.int .i64 j1] ∧ slices_IndexFunc_s_api_Shard_api_Shard.L1 x0 x1 m j1 = some r ∧ Ctx w' (P0 :: Fr)) N ?_ ?_
 · exact ⟨0, rfl, hp, hc⟩
 · clear hp hc; intro m vs u w2 hJ; obtain ⟨j1, rfl, hp, hc⟩ := hJ; rcases m with _ | m1
   · cases (show none = some r from hp)
   rw [slices_IndexFunc_s_api_Shard_api_Shard.L1] at hp; refine Wseq (Wreg ?_); refine au 1 rfl <| rn (qn (Wseq ?_)); refine Wif hp (fun _ h => ?_) fun _ h => ?_
   · replace hp := h; clear h; refine Wexit (qx (qx (be (qn (Wseq (Wreg ?_)))))); refine au 1 rfl <| rn (qn (Wret ?_)); obtain rfl := sj hp; exact fz R116 M116 (k _ hc)
   · replace hp := h; clear h; refine Wskip (qn (Wseq (Wblk (Wseq (Wreg ?_))))); refine au 2 rfl <| rn (qn (Wseq (Wreg ?_))); refine au 3 rfl ?_; replace hp := bind_some hp; obtain ⟨y4, hy4, hp⟩ := hp; obtain ⟨b7, o8, rfl, hi5, hi6⟩ := hc.ra 0 hrd0 hy4; refine sz (ixx rfl rfl U72 Z41 hi5 hi6 rfl) ?_; replace hc := Ctx.rdCell hc (k := 0) rfl rfl hrd0 hy4; obtain ⟨cs10, hc, hcell11⟩ := hc; replace hc := S_api_Shard.op hc; obtain ⟨a13, q14, a15, q16, a17, q18, a19, q20, u12, hc⟩ := hc; subst u12; refine sz (v := .agg (S_api_Shard.cz y4 a13 q14 a15 q16 a17 q18 a19 q20).toArray) (ldg rfl G41 Z41 rfl (elCells hcell11 0 (vs := (S_api_Shard.cz y4 a13 q14 a15 q16 a17 q18 a19 q20)) rfl)) ?_; replace hc := hc.dz 0; replace hc := hc.dz 2; replace hc := hc.dz 4; replace hc := hc.dz 6; replace hp := bind_some hp; obtain ⟨r21, hr21, hp⟩ := hp; replace hc := hc.m [2, 4, 6]; refine rc (cv (fi := []) (ca := cap1) (vs := ([.agg (S_api_Shard.cz y4 a13 q14 a15 q16 a17 q18 a19 q20).toArray] : List Value) ++ cap1) hcl1 rfl rfl) rfl ?_; refine hf1 _ _ _ _ _ _ _ _ _ _ _ _ _ [hR .i8 a13 q14 y4.Embed.V, hS S_api_Block.pr a15 q16 y4.Blocks, hR .i8 a17 q18 y4.Last, hR .i8 a19 q20 y4.Head.V, P0] _ _ _ hc hr21 ?_; clear hc; intro w22 hc; replace hc : Ctx w22 (hR .i8 a13 q14 y4.Embed.V :: hS S_api_Block.pr a15 q16 y4.Blocks :: hR .i8 a17 q18 y4.Last :: hR .i8 a19 q20 y4.Head.V :: P0 :: Fr) := hc; refine rn (qn ?_); cases hb23 : r21
     · replace hp := gneg hp (by rw [hb23]; exact Bool.false_ne_true); subst hb23; refine Wcf rfl (Wskip (bn (qn (Wreg ?_)))); refine au 2 rfl <| rn (qn ?_); replace hc := hc.m [7, 5, 3, 1]; exact ⟨m1, Nat.lt_succ_self _, ⟨(IntKind.i64.wrap (j1 + 1)), rfl, hp, hc⟩, (kl rfl k0)⟩
     · replace hp := gpos hp hb23; subst hb23; refine Wct rfl (Wseq (Wreg ?_)); refine au 2 rfl <| rn (qn (Wret (br (qr (qr (br (qr ?_))))))); replace hc := hc.m [7, 5, 3, 1]; obtain rfl := sj hp; exact fz R116 M116 (k _ hc)

def slices_ContainsFunc_s_api_Shard_api_Shard (N : Nat) (x0 : (List S_api_Shard)) (x1 : (S_api_Shard → Option Bool)) : Option (Bool) :=
  (slices_IndexFunc_s_api_Shard_api_Shard N x0 x1).bind fun r2 =>
  some (decide (r2 ≥ 0))

theorem slices_ContainsFunc_s_api_Shard_api_Shard_any {N nx0 qx0 : Nat} {x0 : (List S_api_Shard)} {ax0 : Option Addr} {P0 : HP} {x1 : (S_api_Shard → Option Bool)} {fid1 : FuncId} {cap1 : List Value} {Fr : List HP} {w : World} {r : Bool} {K : Value → World → Prop} (hrd0 : Reads P0 S_api_Shard.pr (.slice ax0 nx0 qx0) x0) (hcl1 : ∀ a w, (callFunc fid1 a).run Tryz.prog w = .ok (.enter fid1 a) w) (hf1 : ∀ (y0 : S_api_Shard) (a1 : Option Addr) (n2 : Nat) (q3 : Nat) (a4 : Option Addr) (n5 : Nat) (q6 : Nat) (a7 : Option Addr) (n8 : Nat) (q9 : Nat) (a10 : Option Addr) (n11 : Nat) (q12 : Nat) (Qs : List HP) (w : World) (r : Bool) (K : Value → World → Prop), Ctx w (Hold (pRo (pInt .i8)) [.slice a1 n2 q3] y0.Embed.V :: Hold (pRo S_api_Block.pr) [.slice a4 n5 q6] y0.Blocks :: Hold (pRo (pInt .i8)) [.slice a7 n8 q9] y0.Last :: Hold (pRo (pInt .i8)) [.slice a10 n11 q12] y0.Head.V :: (Qs ++ Fr)) → x1 y0 = some r → (∀ w', Ctx w' (Qs ++ Fr) → K (.bool r) w') → Calls Tryz.prog fid1 (([.agg #[.int .i64 y0.Shape.Layers, .int .i64 y0.Shape.Width, .int .i64 y0.Shape.Heads, .int .i64 y0.Shape.Inner, .int .i64 y0.Shape.Vocab, .int .i64 y0.Shape.Places, .int .i64 y0.Cut.Stages, .int .i64 y0.Cut.Parts, .int .i64 y0.Stage, .int .i64 y0.Part, .int .i64 y0.Embed.Rows, .int .i64 y0.Embed.Cols, .slice a1 n2 q3, .slice a4 n5 q6, .slice a7 n8 q9, .int .i64 y0.Head.Rows, .int .i64 y0.Head.Cols, .slice a10 n11 q12]] : List Value) ++ cap1).toArray w (Ret K)) (hc : Ctx w (P0 :: Fr)) (hp : slices_ContainsFunc_s_api_Shard_api_Shard N x0 x1 = some r)
    (k : ∀ w', Ctx w' (P0 :: Fr) → K (.bool r) w') : Calls Tryz.prog 90 #[.slice ax0 nx0 qx0, .func (.func fid1) #[] cap1.toArray] w (Ret K) := by
 unfold slices_ContainsFunc_s_api_Shard_api_Shard at hp; refine Center2 F90 M90 rfl rfl ?_; obtain ⟨hn0, _⟩ := Ctx.rdLen hc (k := 0) rfl rfl hrd0; subst hn0; refine Wseq (Wreg ?_); refine au 1 rfl <| rn (qn (Wseq (Wreg ?_))); refine au 2 rfl ?_; have hf1 : ∀ (y0 : S_api_Shard) (a2 : Option Addr) (n3 : Nat) (q4 : Nat) (a5 : Option Addr) (n6 : Nat) (q7 : Nat) (a8 : Option Addr) (n9 : Nat) (q10 : Nat) (a11 : Option Addr) (n12 : Nat) (q13 : Nat) (Qs : List HP) (w : World) (r : Bool) (K : Value → World → Prop), Ctx w (Hold (pRo (pInt .i8)) [.slice a2 n3 q4] y0.Embed.V :: Hold (pRo S_api_Block.pr) [.slice a5 n6 q7] y0.Blocks :: Hold (pRo (pInt .i8)) [.slice a8 n9 q10] y0.Last :: Hold (pRo (pInt .i8)) [.slice a11 n12 q13] y0.Head.V :: (Qs ++ (Fr))) → x1 y0 = some r → (∀ w', Ctx w' (Qs ++ (Fr)) → K (.bool r) w') → Calls Tryz.prog fid1 (([.agg #[.int .i64 y0.Shape.Layers, .int .i64 y0.Shape.Width, .int .i64 y0.Shape.Heads, .int .i64 y0.Shape.Inner, .int .i64 y0.Shape.Vocab, .int .i64 y0.Shape.Places, .int .i64 y0.Cut.Stages, .int .i64 y0.Cut.Parts, .int .i64 y0.Stage, .int .i64 y0.Part, .int .i64 y0.Embed.Rows, .int .i64 y0.Embed.Cols, .slice a2 n3 q4, .slice a5 n6 q7, .slice a8 n9 q10, .int .i64 y0.Head.Rows, .int .i64 y0.Head.Cols, .slice a11 n12 q13]] : List Value) ++ cap1).toArray w (Ret K) := by
   intro z0 z1 z2 z3 z4 z5 z6 z7 z8 z9 z10 z11 z12 Qs w r K hc hp k; refine hf1 z0 z1 z2 z3 z4 z5 z6 z7 z8 z9 z10 z11 z12 (Qs ++ []) w r K (by rw [List.append_assoc]; exact hc) hp (fun w' hc' => k w' (by rw [List.append_assoc] at hc'; exact hc'))
 obtain ⟨r2, hr2, hp⟩ := bind_some hp; refine kz C116 ?_; refine slices_IndexFunc_s_api_Shard_api_Shard_any hrd0 hcl1 hf1 hc hr2 ?_; clear hc; intro w3 hc; refine au 2 rfl <| rn (qn (Wret ?_)); obtain rfl := sj hp; exact fz R90 M90 (k _ hc)

def weight_in (x0 : Int) (x1 : Int) (x2 : Int) : Option (Bool) :=
  if x0 ≥ x1 then
    some (decide (x0 ≤ x2))
  else
    some false

theorem weight_in_any {x0 x1 x2 : Int} {Fr : List HP} {w : World} {r : Bool} {K : Value → World → Prop}  (hc : Ctx w (Fr)) (hp : weight_in x0 x1 x2 = some r)
    (k : ∀ w', Ctx w' (Fr) → K (.bool r) w') : Calls Tryz.prog 134 #[.int .i64 x0, .int .i64 x1, .int .i64 x2] w (Ret K) := by
 unfold weight_in at hp; refine Center3 F134 M134 rfl rfl ?_; refine Wseq (Wreg ?_); refine au 1 rfl <| rn (qn (Wseq (Wreg ?_))); refine au 4 rfl ?_; cases hb1 : (decide (x0 ≥ x1))
 · replace hp := gneg hp (of_decide_eq_false hb1); (iterate 3 refine r0 rfl ?_); refine au 2 rfl <| rn (qn (Wret ?_)); obtain rfl := sj hp; exact fz R134 M134 (k _ hc)
 · replace hp := gpos hp (of_decide_eq_true hb1); refine au 5 rfl <| rn (qn (Wret ?_)); obtain rfl := sj hp; exact fz R134 M134 (k _ hc)

def weight_Right (x0 : S_api_Shape) : Option (Bool) :=
  (weight_in x0.Layers 1 16).bind fun r4 =>
  if r4 = true then
    (weight_in x0.Heads 1 16).bind fun r7 =>
    if r7 = true then
      (weight_in x0.Width 2 128).bind fun r10 =>
      if r10 = true then
        chk ((IntKind.i64.wrap (2 * x0.Heads)) ≠ 0) <|
        if (Int.tmod x0.Width (IntKind.i64.wrap (2 * x0.Heads))) = 0 then
          (weight_in x0.Inner 1 256).bind fun r15 =>
          if r15 = true then
            (weight_in x0.Vocab 1 512).bind fun r18 =>
            if r18 = true then
              (weight_in x0.Places 1 256).bind fun r21 =>
              some r21
            else
              some false
          else
            some false
        else
          some false
      else
        some false
    else
      some false
  else
    some false

theorem weight_Right_any {x0 : S_api_Shape} {Fr : List HP} {w : World} {r : Bool} {K : Value → World → Prop}  (hc : Ctx w (Fr)) (hp : weight_Right x0 = some r)
    (k : ∀ w', Ctx w' (Fr) → K (.bool r) w') : Calls Tryz.prog 122 #[.agg (S_api_Shape.cz x0).toArray] w (Ret K) := by
 unfold weight_Right at hp; refine Center1 F122 M122 rfl rfl ?_; refine Wseq (Wreg ?_); refine rsE (Ctx.boxOp (cs := (S_api_Shape.cz x0)) (v := .agg (S_api_Shape.cz x0).toArray) hc rfl rfl) rfl ?_; clear hc; rintro _ w3 ⟨b1, rfl, hc⟩; refine au 1 rfl <| rn (qn (Wseq (Wreg ?_))); refine fq 0 U29 Z3 G3 hc 0 ?_; replace hp := bind_some hp; obtain ⟨r4, hr4, hp⟩ := hp; refine kz C134 ?_; refine weight_in_any hc hr4 ?_; clear hc; intro w5 hc; refine au 1 rfl ?_; cases hb6 : r4
 · replace hp := gneg hp (by rw [hb6]; exact Bool.false_ne_true); subst hb6; (iterate 3 refine r0 rfl ?_); refine au 2 rfl ?_; (iterate 3 refine r0 rfl ?_); refine au 2 rfl ?_; (iterate 7 refine r0 rfl ?_); refine au 2 rfl ?_; (iterate 3 refine r0 rfl ?_); refine au 2 rfl ?_; (iterate 3 refine r0 rfl ?_); refine au 2 rfl ?_; (iterate 3 refine r0 rfl ?_); refine au 2 rfl <| rn (qn (Wret ?_)); replace hc := hc.m [1]; obtain rfl := sj hp; exact fz R122 M122 (k _ hc)
 · replace hp := gpos hp hb6; subst hb6; refine fq 2 U29 Z3 G3 hc 0 ?_; replace hp := bind_some hp; obtain ⟨r7, hr7, hp⟩ := hp; refine kz C134 ?_; refine weight_in_any hc hr7 ?_; clear hc; intro w8 hc; refine au 2 rfl ?_; cases hb9 : r7
   · replace hp := gneg hp (by rw [hb9]; exact Bool.false_ne_true); subst hb9; (iterate 3 refine r0 rfl ?_); refine au 2 rfl ?_; (iterate 7 refine r0 rfl ?_); refine au 2 rfl ?_; (iterate 3 refine r0 rfl ?_); refine au 2 rfl ?_; (iterate 3 refine r0 rfl ?_); refine au 2 rfl ?_; (iterate 3 refine r0 rfl ?_); refine au 2 rfl <| rn (qn (Wret ?_)); replace hc := hc.m [1]; obtain rfl := sj hp; exact fz R122 M122 (k _ hc)
   · replace hp := gpos hp hb9; subst hb9; refine fq 1 U29 Z3 G3 hc 0 ?_; replace hp := bind_some hp; obtain ⟨r10, hr10, hp⟩ := hp; refine kz C134 ?_; refine weight_in_any hc hr10 ?_; clear hc; intro w11 hc; refine au 2 rfl ?_; cases hb12 : r10
     · replace hp := gneg hp (by rw [hb12]; exact Bool.false_ne_true); subst hb12; (iterate 7 refine r0 rfl ?_); refine au 2 rfl ?_; (iterate 3 refine r0 rfl ?_); refine au 2 rfl ?_; (iterate 3 refine r0 rfl ?_); refine au 2 rfl ?_; (iterate 3 refine r0 rfl ?_); refine au 2 rfl <| rn (qn (Wret ?_)); replace hc := hc.m [1]; obtain rfl := sj hp; exact fz R122 M122 (k _ hc)
     · replace hp := gpos hp hb12; subst hb12; refine fq 1 U29 Z3 G3 hc 0 ?_; refine fq 2 U29 Z3 G3 hc 0 ?_; refine au 1 rfl ?_; replace hp := chk_some hp; obtain ⟨hg13, hp⟩ := hp; refine sz (rm rfl rfl hg13) <| au 3 rfl ?_; cases hb14 : (decide ((Int.tmod x0.Width (IntKind.i64.wrap (2 * x0.Heads))) = 0))
       · replace hp := gneg hp (of_decide_eq_false hb14); (iterate 3 refine r0 rfl ?_); refine au 2 rfl ?_; (iterate 3 refine r0 rfl ?_); refine au 2 rfl ?_; (iterate 3 refine r0 rfl ?_); refine au 2 rfl <| rn (qn (Wret ?_)); replace hc := hc.m [1]; obtain rfl := sj hp; exact fz R122 M122 (k _ hc)
       · replace hp := gpos hp (of_decide_eq_true hb14); refine fq 3 U29 Z3 G3 hc 0 ?_; replace hp := bind_some hp; obtain ⟨r15, hr15, hp⟩ := hp; refine kz C134 ?_; refine weight_in_any hc hr15 ?_; clear hc; intro w16 hc; refine au 2 rfl ?_; cases hb17 : r15
         · replace hp := gneg hp (by rw [hb17]; exact Bool.false_ne_true); subst hb17; (iterate 3 refine r0 rfl ?_); refine au 2 rfl ?_; (iterate 3 refine r0 rfl ?_); refine au 2 rfl <| rn (qn (Wret ?_)); replace hc := hc.m [1]; obtain rfl := sj hp; exact fz R122 M122 (k _ hc)
         · replace hp := gpos hp hb17; subst hb17; refine fq 4 U29 Z3 G3 hc 0 ?_; replace hp := bind_some hp; obtain ⟨r18, hr18, hp⟩ := hp; refine kz C134 ?_; refine weight_in_any hc hr18 ?_; clear hc; intro w19 hc; refine au 2 rfl ?_; cases hb20 : r18
           · replace hp := gneg hp (by rw [hb20]; exact Bool.false_ne_true); subst hb20; (iterate 3 refine r0 rfl ?_); refine au 2 rfl <| rn (qn (Wret ?_)); replace hc := hc.m [1]; obtain rfl := sj hp; exact fz R122 M122 (k _ hc)
           · replace hp := gpos hp hb20; subst hb20; refine fq 5 U29 Z3 G3 hc 0 ?_; replace hp := bind_some hp; obtain ⟨r21, hr21, hp⟩ := hp; refine kz C134 ?_; refine weight_in_any hc hr21 ?_; clear hc; intro w22 hc; refine au 2 rfl <| rn (qn (Wret ?_)); replace hc := hc.m [1]; obtain rfl := sj hp; exact fz R122 M122 (k _ hc)

def slice_fits (x0 : S_api_Cut) : Option (Bool) :=
  if x0.Stages ≥ 1 then
    if x0.Stages ≤ 64 then
      if x0.Parts ≥ 1 then
        some (decide (x0.Parts ≤ 64))
      else
        some false
    else
      some false
  else
    some false

theorem slice_fits_any {x0 : S_api_Cut} {Fr : List HP} {w : World} {r : Bool} {K : Value → World → Prop}  (hc : Ctx w (Fr)) (hp : slice_fits x0 = some r)
    (k : ∀ w', Ctx w' (Fr) → K (.bool r) w') : Calls Tryz.prog 123 #[.agg #[.int .i64 x0.Stages, .int .i64 x0.Parts]] w (Ret K) := by
 unfold slice_fits at hp; refine Center1 F123 M123 rfl rfl ?_; refine Wseq (Wreg ?_); refine rsE (Ctx.boxOp (cs := [.int .i64 x0.Stages, .int .i64 x0.Parts]) (v := .agg #[.int .i64 x0.Stages, .int .i64 x0.Parts]) hc rfl rfl) rfl ?_; clear hc; rintro _ w3 ⟨b1, rfl, hc⟩; refine au 1 rfl <| rn (qn (Wseq (Wreg ?_))); refine fq 0 U37 Z3 G3 hc 0 ?_; refine au 2 rfl ?_; cases hb4 : (decide (x0.Stages ≥ 1))
 · replace hp := gneg hp (of_decide_eq_false hb4); (iterate 3 refine r0 rfl ?_); refine au 2 rfl ?_; (iterate 3 refine r0 rfl ?_); refine au 2 rfl ?_; (iterate 3 refine r0 rfl ?_); refine au 2 rfl <| rn (qn (Wret ?_)); replace hc := hc.m [1]; obtain rfl := sj hp; exact fz R123 M123 (k _ hc)
 · replace hp := gpos hp (of_decide_eq_true hb4); refine fq 0 U37 Z3 G3 hc 0 ?_; refine au 3 rfl ?_; cases hb5 : (decide (x0.Stages ≤ 64))
   · replace hp := gneg hp (of_decide_eq_false hb5); (iterate 3 refine r0 rfl ?_); refine au 2 rfl ?_; (iterate 3 refine r0 rfl ?_); refine au 2 rfl <| rn (qn (Wret ?_)); replace hc := hc.m [1]; obtain rfl := sj hp; exact fz R123 M123 (k _ hc)
   · replace hp := gpos hp (of_decide_eq_true hb5); refine fq 1 U37 Z3 G3 hc 0 ?_; refine au 3 rfl ?_; cases hb6 : (decide (x0.Parts ≥ 1))
     · replace hp := gneg hp (of_decide_eq_false hb6); (iterate 3 refine r0 rfl ?_); refine au 2 rfl <| rn (qn (Wret ?_)); replace hc := hc.m [1]; obtain rfl := sj hp; exact fz R123 M123 (k _ hc)
     · replace hp := gpos hp (of_decide_eq_true hb6); refine fq 1 U37 Z3 G3 hc 0 ?_; refine au 3 rfl <| rn (qn (Wret ?_)); replace hc := hc.m [1]; obtain rfl := sj hp; exact fz R123 M123 (k _ hc)

def slice_Right (x0 : S_api_Shape) (x1 : S_api_Cut) : Option (Bool) :=
  (weight_Right x0).bind fun r7 =>
  if r7 = true then
    (slice_fits x1).bind fun r10 =>
    if r10 = true then
      if x1.Stages ≤ x0.Layers then
        chk (x1.Parts ≠ 0) <|
        if (Int.tmod x0.Heads x1.Parts) = 0 then
          chk (x1.Parts ≠ 0) <|
          if (Int.tmod x0.Inner x1.Parts) = 0 then
            some (decide ((IntKind.i64.wrap (x1.Stages * x1.Parts)) ≤ 64))
          else
            some false
        else
          some false
      else
        some false
    else
      some false
  else
    some false

theorem slice_Right_any {x0 : S_api_Shape} {x1 : S_api_Cut} {Fr : List HP} {w : World} {r : Bool} {K : Value → World → Prop}  (hc : Ctx w (Fr)) (hp : slice_Right x0 x1 = some r)
    (k : ∀ w', Ctx w' (Fr) → K (.bool r) w') : Calls Tryz.prog 93 #[.agg (S_api_Shape.cz x0).toArray, .agg #[.int .i64 x1.Stages, .int .i64 x1.Parts]] w (Ret K) := by
 unfold slice_Right at hp; refine Center2 F93 M93 rfl rfl ?_; refine Wseq (Wreg ?_); refine rsE (Ctx.boxOp (cs := (S_api_Shape.cz x0)) (v := .agg (S_api_Shape.cz x0).toArray) hc rfl rfl) rfl ?_; clear hc; rintro _ w3 ⟨b1, rfl, hc⟩; refine rsE (Ctx.boxOp (cs := [.int .i64 x1.Stages, .int .i64 x1.Parts]) (v := .agg #[.int .i64 x1.Stages, .int .i64 x1.Parts]) hc rfl rfl) rfl ?_; clear hc; rintro _ w6 ⟨b4, rfl, hc⟩; refine au 1 rfl <| rn (qn (Wseq (Wreg ?_))); refine lg G29 Z29 hc 1 ?_; replace hp := bind_some hp; obtain ⟨r7, hr7, hp⟩ := hp; refine kz C122 ?_; refine weight_Right_any (x0 := x0) hc hr7 ?_; clear hc; intro w8 hc; refine au 1 rfl ?_; cases hb9 : r7
 · replace hp := gneg hp (by rw [hb9]; exact Bool.false_ne_true); subst hb9; (iterate 2 refine r0 rfl ?_); refine au 2 rfl ?_; (iterate 5 refine r0 rfl ?_); refine au 2 rfl ?_; (iterate 6 refine r0 rfl ?_); refine au 2 rfl ?_; (iterate 6 refine r0 rfl ?_); refine au 2 rfl ?_; (iterate 6 refine r0 rfl ?_); refine au 2 rfl <| rn (qn (Wret ?_)); replace hc := hc.m [3, 1]; obtain rfl := sj hp; exact fz R93 M93 (k _ hc)
 · replace hp := gpos hp hb9; subst hb9; refine lg G37 Z37 hc 0 ?_; replace hp := bind_some hp; obtain ⟨r10, hr10, hp⟩ := hp; refine kz C123 ?_; refine slice_fits_any (x0 := x1) hc hr10 ?_; clear hc; intro w11 hc; refine au 2 rfl ?_; cases hb12 : r10
   · replace hp := gneg hp (by rw [hb12]; exact Bool.false_ne_true); subst hb12; (iterate 5 refine r0 rfl ?_); refine au 2 rfl ?_; (iterate 6 refine r0 rfl ?_); refine au 2 rfl ?_; (iterate 6 refine r0 rfl ?_); refine au 2 rfl ?_; (iterate 6 refine r0 rfl ?_); refine au 2 rfl <| rn (qn (Wret ?_)); replace hc := hc.m [3, 1]; obtain rfl := sj hp; exact fz R93 M93 (k _ hc)
   · replace hp := gpos hp hb12; subst hb12; refine fq 0 U37 Z3 G3 hc 0 ?_; refine fq 0 U29 Z3 G3 hc 1 ?_; refine au 3 rfl ?_; cases hb13 : (decide (x1.Stages ≤ x0.Layers))
     · replace hp := gneg hp (of_decide_eq_false hb13); (iterate 6 refine r0 rfl ?_); refine au 2 rfl ?_; (iterate 6 refine r0 rfl ?_); refine au 2 rfl ?_; (iterate 6 refine r0 rfl ?_); refine au 2 rfl <| rn (qn (Wret ?_)); replace hc := hc.m [3, 1]; obtain rfl := sj hp; exact fz R93 M93 (k _ hc)
     · replace hp := gpos hp (of_decide_eq_true hb13); refine fq 2 U29 Z3 G3 hc 1 ?_; refine fq 1 U37 Z3 G3 hc 0 ?_; replace hp := chk_some hp; obtain ⟨hg14, hp⟩ := hp; refine sz (rm rfl rfl hg14) <| au 3 rfl ?_; cases hb15 : (decide ((Int.tmod x0.Heads x1.Parts) = 0))
       · replace hp := gneg hp (of_decide_eq_false hb15); (iterate 6 refine r0 rfl ?_); refine au 2 rfl ?_; (iterate 6 refine r0 rfl ?_); refine au 2 rfl <| rn (qn (Wret ?_)); replace hc := hc.m [3, 1]; obtain rfl := sj hp; exact fz R93 M93 (k _ hc)
       · replace hp := gpos hp (of_decide_eq_true hb15); refine fq 3 U29 Z3 G3 hc 1 ?_; refine fq 1 U37 Z3 G3 hc 0 ?_; replace hp := chk_some hp; obtain ⟨hg16, hp⟩ := hp; refine sz (rm rfl rfl hg16) <| au 3 rfl ?_; cases hb17 : (decide ((Int.tmod x0.Inner x1.Parts) = 0))
         · replace hp := gneg hp (of_decide_eq_false hb17); (iterate 6 refine r0 rfl ?_); refine au 2 rfl <| rn (qn (Wret ?_)); replace hc := hc.m [3, 1]; obtain rfl := sj hp; exact fz R93 M93 (k _ hc)
         · replace hp := gpos hp (of_decide_eq_true hb17); refine fq 0 U37 Z3 G3 hc 0 ?_; refine fq 1 U37 Z3 G3 hc 0 ?_; refine au 4 rfl <| rn (qn (Wret ?_)); replace hc := hc.m [3, 1]; obtain rfl := sj hp; exact fz R93 M93 (k _ hc)

theorem bd_89_ {ρ : Operand → Value} {w : World} {dst : Option Nat} {ty : TypeId} {pos : String} {after : Array Edge} {g : Option (Nat × Bool)}    :
    (execOp ρ ⟨dst, .build 89 #[], ty, pos, after, g⟩).run Tryz.prog w = .ok (.value (.agg #[(.int .i64 0), (.int .i64 0)])) w := by
  simp [execOp, Instr.build, Instr.fill, Tryz.zeroValue89, Tryz.runUnderlying89, Tryz.sizeOf3, Value.cells]

theorem bd_89_0_1 {ρ : Operand → Value} {w : World} {dst : Option Nat} {ty : TypeId} {pos : String} {after : Array Edge} {g : Option (Nat × Bool)} {x0 x1 : Operand} {k0 : IntKind} {a0 : Int} {k1 : IntKind} {a1 : Int} (h0 : ρ x0 = (.int k0 a0)) (h1 : ρ x1 = (.int k1 a1)) :
    (execOp ρ ⟨dst, .build 89 #[(0, x0), (1, x1)], ty, pos, after, g⟩).run Tryz.prog w = .ok (.value (.agg #[(.int k0 a0), (.int k1 a1)])) w := by
  simp [execOp, Instr.build, Instr.fill, Tryz.zeroValue89, Tryz.runUnderlying89, Tryz.sizeOf3, h0, h1, Value.cells]

def slice_span (x0 : Bool) (x1 : Int) (x2 : Int) (x3 : Int) : Option (A2_i64 × Int) :=
  if x0 = true then
    if x1 < 0 then
      some ((⟨0, 0⟩ : A2_i64), 2)
    else
      if x1 ≥ x3 then
        some ((⟨0, 0⟩ : A2_i64), 2)
      else
        chk (x3 ≠ 0) <|
        chk (x3 ≠ 0) <|
        some ((⟨(IntKind.i64.wrap (Int.tdiv (IntKind.i64.wrap (x1 * x2)) x3)), (IntKind.i64.wrap (Int.tdiv (IntKind.i64.wrap ((IntKind.i64.wrap (x1 + 1)) * x2)) x3))⟩ : A2_i64), 0)
  else
    some ((⟨0, 0⟩ : A2_i64), 100)

theorem slice_span_any {x0 : Bool} {x1 x2 x3 : Int} {Fr : List HP} {w : World} {r : A2_i64 × Int} {K : Value → World → Prop}  (hc : Ctx w (Fr)) (hp : slice_span x0 x1 x2 x3 = some r)
    (k : ∀ w', Ctx w' (Fr) → K (.tuple #[.agg #[.int .i64 r.1.c0, .int .i64 r.1.c1], .int .i64 r.2]) w') : Calls Tryz.prog 92 #[.bool x0, .int .i64 x1, .int .i64 x2, .int .i64 x3] w (Ret K) := by
 unfold slice_span at hp; refine Center4 F92 M92 rfl rfl ?_; refine Wseq (Wreg ?_); refine rsE (Ctx.allocOp (cs := [.int .i64 0, .int .i64 0]) hc V89 rfl) rfl ?_; clear hc; rintro _ w3 ⟨b1, rfl, hc⟩; refine au 1 rfl <| rn (qn (Wseq (Wblk (Wseq (Wreg ?_))))); refine au 1 rfl ?_; cases hb4 : x0
 · replace hp := gneg hp (by rw [hb4]; exact Bool.false_ne_true); subst hb4; refine au 2 rfl <| rn (qn (Wct rfl (Wseq (Wreg ?_)))); refine sz (v := .agg #[.int .i64 0, .int .i64 0]) (bd_89_ ) <| pa hc 0 Z89 ?_; clear hc; rintro w5 hc; refine au 1 rfl <| rn (qn (Wret (br (qr ?_)))); have hres := Ctx.cells hc (k := 0) rfl rfl 0 (vs := [.int .i64 0, .int .i64 0]) rfl; replace hc := hc.m [1]; obtain rfl := sj hp; refine f2c (cs := [.int .i64 0, .int .i64 0]) (u := .int .i64 100) R92 M92 rfl G89 Z89 rfl hres rfl ?_; exact ⟨_, rfl, k _ hc⟩
 · replace hp := gpos hp hb4; subst hb4; refine au 2 rfl <| rn (qn (Wcf rfl (Wseq (Wreg ?_)))); refine au 3 rfl ?_; cases hb6 : (decide (x1 < 0))
   · replace hp := gneg hp (of_decide_eq_false hb6); refine au 5 rfl <| rn (qn ?_); refine Wif hp (fun _ h => ?_) fun _ h => ?_
     · replace hp := h; clear h; refine Wskip (bn (qn (Wseq ?_))); replace hc := hc.drew; refine Wdrw (fun j w' => True) [0, 0, 3, 0, 15, 0, 32, 0, 224, 0, 992, 2047, 4095, 8191] 0 0 rfl (by kernel_rfl) (fun _ _ => trivial) ?_; generalize hw : World.drew w3 = w8 at *; clear hw; refine ad_ 4 rfl ?_; replace hp := chk_some hp; obtain ⟨hg9, hp⟩ := hp; refine ds rfl (fun w' hF => quw rfl rfl hg9) rfl <| ad_ 5 rfl ?_; replace hp := chk_some hp; obtain ⟨hg10, hp⟩ := hp; refine ds rfl (fun w' hF => quw rfl rfl hg10) rfl <| ds (v := .agg #[.int .i64 (IntKind.i64.wrap (Int.tdiv (IntKind.i64.wrap (x1 * x2)) x3)), .int .i64 (IntKind.i64.wrap (Int.tdiv (IntKind.i64.wrap ((IntKind.i64.wrap (x1 + 1)) * x2)) x3))]) rfl (fun w' hF => bd_89_0_1 rfl rfl) rfl ?_; refine pad hc 0 Z89 ?_; clear hc; rintro w11 hc; refine ⟨fun j hj hb => trivial, ?_⟩; refine ad_ 1 rfl <| dn (qn (Wret ?_)); have hres := Ctx.cells hc (k := 0) rfl rfl 0 (vs := [.int .i64 (IntKind.i64.wrap (Int.tdiv (IntKind.i64.wrap (x1 * x2)) x3)), .int .i64 (IntKind.i64.wrap (Int.tdiv (IntKind.i64.wrap ((IntKind.i64.wrap (x1 + 1)) * x2)) x3))]) rfl; replace hc := hc.m [1]; obtain rfl := sj hp; refine f2c (cs := [.int .i64 (IntKind.i64.wrap (Int.tdiv (IntKind.i64.wrap (x1 * x2)) x3)), .int .i64 (IntKind.i64.wrap (Int.tdiv (IntKind.i64.wrap ((IntKind.i64.wrap (x1 + 1)) * x2)) x3))]) (u := .int .i64 0) R92 M92 rfl G89 Z89 rfl hres rfl ?_; exact ⟨_, rfl, k _ hc⟩
     · replace hp := h; clear h; refine Wseq (Wreg ?_); refine sz (v := .agg #[.int .i64 0, .int .i64 0]) (bd_89_ ) <| pa hc 0 Z89 ?_; clear hc; rintro w12 hc; refine au 1 rfl <| rn (qn (Wret (br (qr ?_)))); have hres := Ctx.cells hc (k := 0) rfl rfl 0 (vs := [.int .i64 0, .int .i64 0]) rfl; replace hc := hc.m [1]; obtain rfl := sj hp; refine f2c (cs := [.int .i64 0, .int .i64 0]) (u := .int .i64 2) R92 M92 rfl G89 Z89 rfl hres rfl ?_; exact ⟨_, rfl, k _ hc⟩
   · replace hp := gpos hp (of_decide_eq_true hb6); (iterate 3 refine r0 rfl ?_); refine au 2 rfl <| rn (qn (Wct rfl (Wseq (Wreg ?_)))); refine sz (v := .agg #[.int .i64 0, .int .i64 0]) (bd_89_ ) <| pa hc 0 Z89 ?_; clear hc; rintro w13 hc; refine au 1 rfl <| rn (qn (Wret (br (qr ?_)))); have hres := Ctx.cells hc (k := 0) rfl rfl 0 (vs := [.int .i64 0, .int .i64 0]) rfl; replace hc := hc.m [1]; obtain rfl := sj hp; refine f2c (cs := [.int .i64 0, .int .i64 0]) (u := .int .i64 2) R92 M92 rfl G89 Z89 rfl hres rfl ?_; exact ⟨_, rfl, k _ hc⟩

def slice_Layers (x0 : S_api_Shape) (x1 : S_api_Cut) (x2 : Int) : Option (A2_i64 × Int) :=
  (slice_Right x0 x1).bind fun r11 =>
  (slice_span r11 x2 x0.Layers x1.Stages).bind fun r13 =>
  some ((⟨r13.1.c0, r13.1.c1⟩ : A2_i64), r13.2)

theorem slice_Layers_any {x0 : S_api_Shape} {x1 : S_api_Cut} {x2 : Int} {Fr : List HP} {w : World} {r : A2_i64 × Int} {K : Value → World → Prop}  (hc : Ctx w (Fr)) (hp : slice_Layers x0 x1 x2 = some r)
    (k : ∀ w', Ctx w' (Fr) → K (.tuple #[.agg #[.int .i64 r.1.c0, .int .i64 r.1.c1], .int .i64 r.2]) w') : Calls Tryz.prog 66 #[.agg (S_api_Shape.cz x0).toArray, .agg #[.int .i64 x1.Stages, .int .i64 x1.Parts], .int .i64 x2] w (Ret K) := by
 unfold slice_Layers at hp; refine Center3 F66 M66 rfl rfl ?_; refine Wseq (Wreg ?_); refine rsE (Ctx.boxOp (cs := (S_api_Shape.cz x0)) (v := .agg (S_api_Shape.cz x0).toArray) hc rfl rfl) rfl ?_; clear hc; rintro _ w3 ⟨b1, rfl, hc⟩; refine rsE (Ctx.boxOp (cs := [.int .i64 x1.Stages, .int .i64 x1.Parts]) (v := .agg #[.int .i64 x1.Stages, .int .i64 x1.Parts]) hc rfl rfl) rfl ?_; clear hc; rintro _ w6 ⟨b4, rfl, hc⟩; refine rsE (Ctx.allocOp (cs := [.int .i64 0, .int .i64 0]) hc V89 rfl) rfl ?_; clear hc; rintro _ w9 ⟨b7, rfl, hc⟩; refine au 1 rfl <| rn (qn (Wseq ?_)); replace hc := hc.drew; refine Wdrw (fun j w' => (j = 5 → w'.cell? ⟨b1, 0, none⟩ = some (.int .i64 x0.Layers)) ∧ (j = 7 → w'.cell? ⟨b4, 0, none⟩ = some (.int .i64 x1.Stages)) ∧ True) [0, 0, 3, 0, 0, 16, 0, 64, 255, 511, 511, 2047, 4095] 0 3 rfl (by kernel_rfl) (fun j hj => ⟨fun _ => hc.cell (k := 2) rfl rfl rfl, fun _ => hc.cell (k := 1) rfl rfl rfl, trivial⟩) ?_; generalize hw : World.drew w9 = w10 at *; clear hw; refine dx (v := .agg (S_api_Shape.cz x0).toArray) rfl (ldg rfl G29 Z29 rfl (Ctx.cells hc (k := 2) rfl rfl 0 (vs := (S_api_Shape.cz x0)) rfl)) rfl rfl <| dx (v := .agg #[.int .i64 x1.Stages, .int .i64 x1.Parts]) rfl (ldg rfl G37 Z37 rfl (Ctx.cells hc (k := 1) rfl rfl 0 (vs := [.int .i64 x1.Stages, .int .i64 x1.Parts]) rfl)) rfl rfl ?_; obtain ⟨r11, hr11, hp⟩ := bind_some hp; refine dc (cl C93 rfl rfl) rfl rfl ?_; refine slice_Right_any (x0 := x0) (x1 := x1) hc hr11 ?_; clear hc; intro w12 hc; refine ⟨fun j hj hb => ⟨fun _ => hc.cell (k := 2) rfl rfl rfl, fun _ => hc.cell (k := 1) rfl rfl rfl, trivial⟩, ?_⟩; refine ad_ 1 rfl <| ds (v := pt b1 0) rfl (fun w' hF => fax 0 rfl U29 rfl Z3 rfl rfl rfl) rfl <| ds rfl (fun w' hF => ld rfl G3 ((hF.1 rfl))) rfl <| ds (v := pt b4 0) rfl (fun w' hF => fax 0 rfl U37 rfl Z3 rfl rfl rfl) rfl <| ds rfl (fun w' hF => ld rfl G3 ((hF.2.1 rfl))) rfl ?_; obtain ⟨r13, hr13, hp⟩ := bind_some hp; refine dc (cl C92 rfl rfl) rfl rfl ?_; refine slice_span_any hc hr13 ?_; clear hc; intro w14 hc; refine ⟨fun j hj hb => ⟨fun e => nja hj e, fun e => nja hj e, trivial⟩, ?_⟩; refine ad_ 2 rfl ?_; refine pad hc 0 Z89 ?_; clear hc; rintro w15 hc; refine ⟨fun j hj hb => ⟨fun e => nja hj e, fun e => nja hj e, trivial⟩, ?_⟩; refine ad_ 1 rfl <| dn (qn (Wret ?_)); have hres := Ctx.cells hc (k := 0) rfl rfl 0 (vs := [.int .i64 r13.1.c0, .int .i64 r13.1.c1]) rfl; replace hc := hc.m [5, 3, 1]; obtain rfl := sj hp; refine f2c (cs := [.int .i64 r13.1.c0, .int .i64 r13.1.c1]) (u := .int .i64 r13.2) R66 M66 rfl G89 Z89 rfl hres rfl ?_; exact ⟨_, rfl, k _ hc⟩

def slice_Heads (x0 : S_api_Shape) (x1 : S_api_Cut) (x2 : Int) : Option (A2_i64 × Int) :=
  (slice_Right x0 x1).bind fun r11 =>
  (slice_span r11 x2 x0.Heads x1.Parts).bind fun r13 =>
  some ((⟨r13.1.c0, r13.1.c1⟩ : A2_i64), r13.2)

theorem slice_Heads_any {x0 : S_api_Shape} {x1 : S_api_Cut} {x2 : Int} {Fr : List HP} {w : World} {r : A2_i64 × Int} {K : Value → World → Prop}  (hc : Ctx w (Fr)) (hp : slice_Heads x0 x1 x2 = some r)
    (k : ∀ w', Ctx w' (Fr) → K (.tuple #[.agg #[.int .i64 r.1.c0, .int .i64 r.1.c1], .int .i64 r.2]) w') : Calls Tryz.prog 62 #[.agg (S_api_Shape.cz x0).toArray, .agg #[.int .i64 x1.Stages, .int .i64 x1.Parts], .int .i64 x2] w (Ret K) := by
 unfold slice_Heads at hp; refine Center3 F62 M62 rfl rfl ?_; refine Wseq (Wreg ?_); refine rsE (Ctx.boxOp (cs := (S_api_Shape.cz x0)) (v := .agg (S_api_Shape.cz x0).toArray) hc rfl rfl) rfl ?_; clear hc; rintro _ w3 ⟨b1, rfl, hc⟩; refine rsE (Ctx.boxOp (cs := [.int .i64 x1.Stages, .int .i64 x1.Parts]) (v := .agg #[.int .i64 x1.Stages, .int .i64 x1.Parts]) hc rfl rfl) rfl ?_; clear hc; rintro _ w6 ⟨b4, rfl, hc⟩; refine rsE (Ctx.allocOp (cs := [.int .i64 0, .int .i64 0]) hc V89 rfl) rfl ?_; clear hc; rintro _ w9 ⟨b7, rfl, hc⟩; refine au 1 rfl <| rn (qn (Wseq ?_)); replace hc := hc.drew; refine Wdrw (fun j w' => (j = 5 → w'.cell? ⟨b1, 2, none⟩ = some (.int .i64 x0.Heads)) ∧ (j = 7 → w'.cell? ⟨b4, 1, none⟩ = some (.int .i64 x1.Parts)) ∧ True) [0, 0, 3, 0, 0, 16, 0, 64, 255, 511, 511, 2047, 4095] 0 3 rfl (by kernel_rfl) (fun j hj => ⟨fun _ => hc.cell (k := 2) rfl rfl rfl, fun _ => hc.cell (k := 1) rfl rfl rfl, trivial⟩) ?_; generalize hw : World.drew w9 = w10 at *; clear hw; refine dx (v := .agg (S_api_Shape.cz x0).toArray) rfl (ldg rfl G29 Z29 rfl (Ctx.cells hc (k := 2) rfl rfl 0 (vs := (S_api_Shape.cz x0)) rfl)) rfl rfl <| dx (v := .agg #[.int .i64 x1.Stages, .int .i64 x1.Parts]) rfl (ldg rfl G37 Z37 rfl (Ctx.cells hc (k := 1) rfl rfl 0 (vs := [.int .i64 x1.Stages, .int .i64 x1.Parts]) rfl)) rfl rfl ?_; obtain ⟨r11, hr11, hp⟩ := bind_some hp; refine dc (cl C93 rfl rfl) rfl rfl ?_; refine slice_Right_any (x0 := x0) (x1 := x1) hc hr11 ?_; clear hc; intro w12 hc; refine ⟨fun j hj hb => ⟨fun _ => hc.cell (k := 2) rfl rfl rfl, fun _ => hc.cell (k := 1) rfl rfl rfl, trivial⟩, ?_⟩; refine ad_ 1 rfl <| ds (v := pt b1 2) rfl (fun w' hF => fax 2 rfl U29 rfl Z3 rfl rfl rfl) rfl <| ds rfl (fun w' hF => ld rfl G3 ((hF.1 rfl))) rfl <| ds (v := pt b4 1) rfl (fun w' hF => fax 1 rfl U37 rfl Z3 rfl rfl rfl) rfl <| ds rfl (fun w' hF => ld rfl G3 ((hF.2.1 rfl))) rfl ?_; obtain ⟨r13, hr13, hp⟩ := bind_some hp; refine dc (cl C92 rfl rfl) rfl rfl ?_; refine slice_span_any hc hr13 ?_; clear hc; intro w14 hc; refine ⟨fun j hj hb => ⟨fun e => nja hj e, fun e => nja hj e, trivial⟩, ?_⟩; refine ad_ 2 rfl ?_; refine pad hc 0 Z89 ?_; clear hc; rintro w15 hc; refine ⟨fun j hj hb => ⟨fun e => nja hj e, fun e => nja hj e, trivial⟩, ?_⟩; refine ad_ 1 rfl <| dn (qn (Wret ?_)); have hres := Ctx.cells hc (k := 0) rfl rfl 0 (vs := [.int .i64 r13.1.c0, .int .i64 r13.1.c1]) rfl; replace hc := hc.m [5, 3, 1]; obtain rfl := sj hp; refine f2c (cs := [.int .i64 r13.1.c0, .int .i64 r13.1.c1]) (u := .int .i64 r13.2) R62 M62 rfl G89 Z89 rfl hres rfl ?_; exact ⟨_, rfl, k _ hc⟩

def slice_Inner (x0 : S_api_Shape) (x1 : S_api_Cut) (x2 : Int) : Option (A2_i64 × Int) :=
  (slice_Right x0 x1).bind fun r11 =>
  (slice_span r11 x2 x0.Inner x1.Parts).bind fun r13 =>
  some ((⟨r13.1.c0, r13.1.c1⟩ : A2_i64), r13.2)

theorem slice_Inner_any {x0 : S_api_Shape} {x1 : S_api_Cut} {x2 : Int} {Fr : List HP} {w : World} {r : A2_i64 × Int} {K : Value → World → Prop}  (hc : Ctx w (Fr)) (hp : slice_Inner x0 x1 x2 = some r)
    (k : ∀ w', Ctx w' (Fr) → K (.tuple #[.agg #[.int .i64 r.1.c0, .int .i64 r.1.c1], .int .i64 r.2]) w') : Calls Tryz.prog 131 #[.agg (S_api_Shape.cz x0).toArray, .agg #[.int .i64 x1.Stages, .int .i64 x1.Parts], .int .i64 x2] w (Ret K) := by
 unfold slice_Inner at hp; refine Center3 F131 M131 rfl rfl ?_; refine Wseq (Wreg ?_); refine rsE (Ctx.boxOp (cs := (S_api_Shape.cz x0)) (v := .agg (S_api_Shape.cz x0).toArray) hc rfl rfl) rfl ?_; clear hc; rintro _ w3 ⟨b1, rfl, hc⟩; refine rsE (Ctx.boxOp (cs := [.int .i64 x1.Stages, .int .i64 x1.Parts]) (v := .agg #[.int .i64 x1.Stages, .int .i64 x1.Parts]) hc rfl rfl) rfl ?_; clear hc; rintro _ w6 ⟨b4, rfl, hc⟩; refine rsE (Ctx.allocOp (cs := [.int .i64 0, .int .i64 0]) hc V89 rfl) rfl ?_; clear hc; rintro _ w9 ⟨b7, rfl, hc⟩; refine au 1 rfl <| rn (qn (Wseq ?_)); replace hc := hc.drew; refine Wdrw (fun j w' => (j = 5 → w'.cell? ⟨b1, 3, none⟩ = some (.int .i64 x0.Inner)) ∧ (j = 7 → w'.cell? ⟨b4, 1, none⟩ = some (.int .i64 x1.Parts)) ∧ True) [0, 0, 3, 0, 0, 16, 0, 64, 255, 511, 511, 2047, 4095] 0 3 rfl (by kernel_rfl) (fun j hj => ⟨fun _ => hc.cell (k := 2) rfl rfl rfl, fun _ => hc.cell (k := 1) rfl rfl rfl, trivial⟩) ?_; generalize hw : World.drew w9 = w10 at *; clear hw; refine dx (v := .agg (S_api_Shape.cz x0).toArray) rfl (ldg rfl G29 Z29 rfl (Ctx.cells hc (k := 2) rfl rfl 0 (vs := (S_api_Shape.cz x0)) rfl)) rfl rfl <| dx (v := .agg #[.int .i64 x1.Stages, .int .i64 x1.Parts]) rfl (ldg rfl G37 Z37 rfl (Ctx.cells hc (k := 1) rfl rfl 0 (vs := [.int .i64 x1.Stages, .int .i64 x1.Parts]) rfl)) rfl rfl ?_; obtain ⟨r11, hr11, hp⟩ := bind_some hp; refine dc (cl C93 rfl rfl) rfl rfl ?_; refine slice_Right_any (x0 := x0) (x1 := x1) hc hr11 ?_; clear hc; intro w12 hc; refine ⟨fun j hj hb => ⟨fun _ => hc.cell (k := 2) rfl rfl rfl, fun _ => hc.cell (k := 1) rfl rfl rfl, trivial⟩, ?_⟩; refine ad_ 1 rfl <| ds (v := pt b1 3) rfl (fun w' hF => fax 3 rfl U29 rfl Z3 rfl rfl rfl) rfl <| ds rfl (fun w' hF => ld rfl G3 ((hF.1 rfl))) rfl <| ds (v := pt b4 1) rfl (fun w' hF => fax 1 rfl U37 rfl Z3 rfl rfl rfl) rfl <| ds rfl (fun w' hF => ld rfl G3 ((hF.2.1 rfl))) rfl ?_; obtain ⟨r13, hr13, hp⟩ := bind_some hp; refine dc (cl C92 rfl rfl) rfl rfl ?_; refine slice_span_any hc hr13 ?_; clear hc; intro w14 hc; refine ⟨fun j hj hb => ⟨fun e => nja hj e, fun e => nja hj e, trivial⟩, ?_⟩; refine ad_ 2 rfl ?_; refine pad hc 0 Z89 ?_; clear hc; rintro w15 hc; refine ⟨fun j hj hb => ⟨fun e => nja hj e, fun e => nja hj e, trivial⟩, ?_⟩; refine ad_ 1 rfl <| dn (qn (Wret ?_)); have hres := Ctx.cells hc (k := 0) rfl rfl 0 (vs := [.int .i64 r13.1.c0, .int .i64 r13.1.c1]) rfl; replace hc := hc.m [5, 3, 1]; obtain rfl := sj hp; refine f2c (cs := [.int .i64 r13.1.c0, .int .i64 r13.1.c1]) (u := .int .i64 r13.2) R131 M131 rfl G89 Z89 rfl hres rfl ?_; exact ⟨_, rfl, k _ hc⟩

theorem bd_196_ {ρ : Operand → Value} {w : World} {dst : Option Nat} {ty : TypeId} {pos : String} {after : Array Edge} {g : Option (Nat × Bool)}    :
    (execOp ρ ⟨dst, .build 196 #[], ty, pos, after, g⟩).run Tryz.prog w = .ok (.value (.agg #[(.int .i64 0), (.int .i64 0), (.int .i64 0), (.int .i64 0), (.int .i64 0), (.int .i64 0)])) w := by
  simp [execOp, Instr.build, Instr.fill, Tryz.zeroValue196, Tryz.runUnderlying196, Tryz.sizeOf89, Value.cells]

theorem bd_196_0_1_2 {ρ : Operand → Value} {w : World} {dst : Option Nat} {ty : TypeId} {pos : String} {after : Array Edge} {g : Option (Nat × Bool)} {x0 x1 x2 : Operand} {c0_0 c0_1 : Value} {c1_0 c1_1 : Value} {c2_0 c2_1 : Value} (h0 : ρ x0 = .agg #[c0_0, c0_1]) (h1 : ρ x1 = .agg #[c1_0, c1_1]) (h2 : ρ x2 = .agg #[c2_0, c2_1]) :
    (execOp ρ ⟨dst, .build 196 #[(0, x0), (1, x1), (2, x2)], ty, pos, after, g⟩).run Tryz.prog w = .ok (.value (.agg #[c0_0, c0_1, c1_0, c1_1, c2_0, c2_1])) w := by
  simp [execOp, Instr.build, Instr.fill, Tryz.zeroValue196, Tryz.runUnderlying196, Tryz.sizeOf89, h0, h1, h2, Value.cells]

def part_of (x0 : S_api_Shape) (x1 : S_api_Cut) (x2 : Int) (x3 : Int) : Option (S_part_spans × Int) :=
  (slice_Layers x0 x1 x2).bind fun r10 =>
  if r10.2 ≠ 0 then
    some ((⟨(⟨0, 0⟩ : A2_i64), (⟨0, 0⟩ : A2_i64), (⟨0, 0⟩ : A2_i64)⟩ : S_part_spans), r10.2)
  else
    (slice_Heads x0 x1 x3).bind fun r17 =>
    if r17.2 ≠ 0 then
      some ((⟨(⟨0, 0⟩ : A2_i64), (⟨0, 0⟩ : A2_i64), (⟨0, 0⟩ : A2_i64)⟩ : S_part_spans), r17.2)
    else
      (slice_Inner x0 x1 x3).bind fun r24 =>
      chk (x0.Heads ≠ 0) <|
      (some (IntKind.i64.wrap (Int.tdiv x0.Width x0.Heads))).bind fun e31 =>
      some ((⟨(⟨r10.1.c0, r10.1.c1⟩ : A2_i64), (⟨(IntKind.i64.wrap (r17.1.c0 * e31)), (IntKind.i64.wrap (r17.1.c1 * e31))⟩ : A2_i64), (⟨r24.1.c0, r24.1.c1⟩ : A2_i64)⟩ : S_part_spans), 0)

theorem part_of_any {x0 : S_api_Shape} {x1 : S_api_Cut} {x2 x3 : Int} {Fr : List HP} {w : World} {r : S_part_spans × Int} {K : Value → World → Prop}  (hc : Ctx w (Fr)) (hp : part_of x0 x1 x2 x3 = some r)
    (k : ∀ w', Ctx w' (Fr) → K (.tuple #[.agg (S_part_spans.cz r.1).toArray, .int .i64 r.2]) w') : Calls Tryz.prog 117 #[.agg (S_api_Shape.cz x0).toArray, .agg #[.int .i64 x1.Stages, .int .i64 x1.Parts], .int .i64 x2, .int .i64 x3] w (Ret K) := by
 unfold part_of at hp; refine Center4 F117 M117 rfl rfl ?_; refine Wseq (Wreg ?_); refine rsE (Ctx.boxOp (cs := (S_api_Shape.cz x0)) (v := .agg (S_api_Shape.cz x0).toArray) hc rfl rfl) rfl ?_; clear hc; rintro _ w3 ⟨b1, rfl, hc⟩; refine rsE (Ctx.boxOp (cs := [.int .i64 x1.Stages, .int .i64 x1.Parts]) (v := .agg #[.int .i64 x1.Stages, .int .i64 x1.Parts]) hc rfl rfl) rfl ?_; clear hc; rintro _ w6 ⟨b4, rfl, hc⟩; refine rsE (Ctx.allocOp (cs := [.int .i64 0, .int .i64 0, .int .i64 0, .int .i64 0, .int .i64 0, .int .i64 0]) hc V196 rfl) rfl ?_; clear hc; rintro _ w9 ⟨b7, rfl, hc⟩; refine au 1 rfl <| rn (qn (Wseq (Wreg ?_))); refine lg G29 Z29 hc 2 ?_; refine lg G37 Z37 hc 1 ?_; refine au 1 rfl ?_; obtain ⟨r10, hr10, hp⟩ := bind_some hp; refine kz C66 ?_; refine slice_Layers_any (x0 := x0) (x1 := x1) hc hr10 ?_; clear hc; intro w11 hc; refine au 3 rfl ?_; refine rsE (Ctx.allocOp (cs := [.int .i64 0, .int .i64 0]) hc V89 rfl) rfl ?_; clear hc; rintro _ w14 ⟨b12, rfl, hc⟩; refine pa hc 0 Z89 ?_; clear hc; rintro w15 hc; refine au 1 rfl <| rn (qn (Wseq (Wseq (Wreg ?_)))); refine au 2 rfl <| rn (qn ?_); refine Wif hp (fun _ hp => ?_) fun _ hp => ?_
 · refine Wskip (qn (Wseq (Wreg ?_))); refine lg G29 Z29 hc 3 ?_; refine lg G37 Z37 hc 2 ?_; refine au 1 rfl ?_; obtain ⟨r17, hr17, hp⟩ := bind_some hp; refine kz C62 ?_; refine slice_Heads_any (x0 := x0) (x1 := x1) hc hr17 ?_; clear hc; intro w18 hc; refine au 3 rfl ?_; refine rsE (Ctx.allocOp (cs := [.int .i64 0, .int .i64 0]) hc V89 rfl) rfl ?_; clear hc; rintro _ w21 ⟨b19, rfl, hc⟩; refine pa hc 0 Z89 ?_; clear hc; rintro w22 hc; refine au 1 rfl <| rn (qn (Wseq (Wseq (Wreg ?_)))); refine au 2 rfl <| rn (qn ?_); refine Wif hp (fun _ hp => ?_) fun _ hp => ?_
   · refine Wskip (qn (Wseq (Wreg ?_))); refine lg G29 Z29 hc 4 ?_; refine lg G37 Z37 hc 3 ?_; refine au 1 rfl ?_; obtain ⟨r24, hr24, hp⟩ := bind_some hp; refine kz C131 ?_; refine slice_Inner_any (x0 := x0) (x1 := x1) hc hr24 ?_; clear hc; intro w25 hc; refine au 3 rfl ?_; refine rsE (Ctx.allocOp (cs := [.int .i64 0, .int .i64 0]) hc V89 rfl) rfl ?_; clear hc; rintro _ w28 ⟨b26, rfl, hc⟩; refine pa hc 0 Z89 ?_; clear hc; rintro w29 hc; refine au 1 rfl <| rn (qn (Wseq (Wreg ?_))); refine fq 1 U29 Z3 G3 hc 5 ?_; refine fq 2 U29 Z3 G3 hc 5 ?_; obtain ⟨hg30, hp⟩ := chk_some hp; refine sz (quw rfl rfl hg30) ?_; obtain ⟨e31, he31, hp⟩ := bind_some hp; injection he31 with he31; refine sz (v := .int .i64 e31) (av (v := .int .i64 e31) (by rw [← he31]; rfl)) <| rn (qn (Wseq (Wreg ?_))); refine lg G89 Z89 hc 2 ?_; refine sz (v := pt b19 0) (ixa (i := 0) rfl rfl U89 Z3 (by decide) (by decide) (by decide) (by decide) rfl) <| sz (ld rfl G3 (Ctx.cell hc (k := 1) rfl rfl rfl)) <| au 2 rfl <| sz (v := pt b19 1) (ixa (i := 1) rfl rfl U89 Z3 (by decide) (by decide) (by decide) (by decide) rfl) <| sz (ld rfl G3 (Ctx.cell hc (k := 1) rfl rfl rfl)) <| au 2 rfl <| sz (v := .agg #[.int .i64 (IntKind.i64.wrap (r17.1.c0 * e31)), .int .i64 (IntKind.i64.wrap (r17.1.c1 * e31))]) (bd_89_0_1 rfl rfl) <| lg G89 Z89 hc 0 ?_; refine sz (v := .agg #[.int .i64 r10.1.c0, .int .i64 r10.1.c1, .int .i64 (IntKind.i64.wrap (r17.1.c0 * e31)), .int .i64 (IntKind.i64.wrap (r17.1.c1 * e31)), .int .i64 r24.1.c0, .int .i64 r24.1.c1]) (bd_196_0_1_2 rfl rfl rfl) <| pa hc 3 Z196 ?_; clear hc; rintro w32 hc; refine au 1 rfl <| rn (qn (Wret ?_)); have hres := Ctx.cells hc (k := 3) rfl rfl 0 (vs := [.int .i64 r10.1.c0, .int .i64 r10.1.c1, .int .i64 (IntKind.i64.wrap (r17.1.c0 * e31)), .int .i64 (IntKind.i64.wrap (r17.1.c1 * e31)), .int .i64 r24.1.c0, .int .i64 r24.1.c1]) rfl; replace hc := hc.m [11, 9, 7, 5, 3, 1]; obtain rfl := sj hp; refine f2c (cs := [.int .i64 r10.1.c0, .int .i64 r10.1.c1, .int .i64 (IntKind.i64.wrap (r17.1.c0 * e31)), .int .i64 (IntKind.i64.wrap (r17.1.c1 * e31)), .int .i64 r24.1.c0, .int .i64 r24.1.c1]) (u := .int .i64 0) R117 M117 rfl G196 Z196 rfl hres rfl ?_; exact ⟨_, rfl, k _ hc⟩
   · refine Wseq (Wreg ?_); refine sz (v := .agg #[.int .i64 0, .int .i64 0, .int .i64 0, .int .i64 0, .int .i64 0, .int .i64 0]) (bd_196_ ) <| au 1 rfl <| pa hc 2 Z196 ?_; clear hc; rintro w33 hc; refine au 1 rfl <| rn (qn (Wret (qr ?_))); have hres := Ctx.cells hc (k := 2) rfl rfl 0 (vs := [.int .i64 0, .int .i64 0, .int .i64 0, .int .i64 0, .int .i64 0, .int .i64 0]) rfl; replace hc := hc.m [9, 7, 5, 3, 1]; obtain rfl := sj hp; refine f2c (cs := [.int .i64 0, .int .i64 0, .int .i64 0, .int .i64 0, .int .i64 0, .int .i64 0]) (u := .int .i64 r17.2) R117 M117 rfl G196 Z196 rfl hres rfl ?_; exact ⟨_, rfl, k _ hc⟩
 · refine Wseq (Wreg ?_); refine sz (v := .agg #[.int .i64 0, .int .i64 0, .int .i64 0, .int .i64 0, .int .i64 0, .int .i64 0]) (bd_196_ ) <| au 1 rfl <| pa hc 1 Z196 ?_; clear hc; rintro w34 hc; refine au 1 rfl <| rn (qn (Wret (qr ?_))); have hres := Ctx.cells hc (k := 1) rfl rfl 0 (vs := [.int .i64 0, .int .i64 0, .int .i64 0, .int .i64 0, .int .i64 0, .int .i64 0]) rfl; replace hc := hc.m [7, 5, 3, 1]; obtain rfl := sj hp; refine f2c (cs := [.int .i64 0, .int .i64 0, .int .i64 0, .int .i64 0, .int .i64 0, .int .i64 0]) (u := .int .i64 r10.2) R117 M117 rfl G196 Z196 rfl hres rfl ?_; exact ⟨_, rfl, k _ hc⟩

def slices_IndexFunc_s_api_Mat_api_Mat.L1 (x0 : (List S_api_Mat)) (x1 : (S_api_Mat → Option Bool)) : Nat → Int → Option (Int)
  | 0, _ => none
  | m1 + 1, j1 =>
    if j1 < ((x0.length : Nat) : Int) then
      (idx x0 j1).bind fun y4 =>
      (x1 y4).bind fun r15 =>
      if r15 = true then
        some j1
      else
        (slices_IndexFunc_s_api_Mat_api_Mat.L1 x0 x1 m1) (IntKind.i64.wrap (j1 + 1))
    else
      some (-1)

def slices_IndexFunc_s_api_Mat_api_Mat (N : Nat) (x0 : (List S_api_Mat)) (x1 : (S_api_Mat → Option Bool)) : Option (Int) :=
  slices_IndexFunc_s_api_Mat_api_Mat.L1 x0 x1 N 0

theorem slices_IndexFunc_s_api_Mat_api_Mat_any {N nx0 qx0 : Nat} {x0 : (List S_api_Mat)} {ax0 : Option Addr} {P0 : HP} {x1 : (S_api_Mat → Option Bool)} {fid1 : FuncId} {cap1 : List Value} {Fr : List HP} {w : World} {r : Int} {K : Value → World → Prop} (hrd0 : Reads P0 S_api_Mat.pr (.slice ax0 nx0 qx0) x0) (hcl1 : ∀ a w, (callFunc fid1 a).run Tryz.prog w = .ok (.enter fid1 a) w) (hf1 : ∀ (y0 : S_api_Mat) (a1 : Option Addr) (n2 : Nat) (q3 : Nat) (Qs : List HP) (w : World) (r : Bool) (K : Value → World → Prop), Ctx w (Hold (pRo (pInt .i8)) [.slice a1 n2 q3] y0.V :: (Qs ++ Fr)) → x1 y0 = some r → (∀ w', Ctx w' (Qs ++ Fr) → K (.bool r) w') → Calls Tryz.prog fid1 (([.agg #[.int .i64 y0.Rows, .int .i64 y0.Cols, .slice a1 n2 q3]] : List Value) ++ cap1).toArray w (Ret K)) (hc : Ctx w (P0 :: Fr)) (hp : slices_IndexFunc_s_api_Mat_api_Mat N x0 x1 = some r)
    (k : ∀ w', Ctx w' (P0 :: Fr) → K (.int .i64 r) w') : Calls Tryz.prog 136 #[.slice ax0 nx0 qx0, .func (.func fid1) #[] cap1.toArray] w (Ret K) := by
 unfold slices_IndexFunc_s_api_Mat_api_Mat at hp; refine Center2 F136 M136 rfl rfl ?_; obtain ⟨hn0, _⟩ := Ctx.rdLen hc (k := 0) rfl rfl hrd0; subst hn0; refine Wseq (Wreg ?_); refine au 1 rfl <| rn (qn (Wseq (Wseq (Wreg ?_)))); refine au 1 rfl <| sz (ln rfl U215) <| au 1 rfl <| rn (qn (Wblk ?_)); refine Wloop (rg [4, 2, 8, 11]) [8] (fun m vs w' => ∃ j1 : Int, vs = [.int .i64 j1] ∧ slices_IndexFunc_s_api_Mat_api_Mat.L1 x0 x1 m j1 = some r ∧ Ctx w' (P0 :: Fr)) N ?_ ?_
 · exact ⟨0, rfl, hp, hc⟩
 · clear hp hc; intro m vs u w2 hJ; obtain ⟨j1, rfl, hp, hc⟩ := hJ; rcases m with _ | m1
   · cases (show none = some r from hp)
   rw [slices_IndexFunc_s_api_Mat_api_Mat.L1] at hp; refine Wseq (Wreg ?_); refine au 1 rfl <| rn (qn (Wseq ?_)); refine Wif hp (fun _ h => ?_) fun _ h => ?_
   · replace hp := h; clear h; refine Wexit (qx (qx (be (qn (Wseq (Wreg ?_)))))); refine au 1 rfl <| rn (qn (Wret ?_)); obtain rfl := sj hp; exact fz R136 M136 (k _ hc)
   · replace hp := h; clear h; refine Wskip (qn (Wseq (Wblk (Wseq (Wreg ?_))))); refine au 2 rfl <| rn (qn (Wseq (Wreg ?_))); refine au 3 rfl ?_; replace hp := bind_some hp; obtain ⟨y4, hy4, hp⟩ := hp; obtain ⟨b7, o8, rfl, hi5, hi6⟩ := hc.ra 0 hrd0 hy4; refine sz (ixx rfl rfl U215 Z32 hi5 hi6 rfl) ?_; replace hc := Ctx.rdCell hc (k := 0) rfl rfl hrd0 hy4; obtain ⟨cs10, hc, hcell11⟩ := hc; replace hc := S_api_Mat.op hc; obtain ⟨a13, q14, u12, hc⟩ := hc; subst u12; refine sz (v := .agg (S_api_Mat.cz y4 a13 q14).toArray) (ldg rfl G32 Z32 rfl (elCells hcell11 0 (vs := (S_api_Mat.cz y4 a13 q14)) rfl)) ?_; replace hc := hc.dz 0; replace hp := bind_some hp; obtain ⟨r15, hr15, hp⟩ := hp; refine rc (cv (fi := []) (ca := cap1) (vs := ([.agg (S_api_Mat.cz y4 a13 q14).toArray] : List Value) ++ cap1) hcl1 rfl rfl) rfl ?_; refine hf1 _ _ _ _ [hR .i8 a13 q14 y4.V, P0] _ _ _ hc hr15 ?_; clear hc; intro w16 hc; replace hc : Ctx w16 (hR .i8 a13 q14 y4.V :: P0 :: Fr) := hc; refine rn (qn ?_); cases hb17 : r15
     · replace hp := gneg hp (by rw [hb17]; exact Bool.false_ne_true); subst hb17; refine Wcf rfl (Wskip (bn (qn (Wreg ?_)))); refine au 2 rfl <| rn (qn ?_); replace hc := hc.m [1]; exact ⟨m1, Nat.lt_succ_self _, ⟨(IntKind.i64.wrap (j1 + 1)), rfl, hp, hc⟩, (kl rfl k0)⟩
     · replace hp := gpos hp hb17; subst hb17; refine Wct rfl (Wseq (Wreg ?_)); refine au 2 rfl <| rn (qn (Wret (br (qr (qr (br (qr ?_))))))); replace hc := hc.m [1]; obtain rfl := sj hp; exact fz R136 M136 (k _ hc)

def slices_ContainsFunc_s_api_Mat_api_Mat (N : Nat) (x0 : (List S_api_Mat)) (x1 : (S_api_Mat → Option Bool)) : Option (Bool) :=
  (slices_IndexFunc_s_api_Mat_api_Mat N x0 x1).bind fun r2 =>
  some (decide (r2 ≥ 0))

theorem slices_ContainsFunc_s_api_Mat_api_Mat_any {N nx0 qx0 : Nat} {x0 : (List S_api_Mat)} {ax0 : Option Addr} {P0 : HP} {x1 : (S_api_Mat → Option Bool)} {fid1 : FuncId} {cap1 : List Value} {Fr : List HP} {w : World} {r : Bool} {K : Value → World → Prop} (hrd0 : Reads P0 S_api_Mat.pr (.slice ax0 nx0 qx0) x0) (hcl1 : ∀ a w, (callFunc fid1 a).run Tryz.prog w = .ok (.enter fid1 a) w) (hf1 : ∀ (y0 : S_api_Mat) (a1 : Option Addr) (n2 : Nat) (q3 : Nat) (Qs : List HP) (w : World) (r : Bool) (K : Value → World → Prop), Ctx w (Hold (pRo (pInt .i8)) [.slice a1 n2 q3] y0.V :: (Qs ++ Fr)) → x1 y0 = some r → (∀ w', Ctx w' (Qs ++ Fr) → K (.bool r) w') → Calls Tryz.prog fid1 (([.agg #[.int .i64 y0.Rows, .int .i64 y0.Cols, .slice a1 n2 q3]] : List Value) ++ cap1).toArray w (Ret K)) (hc : Ctx w (P0 :: Fr)) (hp : slices_ContainsFunc_s_api_Mat_api_Mat N x0 x1 = some r)
    (k : ∀ w', Ctx w' (P0 :: Fr) → K (.bool r) w') : Calls Tryz.prog 135 #[.slice ax0 nx0 qx0, .func (.func fid1) #[] cap1.toArray] w (Ret K) := by
 unfold slices_ContainsFunc_s_api_Mat_api_Mat at hp; refine Center2 F135 M135 rfl rfl ?_; obtain ⟨hn0, _⟩ := Ctx.rdLen hc (k := 0) rfl rfl hrd0; subst hn0; refine Wseq (Wreg ?_); refine au 1 rfl <| rn (qn (Wseq (Wreg ?_))); refine au 2 rfl ?_; have hf1 : ∀ (y0 : S_api_Mat) (a2 : Option Addr) (n3 : Nat) (q4 : Nat) (Qs : List HP) (w : World) (r : Bool) (K : Value → World → Prop), Ctx w (Hold (pRo (pInt .i8)) [.slice a2 n3 q4] y0.V :: (Qs ++ (Fr))) → x1 y0 = some r → (∀ w', Ctx w' (Qs ++ (Fr)) → K (.bool r) w') → Calls Tryz.prog fid1 (([.agg #[.int .i64 y0.Rows, .int .i64 y0.Cols, .slice a2 n3 q4]] : List Value) ++ cap1).toArray w (Ret K) := by
   intro z0 z1 z2 z3 Qs w r K hc hp k; refine hf1 z0 z1 z2 z3 (Qs ++ []) w r K (by rw [List.append_assoc]; exact hc) hp (fun w' hc' => k w' (by rw [List.append_assoc] at hc'; exact hc'))
 obtain ⟨r2, hr2, hp⟩ := bind_some hp; refine kz C136 ?_; refine slices_IndexFunc_s_api_Mat_api_Mat_any hrd0 hcl1 hf1 hc hr2 ?_; clear hc; intro w3 hc; refine au 2 rfl <| rn (qn (Wret ?_)); obtain rfl := sj hp; exact fz R135 M135 (k _ hc)

def matmul_side (x0 : Int) : Option (Bool) :=
  if x0 ≥ 0 then
    some (decide (x0 ≤ 4096))
  else
    some false

theorem matmul_side_any {x0 : Int} {Fr : List HP} {w : World} {r : Bool} {K : Value → World → Prop}  (hc : Ctx w (Fr)) (hp : matmul_side x0 = some r)
    (k : ∀ w', Ctx w' (Fr) → K (.bool r) w') : Calls Tryz.prog 109 #[.int .i64 x0] w (Ret K) := by
 unfold matmul_side at hp; refine Center1 F109 M109 rfl rfl ?_; refine Wseq (Wreg ?_); refine au 1 rfl <| rn (qn (Wseq (Wreg ?_))); refine au 3 rfl ?_; cases hb1 : (decide (x0 ≥ 0))
 · replace hp := gneg hp (of_decide_eq_false hb1); (iterate 2 refine r0 rfl ?_); refine au 2 rfl <| rn (qn (Wret ?_)); obtain rfl := sj hp; exact fz R109 M109 (k _ hc)
 · replace hp := gpos hp (of_decide_eq_true hb1); refine au 4 rfl <| rn (qn (Wret ?_)); obtain rfl := sj hp; exact fz R109 M109 (k _ hc)

def matmul_wrong (x0 : S_api_Mat) : Option (Bool) :=
  (matmul_side x0.Rows).bind fun r8 =>
  if r8 = true then
    (matmul_side x0.Cols).bind fun r11 =>
    if r11 = true then
      if ((x0.V.length : Nat) : Int) ≠ (IntKind.i64.wrap (x0.Rows * x0.Cols)) then
        some true
      else
        some (decide (((x0.V.length : Nat) : Int) > 1048576))
    else
      some true
  else
    some true

theorem matmul_wrong_any {x0 : S_api_Mat} {a1 : Option Addr} {n2 q3 : Nat} {Fr : List HP} {w : World} {r : Bool} {K : Value → World → Prop}  (hc : Ctx w (Hold (pRo (pInt .i8)) [.slice a1 n2 q3] x0.V :: Fr)) (hp : matmul_wrong x0 = some r)
    (k : ∀ w', Ctx w' (Fr) → K (.bool r) w') : Calls Tryz.prog 82 #[.agg #[.int .i64 x0.Rows, .int .i64 x0.Cols, .slice a1 n2 q3]] w (Ret K) := by
 unfold matmul_wrong at hp; refine Center1 F82 M82 rfl rfl ?_; obtain rfl := hc.rz 0 reads_ro; refine Wseq (Wreg ?_); refine rsE (Ctx.boxOp (cs := (S_api_Mat.cz x0 a1 q3)) (v := .agg (S_api_Mat.cz x0 a1 q3).toArray) hc rfl rfl) rfl ?_; clear hc; rintro _ w7 ⟨b5, rfl, hc⟩; refine au 1 rfl <| rn (qn (Wseq (Wreg ?_))); refine fq 0 U32 Z3 G3 hc 0 ?_; replace hp := bind_some hp; obtain ⟨r8, hr8, hp⟩ := hp; refine kz C109 ?_; refine matmul_side_any hc hr8 ?_; clear hc; intro w9 hc; cases hb10 : r8
 · replace hp := gneg hp (by rw [hb10]; exact Bool.false_ne_true); subst hb10; refine au 2 rfl ?_; (iterate 4 refine r0 rfl ?_); refine au 2 rfl ?_; (iterate 9 refine r0 rfl ?_); refine au 2 rfl ?_; (iterate 4 refine r0 rfl ?_); refine au 2 rfl <| rn (qn (Wret ?_)); replace hc := hc.m [3, 1]; obtain rfl := sj hp; exact fz R82 M82 (k _ hc)
 · replace hp := gpos hp hb10; subst hb10; refine au 2 rfl ?_; refine fq 1 U32 Z3 G3 hc 0 ?_; replace hp := bind_some hp; obtain ⟨r11, hr11, hp⟩ := hp; refine kz C109 ?_; refine matmul_side_any hc hr11 ?_; clear hc; intro w12 hc; cases hb13 : r11
   · replace hp := gneg hp (by rw [hb13]; exact Bool.false_ne_true); subst hb13; refine au 3 rfl ?_; (iterate 9 refine r0 rfl ?_); refine au 2 rfl ?_; (iterate 4 refine r0 rfl ?_); refine au 2 rfl <| rn (qn (Wret ?_)); replace hc := hc.m [3, 1]; obtain rfl := sj hp; exact fz R82 M82 (k _ hc)
   · replace hp := gpos hp hb13; subst hb13; refine au 3 rfl ?_; refine fq 2 U32 Z30 G30 hc 0 ?_; refine sz (ln rfl U30) ?_; refine fq 0 U32 Z3 G3 hc 0 ?_; refine fq 1 U32 Z3 G3 hc 0 ?_; refine au 4 rfl ?_; cases hb14 : (decide (((x0.V.length : Nat) : Int) ≠ (IntKind.i64.wrap (x0.Rows * x0.Cols))))
     · replace hp := gneg hp (of_decide_eq_false hb14); refine fq 2 U32 Z30 G30 hc 0 ?_; refine sz (ln rfl U30) <| au 3 rfl <| rn (qn (Wret ?_)); replace hc := hc.m [3, 1]; obtain rfl := sj hp; exact fz R82 M82 (k _ hc)
     · replace hp := gpos hp (of_decide_eq_true hb14); (iterate 4 refine r0 rfl ?_); refine au 2 rfl <| rn (qn (Wret ?_)); replace hc := hc.m [3, 1]; obtain rfl := sj hp; exact fz R82 M82 (k _ hc)

def matmul_Right (N : Nat) (x0 : (List S_api_Mat)) : Option (Bool) :=
  (slices_ContainsFunc_s_api_Mat_api_Mat N x0 (fun u0 => matmul_wrong u0)).bind fun r2 =>
  if r2 = true then
    some false
  else
    some true

theorem matmul_Right_any {N nx0 qx0 : Nat} {x0 : (List S_api_Mat)} {ax0 : Option Addr} {P0 : HP} {Fr : List HP} {w : World} {r : Bool} {K : Value → World → Prop} (hrd0 : Reads P0 S_api_Mat.pr (.slice ax0 nx0 qx0) x0) (hc : Ctx w (P0 :: Fr)) (hp : matmul_Right N x0 = some r)
    (k : ∀ w', Ctx w' (P0 :: Fr) → K (.bool r) w') : Calls Tryz.prog 133 #[.slice ax0 nx0 qx0] w (Ret K) := by
 unfold matmul_Right at hp; refine Center1 F133 M133 rfl rfl ?_; obtain ⟨hn0, _⟩ := Ctx.rdLen hc (k := 0) rfl rfl hrd0; subst hn0; refine Wseq (Wreg ?_); refine au 1 rfl <| rn (qn (Wseq (Wreg ?_))); refine au 1 rfl ?_; have hf1 : ∀ (y0 : S_api_Mat) (a2 : Option Addr) (n3 : Nat) (q4 : Nat) (Qs : List HP) (w : World) (r : Bool) (K : Value → World → Prop), Ctx w (Hold (pRo (pInt .i8)) [.slice a2 n3 q4] y0.V :: (Qs ++ (Fr))) → (fun u0 => matmul_wrong u0) y0 = some r → (∀ w', Ctx w' (Qs ++ (Fr)) → K (.bool r) w') → Calls Tryz.prog 82 (([.agg #[.int .i64 y0.Rows, .int .i64 y0.Cols, .slice a2 n3 q4]] : List Value) ++ []).toArray w (Ret K) := by
   intro z0 z1 z2 z3 Qs w r K hc hp k; exact matmul_wrong_any hc hp (fun w' hc' => k w' hc')
 replace hp := bind_some hp; obtain ⟨r2, hr2, hp⟩ := hp; refine kz C135 ?_; refine slices_ContainsFunc_s_api_Mat_api_Mat_any hrd0 C82 hf1 hc hr2 ?_; clear hc; intro w3 hc; cases hb4 : r2
 · replace hp := gneg hp (by rw [hb4]; exact Bool.false_ne_true); subst hb4; refine au 2 rfl <| rn (qn (Wret ?_)); obtain rfl := sj hp; exact fz R133 M133 (k _ hc)
 · replace hp := gpos hp hb4; subst hb4; refine au 2 rfl <| rn (qn (Wret ?_)); obtain rfl := sj hp; exact fz R133 M133 (k _ hc)

end Go.Proofs.YtbfiagimgokccaaGreat
end
section
namespace Go.Proofs.YtbfiagimgokccaaGreat
open Go Go.RowKit Go.Hp
set_option linter.unusedVariables false
set_option linter.unusedSimpArgs false
set_option maxRecDepth 100000
set_option maxHeartbeats 8000000

def part_is (N : Nat) (x0 : S_api_Mat) (x1 : Int) (x2 : Int) : Option (Bool) :=
  if x0.Rows = x1 then
    if x0.Cols = x2 then
      (matmul_Right N ([x0])).bind fun r12 =>
      some r12
    else
      some false
  else
    some false

theorem part_is_any {N n2 q3 : Nat} {x0 : S_api_Mat} {a1 : Option Addr} {x1 x2 : Int} {Fr : List HP} {w : World} {r : Bool} {K : Value → World → Prop}  (hc : Ctx w (Hold (pRo (pInt .i8)) [.slice a1 n2 q3] x0.V :: Fr)) (hp : part_is N x0 x1 x2 = some r)
    (k : ∀ w', Ctx w' (Fr) → K (.bool r) w') : Calls Tryz.prog 121 #[.agg #[.int .i64 x0.Rows, .int .i64 x0.Cols, .slice a1 n2 q3], .int .i64 x1, .int .i64 x2] w (Ret K) := by
 unfold part_is at hp; refine Center3 F121 M121 rfl rfl ?_; obtain rfl := hc.rz 0 reads_ro; refine Wseq (Wreg ?_); refine rsE (Ctx.boxOp (cs := (S_api_Mat.cz x0 a1 q3)) (v := .agg (S_api_Mat.cz x0 a1 q3).toArray) hc rfl rfl) rfl ?_; clear hc; rintro _ w7 ⟨b5, rfl, hc⟩; refine au 1 rfl <| rn (qn (Wseq (Wreg ?_))); refine fq 0 U32 Z3 G3 hc 0 ?_; refine au 3 rfl ?_; cases hb8 : (decide (x0.Rows = x1))
 · replace hp := gneg hp (of_decide_eq_false hb8); (iterate 4 refine r0 rfl ?_); refine au 2 rfl ?_; (iterate 3 refine r0 rfl ?_); refine au 2 rfl <| rn (qn (Wret ?_)); replace hc := hc.m [3, 1]; obtain rfl := sj hp; exact fz R121 M121 (k _ hc)
 · replace hp := gpos hp (of_decide_eq_true hb8); refine fq 1 U32 Z3 G3 hc 0 ?_; refine au 4 rfl ?_; cases hb9 : (decide (x0.Cols = x2))
   · replace hp := gneg hp (of_decide_eq_false hb9); (iterate 3 refine r0 rfl ?_); refine au 2 rfl <| rn (qn (Wret ?_)); replace hc := hc.m [3, 1]; obtain rfl := sj hp; exact fz R121 M121 (k _ hc)
   · replace hp := gpos hp (of_decide_eq_true hb9); refine lg G32 Z32 hc 0 ?_; replace hc := hc.dz 1; replace hc : Ctx w7 (Hold S_api_Mat.pr (S_api_Mat.cz x0 a1 q3) x0 :: B b5 (S_api_Mat.cz x0 a1 q3) 32 :: hR .i8 a1 q3 x0.V :: Fr) := S_api_Mat.cl hc; refine rsE (Ctx.builtOp (css := [(S_api_Mat.cz x0 a1 q3)]) (xs := ([x0] : List S_api_Mat)) (E := S_api_Mat.pr) hc U215 Z32 V32 rfl rfl rfl rfl rfl rfl rfl rfl) rfl ?_; clear hc; rintro _ w11 ⟨a10, rfl, hc⟩; obtain ⟨r12, hr12, hp⟩ := bind_some hp; refine kz C133 ?_; refine matmul_Right_any (x0 := [x0]) reads_own hc hr12 ?_; clear hc; intro w13 hc; refine au 2 rfl <| rn (qn (Wret ?_)); replace hc := hc.m [5, 3, 1]; obtain rfl := sj hp; exact fz R121 M121 (k _ hc)

def part_ends.J2 (N : Nat) (x0 : S_api_Shard) (j24 : Int) (j25 : Int) (j30 : Int) (j31 : Int) : Option (Bool) :=
  (part_is N x0.Embed j25 j24).bind fun r36 =>
  if r36 = true then
    (part_is N x0.Head j31 j30).bind fun r39 =>
    if r39 = true then
      some (decide (((x0.Last.length : Nat) : Int) = j30))
    else
      some false
  else
    some false

def part_ends.J1 (N : Nat) (x0 : S_api_Shard) (j24 : Int) (j25 : Int) : Option (Bool) :=
  if x0.Stage = (IntKind.i64.wrap (x0.Cut.Stages - 1)) then
    part_ends.J2 N x0 j24 j25 x0.Shape.Width x0.Shape.Vocab
  else
    part_ends.J2 N x0 j24 j25 0 0

def part_ends (N : Nat) (x0 : S_api_Shard) : Option (Bool) :=
  if x0.Stage = 0 then
    part_ends.J1 N x0 x0.Shape.Width x0.Shape.Vocab
  else
    part_ends.J1 N x0 0 0

theorem part_ends_any {N n2 q3 n5 q6 n8 q9 n11 q12 : Nat} {x0 : S_api_Shard} {a1 a4 a7 a10 : Option Addr} {Fr : List HP} {w : World} {r : Bool} {K : Value → World → Prop}  (hc : Ctx w (Hold (pRo (pInt .i8)) [.slice a1 n2 q3] x0.Embed.V :: Hold (pRo S_api_Block.pr) [.slice a4 n5 q6] x0.Blocks :: Hold (pRo (pInt .i8)) [.slice a7 n8 q9] x0.Last :: Hold (pRo (pInt .i8)) [.slice a10 n11 q12] x0.Head.V :: Fr)) (hp : part_ends N x0 = some r)
    (k : ∀ w', Ctx w' (Fr) → K (.bool r) w') : Calls Tryz.prog 118 #[.agg #[.int .i64 x0.Shape.Layers, .int .i64 x0.Shape.Width, .int .i64 x0.Shape.Heads, .int .i64 x0.Shape.Inner, .int .i64 x0.Shape.Vocab, .int .i64 x0.Shape.Places, .int .i64 x0.Cut.Stages, .int .i64 x0.Cut.Parts, .int .i64 x0.Stage, .int .i64 x0.Part, .int .i64 x0.Embed.Rows, .int .i64 x0.Embed.Cols, .slice a1 n2 q3, .slice a4 n5 q6, .slice a7 n8 q9, .int .i64 x0.Head.Rows, .int .i64 x0.Head.Cols, .slice a10 n11 q12]] w (Ret K) := by
 unfold part_ends at hp; refine Center1 F118 M118 rfl rfl ?_; obtain rfl := hc.rz 0 reads_ro; obtain rfl := hc.rz 1 reads_ro; obtain rfl := hc.rz 2 reads_ro; obtain rfl := hc.rz 3 reads_ro; refine Wseq (Wreg ?_); refine rsE (Ctx.boxOp (cs := (S_api_Shard.cz x0 a1 q3 a4 q6 a7 q9 a10 q12)) (v := .agg (S_api_Shard.cz x0 a1 q3 a4 q6 a7 q9 a10 q12).toArray) hc rfl rfl) rfl ?_; clear hc; rintro _ w19 ⟨b17, rfl, hc⟩; refine au 1 rfl <| rn (qn (Wseq (Wreg ?_))); refine au 2 rfl <| rn (qn (Wseq (Wreg ?_))); refine sz (v := .agg #[.int .i64 0, .int .i64 0]) (bd_89_ ) ?_; refine rsE (Ctx.allocOp (cs := [.int .i64 0, .int .i64 0]) hc V89 rfl) rfl ?_; clear hc; rintro _ w22 ⟨b20, rfl, hc⟩; refine pa hc 0 Z89 ?_; clear hc; rintro w23 hc; refine rn (qn ?_); refine Wseqm (rg [3, 1, 7, 10]) [3] (fun vs w' => ∃ j24 : Int, ∃ j25 : Int, vs = [.int .i64 j25] ∧ part_ends.J1 N x0 j24 j25 = some r ∧ Ctx w' (B b20 [.int .i64 j24, .int .i64 0] 89 :: B b17 (S_api_Shard.cz x0 a1 q3 a4 q6 a7 q9 a10 q12) 41 :: hR .i8 a1 q3 x0.Embed.V :: hS S_api_Block.pr a4 q6 x0.Blocks :: hR .i8 a7 q9 x0.Last :: hR .i8 a10 q12 x0.Head.V :: Fr)) ?_ ?_
 · refine Wseq (Wreg ?_); refine fq 8 U41 Z3 G3 hc 1 ?_; refine au 1 rfl <| rn (qn ?_); cases hb26 : (decide (x0.Stage = 0))
   · replace hp := gneg hp (of_decide_eq_false hb26); refine Wcf rfl (Wskip (qn ?_)); exact ⟨⟨0, 0, rfl, hp, hc⟩, (kl rfl kb)⟩
   · replace hp := gpos hp (of_decide_eq_true hb26); refine Wct rfl ?_; replace hc := hc.drew; refine Wdrw (fun j w' => True) [0, 1, 3, 0, 8, 24, 7, 127, 255] 0 36 rfl (by kernel_rfl) (fun _ _ => trivial) ?_; generalize hw : World.drew w23 = w27 at *; clear hw; refine ds (v := pt b17 0) rfl (fun w' hF => fax 0 rfl U41 rfl Z29 rfl rfl rfl) rfl <| ds (v := pt b17 4) rfl (fun w' hF => fax 4 rfl U29 rfl Z3 rfl rfl rfl) rfl <| dx rfl (ld rfl G3 (Ctx.cell hc (k := 1) rfl rfl rfl)) rfl rfl <| ds (v := pt b17 0) rfl (fun w' hF => fax 0 rfl U41 rfl Z29 rfl rfl rfl) rfl <| ds (v := pt b17 1) rfl (fun w' hF => fax 1 rfl U29 rfl Z3 rfl rfl rfl) rfl <| dx rfl (ld rfl G3 (Ctx.cell hc (k := 1) rfl rfl rfl)) rfl rfl <| ad_ 1 rfl <| ds (v := pt b20 0) rfl (fun w' hF => ixa (i := 0) rfl rfl U89 Z3 (by decide) (by decide) (by decide) (by decide) rfl) rfl ?_; refine pod hc 0 Z3 ?_; clear hc; rintro w28 hc; refine ⟨fun j hj hb => trivial, ?_⟩; refine dn (qn ?_); exact ⟨⟨x0.Shape.Width, x0.Shape.Vocab, rfl, hp, hc⟩, (kl rfl kb)⟩
 · clear hp hc; intro vs u w29 hJ; obtain ⟨j24, j25, rfl, hp, hc⟩ := hJ; unfold part_ends.J1 at hp; refine Wseqm (rg [4, 1, 17, 14]) [4] (fun vs w' => ∃ j30 : Int, ∃ j31 : Int, vs = [.int .i64 j31] ∧ part_ends.J2 N x0 j24 j25 j30 j31 = some r ∧ Ctx w' (B b20 [.int .i64 j24, .int .i64 j30] 89 :: B b17 (S_api_Shard.cz x0 a1 q3 a4 q6 a7 q9 a10 q12) 41 :: hR .i8 a1 q3 x0.Embed.V :: hS S_api_Block.pr a4 q6 x0.Blocks :: hR .i8 a7 q9 x0.Last :: hR .i8 a10 q12 x0.Head.V :: Fr)) ?_ ?_
   · refine Wseq (Wreg ?_); refine fq 8 U41 Z3 G3 hc 1 ?_; refine sz (v := pt b17 6) (fax 6 rfl U41 rfl Z37 rfl rfl rfl) ?_; refine fq 0 U37 Z3 G3 hc 1 ?_; refine au 2 rfl <| rn (qn ?_); cases hb32 : (decide (x0.Stage = (IntKind.i64.wrap (x0.Cut.Stages - 1))))
     · replace hp := gneg hp (of_decide_eq_false hb32); refine Wcf rfl (Wskip (qn ?_)); exact ⟨⟨0, 0, rfl, hp, hc⟩, (kl rfl kb)⟩
     · replace hp := gpos hp (of_decide_eq_true hb32); refine Wct rfl ?_; replace hc := hc.drew; refine Wdrw (fun j w' => True) [0, 1, 3, 0, 8, 24, 7, 127, 255] 0 36 rfl (by kernel_rfl) (fun _ _ => trivial) ?_; generalize hw : World.drew w29 = w33 at *; clear hw; refine ds (v := pt b17 0) rfl (fun w' hF => fax 0 rfl U41 rfl Z29 rfl rfl rfl) rfl <| ds (v := pt b17 4) rfl (fun w' hF => fax 4 rfl U29 rfl Z3 rfl rfl rfl) rfl <| dx rfl (ld rfl G3 (Ctx.cell hc (k := 1) rfl rfl rfl)) rfl rfl <| ds (v := pt b17 0) rfl (fun w' hF => fax 0 rfl U41 rfl Z29 rfl rfl rfl) rfl <| ds (v := pt b17 1) rfl (fun w' hF => fax 1 rfl U29 rfl Z3 rfl rfl rfl) rfl <| dx rfl (ld rfl G3 (Ctx.cell hc (k := 1) rfl rfl rfl)) rfl rfl <| ad_ 1 rfl <| ds (v := pt b20 1) rfl (fun w' hF => ixa (i := 1) rfl rfl U89 Z3 (by decide) (by decide) (by decide) (by decide) rfl) rfl ?_; refine pod hc 0 Z3 ?_; clear hc; rintro w34 hc; refine ⟨fun j hj hb => trivial, ?_⟩; refine dn (qn ?_); exact ⟨⟨x0.Shape.Width, x0.Shape.Vocab, rfl, hp, hc⟩, (kl rfl kb)⟩
   · clear hp hc; intro vs u w35 hJ; obtain ⟨j30, j31, rfl, hp, hc⟩ := hJ; unfold part_ends.J2 at hp; refine Wseq (Wreg ?_); refine sz (v := pt b17 10) (fax 10 rfl U41 rfl Z32 rfl rfl rfl) <| lg G32 Z32 hc 1 ?_; refine au 1 rfl <| sz (v := pt b20 0) (ixa (i := 0) rfl rfl U89 Z3 (by decide) (by decide) (by decide) (by decide) rfl) <| sz (ld rfl G3 (Ctx.cell hc (k := 0) rfl rfl rfl)) ?_; replace hc := hc.dz 2; replace hp := bind_some hp; obtain ⟨r36, hr36, hp⟩ := hp; refine kz C121 ?_; refine part_is_any (x0 := x0.Embed) hc hr36 ?_; clear hc; intro w37 hc; refine au 1 rfl ?_; cases hb38 : r36
     · replace hp := gneg hp (by rw [hb38]; exact Bool.false_ne_true); subst hb38; (iterate 6 refine r0 rfl ?_); refine au 2 rfl ?_; (iterate 6 refine r0 rfl ?_); refine au 2 rfl <| rn (qn (Wret ?_)); replace hc := hc.m [11, 9, 7, 5, 3, 1]; obtain rfl := sj hp; exact fz R118 M118 (k _ hc)
     · replace hp := gpos hp hb38; subst hb38; refine sz (v := pt b17 15) (fax 15 rfl U41 rfl Z32 rfl rfl rfl) <| lg G32 Z32 hc 1 ?_; refine au 1 rfl <| sz (v := pt b20 1) (ixa (i := 1) rfl rfl U89 Z3 (by decide) (by decide) (by decide) (by decide) rfl) <| sz (ld rfl G3 (Ctx.cell hc (k := 0) rfl rfl rfl)) ?_; replace hc := hc.dz 5; replace hp := bind_some hp; obtain ⟨r39, hr39, hp⟩ := hp; refine kz C121 ?_; refine part_is_any (x0 := x0.Head) hc hr39 ?_; clear hc; intro w40 hc; refine au 2 rfl ?_; cases hb41 : r39
       · replace hp := gneg hp (by rw [hb41]; exact Bool.false_ne_true); subst hb41; (iterate 6 refine r0 rfl ?_); refine au 2 rfl <| rn (qn (Wret ?_)); replace hc := hc.m [11, 9, 7, 5, 3, 1]; obtain rfl := sj hp; exact fz R118 M118 (k _ hc)
       · replace hp := gpos hp hb41; subst hb41; refine fq 14 U41 Z30 G30 hc 1 ?_; refine sz (ln rfl U30) <| sz (v := pt b20 1) (ixa (i := 1) rfl rfl U89 Z3 (by decide) (by decide) (by decide) (by decide) rfl) <| sz (ld rfl G3 (Ctx.cell hc (k := 0) rfl rfl rfl)) <| au 3 rfl <| rn (qn (Wret ?_)); replace hc := hc.m [11, 9, 7, 5, 3, 1]; obtain rfl := sj hp; exact fz R118 M118 (k _ hc)

def part_wrong.L2 (N : Nat) (x0 : S_api_Shard) (r20 : (S_part_spans × Int)) : Nat → Int → Option (Bool)
  | 0, _ => none
  | m2 + 1, j113 =>
    if j113 < ((x0.Blocks.length : Nat) : Int) then
      (idx x0.Blocks j113).bind fun y116 =>
      if ((y116.First.length : Nat) : Int) ≠ x0.Shape.Width then
        some (decide (j113 ≥ 0))
      else
        if ((y116.Second.length : Nat) : Int) ≠ x0.Shape.Width then
          some (decide (j113 ≥ 0))
        else
          (part_is N (⟨y116.Q.Rows, y116.Q.Cols, y116.Q.V⟩ : S_api_Mat) (IntKind.i64.wrap (r20.1.heads.c1 - r20.1.heads.c0)) x0.Shape.Width).bind fun r146 =>
          if r146 = true then
            (part_is N (⟨y116.K.Rows, y116.K.Cols, y116.K.V⟩ : S_api_Mat) (IntKind.i64.wrap (r20.1.heads.c1 - r20.1.heads.c0)) x0.Shape.Width).bind fun r149 =>
            if r149 = true then
              (part_is N (⟨y116.V.Rows, y116.V.Cols, y116.V.V⟩ : S_api_Mat) (IntKind.i64.wrap (r20.1.heads.c1 - r20.1.heads.c0)) x0.Shape.Width).bind fun r152 =>
              if r152 = true then
                (part_is N (⟨y116.O.Rows, y116.O.Cols, y116.O.V⟩ : S_api_Mat) x0.Shape.Width (IntKind.i64.wrap (r20.1.heads.c1 - r20.1.heads.c0))).bind fun r155 =>
                if r155 = true then
                  (part_is N (⟨y116.Up.Rows, y116.Up.Cols, y116.Up.V⟩ : S_api_Mat) (IntKind.i64.wrap (r20.1.inner.c1 - r20.1.inner.c0)) x0.Shape.Width).bind fun r158 =>
                  if r158 = true then
                    (part_is N (⟨y116.Down.Rows, y116.Down.Cols, y116.Down.V⟩ : S_api_Mat) x0.Shape.Width (IntKind.i64.wrap (r20.1.inner.c1 - r20.1.inner.c0))).bind fun r161 =>
                    if r161 = true then
                      (part_wrong.L2 N x0 r20 m2) (IntKind.i64.wrap (j113 + 1))
                    else
                      some (decide (j113 ≥ 0))
                  else
                    some (decide (j113 ≥ 0))
                else
                  some (decide (j113 ≥ 0))
              else
                some (decide (j113 ≥ 0))
            else
              some (decide (j113 ≥ 0))
          else
            some (decide (j113 ≥ 0))
    else
      some (decide ((-1) ≥ 0))

def part_wrong.J1 (N : Nat) (x0 : S_api_Shard) (r20 : (S_part_spans × Int)) : Option (Bool) :=
  part_wrong.L2 N x0 r20 N 0

def part_wrong (N : Nat) (x0 : S_api_Shard) : Option (Bool) :=
  (part_of x0.Shape x0.Cut x0.Stage x0.Part).bind fun r20 =>
  if r20.2 ≠ 0 then
    some true
  else
    (part_ends N x0).bind fun r27 =>
    if r27 = true then
      if ((x0.Blocks.length : Nat) : Int) ≠ (IntKind.i64.wrap (r20.1.layers.c1 - r20.1.layers.c0)) then
        some true
      else
        part_wrong.J1 N x0 r20
    else
      some true

theorem part_wrong_any {N n2 q3 n5 q6 n8 q9 n11 q12 : Nat} {x0 : S_api_Shard} {a1 a4 a7 a10 : Option Addr} {Fr : List HP} {w : World} {r : Bool} {K : Value → World → Prop}  (hc : Ctx w (Hold (pRo (pInt .i8)) [.slice a1 n2 q3] x0.Embed.V :: Hold (pRo S_api_Block.pr) [.slice a4 n5 q6] x0.Blocks :: Hold (pRo (pInt .i8)) [.slice a7 n8 q9] x0.Last :: Hold (pRo (pInt .i8)) [.slice a10 n11 q12] x0.Head.V :: Fr)) (hp : part_wrong N x0 = some r)
    (k : ∀ w', Ctx w' (Fr) → K (.bool r) w') : Calls Tryz.prog 91 #[.agg #[.int .i64 x0.Shape.Layers, .int .i64 x0.Shape.Width, .int .i64 x0.Shape.Heads, .int .i64 x0.Shape.Inner, .int .i64 x0.Shape.Vocab, .int .i64 x0.Shape.Places, .int .i64 x0.Cut.Stages, .int .i64 x0.Cut.Parts, .int .i64 x0.Stage, .int .i64 x0.Part, .int .i64 x0.Embed.Rows, .int .i64 x0.Embed.Cols, .slice a1 n2 q3, .slice a4 n5 q6, .slice a7 n8 q9, .int .i64 x0.Head.Rows, .int .i64 x0.Head.Cols, .slice a10 n11 q12]] w (Ret K) := by
 unfold part_wrong at hp; refine Center1 F91 M91 rfl rfl ?_; obtain rfl := hc.rz 0 reads_ro; obtain rfl := hc.rz 1 reads_ro; obtain rfl := hc.rz 2 reads_ro; obtain rfl := hc.rz 3 reads_ro; refine Wseq (Wreg ?_); refine rsE (Ctx.boxOp (cs := (S_api_Shard.cz x0 a1 q3 a4 q6 a7 q9 a10 q12)) (v := .agg (S_api_Shard.cz x0 a1 q3 a4 q6 a7 q9 a10 q12).toArray) hc rfl rfl) rfl ?_; clear hc; rintro _ w19 ⟨b17, rfl, hc⟩; refine au 1 rfl <| rn (qn (Wseq (Wreg ?_))); refine sz (v := pt b17 0) (fax 0 rfl U41 rfl Z29 rfl rfl rfl) <| lg G29 Z29 hc 0 ?_; refine sz (v := pt b17 6) (fax 6 rfl U41 rfl Z37 rfl rfl rfl) <| lg G37 Z37 hc 0 ?_; refine fq 8 U41 Z3 G3 hc 0 ?_; refine fq 9 U41 Z3 G3 hc 0 ?_; replace hp := bind_some hp; obtain ⟨r20, hr20, hp⟩ := hp; refine kz C117 ?_; refine part_of_any (x0 := x0.Shape) (x1 := x0.Cut) hc hr20 ?_; clear hc; intro w21 hc; refine au 3 rfl ?_; refine rsE (Ctx.allocOp (cs := [.int .i64 0, .int .i64 0, .int .i64 0, .int .i64 0, .int .i64 0, .int .i64 0]) hc V196 rfl) rfl ?_; clear hc; rintro _ w24 ⟨b22, rfl, hc⟩; refine pa hc 0 Z196 ?_; clear hc; rintro w25 hc; refine au 1 rfl <| rn (qn (Wseq (Wseq (Wreg ?_)))); refine au 3 rfl ?_; cases hb26 : (decide (r20.2 ≠ 0))
 · replace hp := gneg hp (of_decide_eq_false hb26); refine lg G41 Z41 hc 1 ?_; replace hc := hc.dz 2; replace hc := hc.dz 4; replace hc := hc.dz 6; replace hc := hc.dz 8; replace hp := bind_some hp; obtain ⟨r27, hr27, hp⟩ := hp; replace hc := hc.m [2, 4, 6]; refine kz C118 ?_; refine part_ends_any (x0 := x0) hc hr27 ?_; clear hc; intro w28 hc; cases hb29 : r27
   · replace hp := gneg hp (by rw [hb29]; exact Bool.false_ne_true); subst hb29; refine au 3 rfl ?_; (iterate 11 refine r0 rfl ?_); refine au 1 rfl <| rn (qn (Wct rfl (Wseq (Wreg ?_)))); refine au 1 rfl <| rn (qn (Wret (qr ?_))); replace hc := hc.m [11, 9, 7, 5, 3, 1]; obtain rfl := sj hp; exact fz R91 M91 (k _ hc)
   · replace hp := gpos hp hb29; subst hb29; refine au 3 rfl ?_; refine fq 13 U41 Z33 G33 hc 1 ?_; refine sz (ln rfl U33) <| sz (v := pt b22 0) (fax 0 rfl U196 rfl Z89 rfl rfl rfl) <| sz (v := pt b22 1) (ixa (i := 1) rfl rfl U89 Z3 (by decide) (by decide) (by decide) (by decide) rfl) <| sz (ld rfl G3 (Ctx.cell hc (k := 0) rfl rfl rfl)) <| sz (v := pt b22 0) (fax 0 rfl U196 rfl Z89 rfl rfl rfl) <| sz (v := pt b22 0) (ixa (i := 0) rfl rfl U89 Z3 (by decide) (by decide) (by decide) (by decide) rfl) <| sz (ld rfl G3 (Ctx.cell hc (k := 0) rfl rfl rfl)) <| au 3 rfl <| rn (qn ?_); refine Wif hp (fun _ h => ?_) fun _ h => ?_
     · replace hp := h; clear h; refine Wskip (qn ?_); refine Wseqm (rg [5, 3, 40, 17]) [5, 6, 7] (fun vs w' => ∃ b31 : Nat, ∃ b32 : Nat, ∃ b33 : Nat, vs = [pt b31 0, pt b32 0, pt b33 0] ∧ part_wrong.J1 N x0 r20 = some r ∧ Ctx w' (B b17 (S_api_Shard.cz x0 a1 q3 a4 q6 a7 q9 a10 q12) 41 :: hR .i8 a1 q3 x0.Embed.V :: hS S_api_Block.pr a4 q6 x0.Blocks :: hR .i8 a7 q9 x0.Last :: hR .i8 a10 q12 x0.Head.V :: B b31 [.int .i64 x0.Shape.Width] 3 :: B b32 [.int .i64 (IntKind.i64.wrap (r20.1.heads.c1 - r20.1.heads.c0))] 3 :: B b33 [.int .i64 (IntKind.i64.wrap (r20.1.inner.c1 - r20.1.inner.c0))] 3 :: Fr)) ?_ ?_
       · refine Wrg rfl ?_; refine RGsplit 17 18 rfl ?_ ?_
         · refine RGsplit 17 19 rfl ?_ ?_
           · refine RGsplit 18 19 rfl ?_ ?_
             · replace hc := hc.drew; refine RGleaf [0, 1, 2, 3, 4, 5, 6, 7, 8, 9, 10, 11, 12, 13, 14, 15, 16, 17, 18, 19, 20, 21, 22] (fun j w' => (j = 2 → w'.cell? ⟨b17, 1, none⟩ = some (.int .i64 x0.Shape.Width)) ∧ (j = 5 → w'.cell? ⟨b22, 3, none⟩ = some (.int .i64 r20.1.heads.c1)) ∧ (j = 8 → w'.cell? ⟨b22, 2, none⟩ = some (.int .i64 r20.1.heads.c0)) ∧ (j = 12 → w'.cell? ⟨b22, 5, none⟩ = some (.int .i64 r20.1.inner.c1)) ∧ (j = 15 → w'.cell? ⟨b22, 4, none⟩ = some (.int .i64 r20.1.inner.c0)) ∧ True) [0, 1, 3, 0, 8, 24, 0, 64, 192, 504, 0, 1024, 3072, 0, 8192, 24576, 64512, 0, 131072, 393216, 917511, 1967103, 4194303] 0 0 (by kernel_rfl) (by kernel_rfl) (fun j hj => ⟨fun _ => hc.cell (k := 1) rfl rfl rfl, fun _ => hc.cell (k := 0) rfl rfl rfl, fun _ => hc.cell (k := 0) rfl rfl rfl, fun _ => hc.cell (k := 0) rfl rfl rfl, fun _ => hc.cell (k := 0) rfl rfl rfl, trivial⟩) ?_; generalize hw : World.drew w28 = w34 at *; clear hw; refine ds (v := pt b17 0) rfl (fun w' hF => fax 0 rfl U41 rfl Z29 rfl rfl rfl) rfl <| ds (v := pt b17 1) rfl (fun w' hF => fax 1 rfl U29 rfl Z3 rfl rfl rfl) rfl <| ds rfl (fun w' hF => ld rfl G3 ((hF.1 rfl))) rfl <| ds (v := pt b22 2) rfl (fun w' hF => fax 2 rfl U196 rfl Z89 rfl rfl rfl) rfl <| ds (v := pt b22 3) rfl (fun w' hF => ixa (i := 1) rfl rfl U89 Z3 (by decide) (by decide) (by decide) (by decide) rfl) rfl <| ds rfl (fun w' hF => ld rfl G3 ((hF.2.1 rfl))) rfl <| ds (v := pt b22 2) rfl (fun w' hF => fax 2 rfl U196 rfl Z89 rfl rfl rfl) rfl <| ds (v := pt b22 2) rfl (fun w' hF => ixa (i := 0) rfl rfl U89 Z3 (by decide) (by decide) (by decide) (by decide) rfl) rfl <| ds rfl (fun w' hF => ld rfl G3 ((hF.2.2.1 rfl))) rfl <| ad_ 1 rfl <| ds (v := pt b22 4) rfl (fun w' hF => fax 4 rfl U196 rfl Z89 rfl rfl rfl) rfl <| ds (v := pt b22 5) rfl (fun w' hF => ixa (i := 1) rfl rfl U89 Z3 (by decide) (by decide) (by decide) (by decide) rfl) rfl <| ds rfl (fun w' hF => ld rfl G3 ((hF.2.2.2.1 rfl))) rfl <| ds (v := pt b22 4) rfl (fun w' hF => fax 4 rfl U196 rfl Z89 rfl rfl rfl) rfl <| ds (v := pt b22 4) rfl (fun w' hF => ixa (i := 0) rfl rfl U89 Z3 (by decide) (by decide) (by decide) (by decide) rfl) rfl <| ds rfl (fun w' hF => ld rfl G3 ((hF.2.2.2.2.1 rfl))) rfl <| ad_ 1 rfl ?_; refine deE (Ctx.allocOp (cs := [.int .i64 0]) hc V3 rfl) rfl rfl ?_; clear hc; rintro _ w37 ⟨b35, rfl, hc⟩; refine ⟨fun j hj hb => ⟨fun _ => hc.cell (k := 2) rfl rfl rfl, fun _ => hc.cell (k := 1) rfl rfl rfl, fun _ => hc.cell (k := 1) rfl rfl rfl, fun _ => hc.cell (k := 1) rfl rfl rfl, fun _ => hc.cell (k := 1) rfl rfl rfl, trivial⟩, ?_⟩; refine deE (Ctx.allocOp (cs := [.int .i64 0]) hc V3 rfl) rfl rfl ?_; clear hc; rintro _ w40 ⟨b38, rfl, hc⟩; refine ⟨fun j hj hb => ⟨fun _ => hc.cell (k := 3) rfl rfl rfl, fun _ => hc.cell (k := 2) rfl rfl rfl, fun _ => hc.cell (k := 2) rfl rfl rfl, fun _ => hc.cell (k := 2) rfl rfl rfl, fun _ => hc.cell (k := 2) rfl rfl rfl, trivial⟩, ?_⟩; refine deE (Ctx.allocOp (cs := [.int .i64 0]) hc V3 rfl) rfl rfl ?_; clear hc; rintro _ w43 ⟨b41, rfl, hc⟩; refine ⟨fun j hj hb => ⟨fun _ => hc.cell (k := 4) rfl rfl rfl, fun _ => hc.cell (k := 3) rfl rfl rfl, fun _ => hc.cell (k := 3) rfl rfl rfl, fun _ => hc.cell (k := 3) rfl rfl rfl, fun _ => hc.cell (k := 3) rfl rfl rfl, trivial⟩, ?_⟩; refine pod hc 2 Z3 ?_; clear hc; rintro w44 hc; refine ⟨fun j hj hb => ⟨fun e => nja hj e, fun _ => hc.cell (k := 3) rfl rfl rfl, fun _ => hc.cell (k := 3) rfl rfl rfl, fun _ => hc.cell (k := 3) rfl rfl rfl, fun _ => hc.cell (k := 3) rfl rfl rfl, trivial⟩, ?_⟩; refine pod hc 1 Z3 ?_; clear hc; rintro w45 hc; refine ⟨fun j hj hb => ⟨fun e => nja hj e, fun e => nja hj e, fun e => nja hj e, fun _ => hc.cell (k := 3) rfl rfl rfl, fun _ => hc.cell (k := 3) rfl rfl rfl, trivial⟩, ?_⟩; refine pod hc 0 Z3 ?_; clear hc; rintro w46 hc; refine ⟨fun j hj hb => ⟨fun e => nja hj e, fun e => nja hj e, fun e => nja hj e, fun e => nja hj e, fun e => nja hj e, trivial⟩, ?_⟩; refine dn (qn ?_); replace hc := hc.m [7, 2, 4, 14, 14, 14, 14, 14]; exact ⟨⟨b35, b38, b41, rfl, hp, hc⟩, (kl rfl kb)⟩
             · replace hc := hc.drew; refine RGleaf [0, 1, 2, 3, 4, 5, 6, 7, 8, 9, 10, 11, 12, 13, 14, 15, 16, 17, 19, 18, 20, 21, 22] (fun j w' => (j = 2 → w'.cell? ⟨b17, 1, none⟩ = some (.int .i64 x0.Shape.Width)) ∧ (j = 5 → w'.cell? ⟨b22, 3, none⟩ = some (.int .i64 r20.1.heads.c1)) ∧ (j = 8 → w'.cell? ⟨b22, 2, none⟩ = some (.int .i64 r20.1.heads.c0)) ∧ (j = 12 → w'.cell? ⟨b22, 5, none⟩ = some (.int .i64 r20.1.inner.c1)) ∧ (j = 15 → w'.cell? ⟨b22, 4, none⟩ = some (.int .i64 r20.1.inner.c0)) ∧ True) [0, 1, 3, 0, 8, 24, 0, 64, 192, 504, 0, 1024, 3072, 0, 8192, 24576, 64512, 0, 131072, 393216, 917511, 1967103, 4194303] 0 0 (by kernel_rfl) (by kernel_rfl) (fun j hj => ⟨fun _ => hc.cell (k := 1) rfl rfl rfl, fun _ => hc.cell (k := 0) rfl rfl rfl, fun _ => hc.cell (k := 0) rfl rfl rfl, fun _ => hc.cell (k := 0) rfl rfl rfl, fun _ => hc.cell (k := 0) rfl rfl rfl, trivial⟩) ?_; generalize hw : World.drew w28 = w47 at *; clear hw; refine ds (v := pt b17 0) rfl (fun w' hF => fax 0 rfl U41 rfl Z29 rfl rfl rfl) rfl <| ds (v := pt b17 1) rfl (fun w' hF => fax 1 rfl U29 rfl Z3 rfl rfl rfl) rfl <| ds rfl (fun w' hF => ld rfl G3 ((hF.1 rfl))) rfl <| ds (v := pt b22 2) rfl (fun w' hF => fax 2 rfl U196 rfl Z89 rfl rfl rfl) rfl <| ds (v := pt b22 3) rfl (fun w' hF => ixa (i := 1) rfl rfl U89 Z3 (by decide) (by decide) (by decide) (by decide) rfl) rfl <| ds rfl (fun w' hF => ld rfl G3 ((hF.2.1 rfl))) rfl <| ds (v := pt b22 2) rfl (fun w' hF => fax 2 rfl U196 rfl Z89 rfl rfl rfl) rfl <| ds (v := pt b22 2) rfl (fun w' hF => ixa (i := 0) rfl rfl U89 Z3 (by decide) (by decide) (by decide) (by decide) rfl) rfl <| ds rfl (fun w' hF => ld rfl G3 ((hF.2.2.1 rfl))) rfl <| ad_ 1 rfl <| ds (v := pt b22 4) rfl (fun w' hF => fax 4 rfl U196 rfl Z89 rfl rfl rfl) rfl <| ds (v := pt b22 5) rfl (fun w' hF => ixa (i := 1) rfl rfl U89 Z3 (by decide) (by decide) (by decide) (by decide) rfl) rfl <| ds rfl (fun w' hF => ld rfl G3 ((hF.2.2.2.1 rfl))) rfl <| ds (v := pt b22 4) rfl (fun w' hF => fax 4 rfl U196 rfl Z89 rfl rfl rfl) rfl <| ds (v := pt b22 4) rfl (fun w' hF => ixa (i := 0) rfl rfl U89 Z3 (by decide) (by decide) (by decide) (by decide) rfl) rfl <| ds rfl (fun w' hF => ld rfl G3 ((hF.2.2.2.2.1 rfl))) rfl <| ad_ 1 rfl ?_; refine deE (Ctx.allocOp (cs := [.int .i64 0]) hc V3 rfl) rfl rfl ?_; clear hc; rintro _ w50 ⟨b48, rfl, hc⟩; refine ⟨fun j hj hb => ⟨fun _ => hc.cell (k := 2) rfl rfl rfl, fun _ => hc.cell (k := 1) rfl rfl rfl, fun _ => hc.cell (k := 1) rfl rfl rfl, fun _ => hc.cell (k := 1) rfl rfl rfl, fun _ => hc.cell (k := 1) rfl rfl rfl, trivial⟩, ?_⟩; refine deE (Ctx.allocOp (cs := [.int .i64 0]) hc V3 rfl) rfl rfl ?_; clear hc; rintro _ w53 ⟨b51, rfl, hc⟩; refine ⟨fun j hj hb => ⟨fun _ => hc.cell (k := 3) rfl rfl rfl, fun _ => hc.cell (k := 2) rfl rfl rfl, fun _ => hc.cell (k := 2) rfl rfl rfl, fun _ => hc.cell (k := 2) rfl rfl rfl, fun _ => hc.cell (k := 2) rfl rfl rfl, trivial⟩, ?_⟩; refine deE (Ctx.allocOp (cs := [.int .i64 0]) hc V3 rfl) rfl rfl ?_; clear hc; rintro _ w56 ⟨b54, rfl, hc⟩; refine ⟨fun j hj hb => ⟨fun _ => hc.cell (k := 4) rfl rfl rfl, fun _ => hc.cell (k := 3) rfl rfl rfl, fun _ => hc.cell (k := 3) rfl rfl rfl, fun _ => hc.cell (k := 3) rfl rfl rfl, fun _ => hc.cell (k := 3) rfl rfl rfl, trivial⟩, ?_⟩; refine pod hc 2 Z3 ?_; clear hc; rintro w57 hc; refine ⟨fun j hj hb => ⟨fun e => nja hj e, fun _ => hc.cell (k := 3) rfl rfl rfl, fun _ => hc.cell (k := 3) rfl rfl rfl, fun _ => hc.cell (k := 3) rfl rfl rfl, fun _ => hc.cell (k := 3) rfl rfl rfl, trivial⟩, ?_⟩; refine pod hc 0 Z3 ?_; clear hc; rintro w58 hc; refine ⟨fun j hj hb => ⟨fun e => nja hj e, fun e => nja hj e, fun e => nja hj e, fun _ => hc.cell (k := 3) rfl rfl rfl, fun _ => hc.cell (k := 3) rfl rfl rfl, trivial⟩, ?_⟩; refine pod hc 1 Z3 ?_; clear hc; rintro w59 hc; refine ⟨fun j hj hb => ⟨fun e => nja hj e, fun e => nja hj e, fun e => nja hj e, fun e => nja hj e, fun e => nja hj e, trivial⟩, ?_⟩; refine dn (qn ?_); replace hc := hc.m [7, 2, 2, 4, 14, 14, 14, 14, 14]; exact ⟨⟨b48, b54, b51, rfl, hp, hc⟩, (kl rfl kb)⟩
           · replace hc := hc.drew; refine RGleaf [0, 1, 2, 3, 4, 5, 6, 7, 8, 9, 10, 11, 12, 13, 14, 15, 16, 19, 17, 18, 20, 21, 22] (fun j w' => (j = 2 → w'.cell? ⟨b17, 1, none⟩ = some (.int .i64 x0.Shape.Width)) ∧ (j = 5 → w'.cell? ⟨b22, 3, none⟩ = some (.int .i64 r20.1.heads.c1)) ∧ (j = 8 → w'.cell? ⟨b22, 2, none⟩ = some (.int .i64 r20.1.heads.c0)) ∧ (j = 12 → w'.cell? ⟨b22, 5, none⟩ = some (.int .i64 r20.1.inner.c1)) ∧ (j = 15 → w'.cell? ⟨b22, 4, none⟩ = some (.int .i64 r20.1.inner.c0)) ∧ True) [0, 1, 3, 0, 8, 24, 0, 64, 192, 504, 0, 1024, 3072, 0, 8192, 24576, 64512, 0, 131072, 393216, 917511, 1967103, 4194303] 0 0 (by kernel_rfl) (by kernel_rfl) (fun j hj => ⟨fun _ => hc.cell (k := 1) rfl rfl rfl, fun _ => hc.cell (k := 0) rfl rfl rfl, fun _ => hc.cell (k := 0) rfl rfl rfl, fun _ => hc.cell (k := 0) rfl rfl rfl, fun _ => hc.cell (k := 0) rfl rfl rfl, trivial⟩) ?_; generalize hw : World.drew w28 = w60 at *; clear hw; refine ds (v := pt b17 0) rfl (fun w' hF => fax 0 rfl U41 rfl Z29 rfl rfl rfl) rfl <| ds (v := pt b17 1) rfl (fun w' hF => fax 1 rfl U29 rfl Z3 rfl rfl rfl) rfl <| ds rfl (fun w' hF => ld rfl G3 ((hF.1 rfl))) rfl <| ds (v := pt b22 2) rfl (fun w' hF => fax 2 rfl U196 rfl Z89 rfl rfl rfl) rfl <| ds (v := pt b22 3) rfl (fun w' hF => ixa (i := 1) rfl rfl U89 Z3 (by decide) (by decide) (by decide) (by decide) rfl) rfl <| ds rfl (fun w' hF => ld rfl G3 ((hF.2.1 rfl))) rfl <| ds (v := pt b22 2) rfl (fun w' hF => fax 2 rfl U196 rfl Z89 rfl rfl rfl) rfl <| ds (v := pt b22 2) rfl (fun w' hF => ixa (i := 0) rfl rfl U89 Z3 (by decide) (by decide) (by decide) (by decide) rfl) rfl <| ds rfl (fun w' hF => ld rfl G3 ((hF.2.2.1 rfl))) rfl <| ad_ 1 rfl <| ds (v := pt b22 4) rfl (fun w' hF => fax 4 rfl U196 rfl Z89 rfl rfl rfl) rfl <| ds (v := pt b22 5) rfl (fun w' hF => ixa (i := 1) rfl rfl U89 Z3 (by decide) (by decide) (by decide) (by decide) rfl) rfl <| ds rfl (fun w' hF => ld rfl G3 ((hF.2.2.2.1 rfl))) rfl <| ds (v := pt b22 4) rfl (fun w' hF => fax 4 rfl U196 rfl Z89 rfl rfl rfl) rfl <| ds (v := pt b22 4) rfl (fun w' hF => ixa (i := 0) rfl rfl U89 Z3 (by decide) (by decide) (by decide) (by decide) rfl) rfl <| ds rfl (fun w' hF => ld rfl G3 ((hF.2.2.2.2.1 rfl))) rfl <| ad_ 1 rfl ?_; refine deE (Ctx.allocOp (cs := [.int .i64 0]) hc V3 rfl) rfl rfl ?_; clear hc; rintro _ w63 ⟨b61, rfl, hc⟩; refine ⟨fun j hj hb => ⟨fun _ => hc.cell (k := 2) rfl rfl rfl, fun _ => hc.cell (k := 1) rfl rfl rfl, fun _ => hc.cell (k := 1) rfl rfl rfl, fun _ => hc.cell (k := 1) rfl rfl rfl, fun _ => hc.cell (k := 1) rfl rfl rfl, trivial⟩, ?_⟩; refine deE (Ctx.allocOp (cs := [.int .i64 0]) hc V3 rfl) rfl rfl ?_; clear hc; rintro _ w66 ⟨b64, rfl, hc⟩; refine ⟨fun j hj hb => ⟨fun _ => hc.cell (k := 3) rfl rfl rfl, fun _ => hc.cell (k := 2) rfl rfl rfl, fun _ => hc.cell (k := 2) rfl rfl rfl, fun _ => hc.cell (k := 2) rfl rfl rfl, fun _ => hc.cell (k := 2) rfl rfl rfl, trivial⟩, ?_⟩; refine deE (Ctx.allocOp (cs := [.int .i64 0]) hc V3 rfl) rfl rfl ?_; clear hc; rintro _ w69 ⟨b67, rfl, hc⟩; refine ⟨fun j hj hb => ⟨fun _ => hc.cell (k := 4) rfl rfl rfl, fun _ => hc.cell (k := 3) rfl rfl rfl, fun _ => hc.cell (k := 3) rfl rfl rfl, fun _ => hc.cell (k := 3) rfl rfl rfl, fun _ => hc.cell (k := 3) rfl rfl rfl, trivial⟩, ?_⟩; refine pod hc 1 Z3 ?_; clear hc; rintro w70 hc; refine ⟨fun j hj hb => ⟨fun e => nja hj e, fun _ => hc.cell (k := 3) rfl rfl rfl, fun _ => hc.cell (k := 3) rfl rfl rfl, fun _ => hc.cell (k := 3) rfl rfl rfl, fun _ => hc.cell (k := 3) rfl rfl rfl, trivial⟩, ?_⟩; refine pod hc 0 Z3 ?_; clear hc; rintro w71 hc; refine ⟨fun j hj hb => ⟨fun e => nja hj e, fun e => nja hj e, fun e => nja hj e, fun _ => hc.cell (k := 3) rfl rfl rfl, fun _ => hc.cell (k := 3) rfl rfl rfl, trivial⟩, ?_⟩; refine pod hc 2 Z3 ?_; clear hc; rintro w72 hc; refine ⟨fun j hj hb => ⟨fun e => nja hj e, fun e => nja hj e, fun e => nja hj e, fun e => nja hj e, fun e => nja hj e, trivial⟩, ?_⟩; refine dn (qn ?_); replace hc := hc.m [7, 4, 2, 4, 14, 14, 14, 14, 14]; exact ⟨⟨b64, b67, b61, rfl, hp, hc⟩, (kl rfl kb)⟩
         · refine RGsplit 17 19 rfl ?_ ?_
           · replace hc := hc.drew; refine RGleaf [0, 1, 2, 3, 4, 5, 6, 7, 8, 9, 10, 11, 12, 13, 14, 15, 16, 18, 17, 19, 20, 21, 22] (fun j w' => (j = 2 → w'.cell? ⟨b17, 1, none⟩ = some (.int .i64 x0.Shape.Width)) ∧ (j = 5 → w'.cell? ⟨b22, 3, none⟩ = some (.int .i64 r20.1.heads.c1)) ∧ (j = 8 → w'.cell? ⟨b22, 2, none⟩ = some (.int .i64 r20.1.heads.c0)) ∧ (j = 12 → w'.cell? ⟨b22, 5, none⟩ = some (.int .i64 r20.1.inner.c1)) ∧ (j = 15 → w'.cell? ⟨b22, 4, none⟩ = some (.int .i64 r20.1.inner.c0)) ∧ True) [0, 1, 3, 0, 8, 24, 0, 64, 192, 504, 0, 1024, 3072, 0, 8192, 24576, 64512, 0, 131072, 393216, 917511, 1967103, 4194303] 0 0 (by kernel_rfl) (by kernel_rfl) (fun j hj => ⟨fun _ => hc.cell (k := 1) rfl rfl rfl, fun _ => hc.cell (k := 0) rfl rfl rfl, fun _ => hc.cell (k := 0) rfl rfl rfl, fun _ => hc.cell (k := 0) rfl rfl rfl, fun _ => hc.cell (k := 0) rfl rfl rfl, trivial⟩) ?_; generalize hw : World.drew w28 = w73 at *; clear hw; refine ds (v := pt b17 0) rfl (fun w' hF => fax 0 rfl U41 rfl Z29 rfl rfl rfl) rfl <| ds (v := pt b17 1) rfl (fun w' hF => fax 1 rfl U29 rfl Z3 rfl rfl rfl) rfl <| ds rfl (fun w' hF => ld rfl G3 ((hF.1 rfl))) rfl <| ds (v := pt b22 2) rfl (fun w' hF => fax 2 rfl U196 rfl Z89 rfl rfl rfl) rfl <| ds (v := pt b22 3) rfl (fun w' hF => ixa (i := 1) rfl rfl U89 Z3 (by decide) (by decide) (by decide) (by decide) rfl) rfl <| ds rfl (fun w' hF => ld rfl G3 ((hF.2.1 rfl))) rfl <| ds (v := pt b22 2) rfl (fun w' hF => fax 2 rfl U196 rfl Z89 rfl rfl rfl) rfl <| ds (v := pt b22 2) rfl (fun w' hF => ixa (i := 0) rfl rfl U89 Z3 (by decide) (by decide) (by decide) (by decide) rfl) rfl <| ds rfl (fun w' hF => ld rfl G3 ((hF.2.2.1 rfl))) rfl <| ad_ 1 rfl <| ds (v := pt b22 4) rfl (fun w' hF => fax 4 rfl U196 rfl Z89 rfl rfl rfl) rfl <| ds (v := pt b22 5) rfl (fun w' hF => ixa (i := 1) rfl rfl U89 Z3 (by decide) (by decide) (by decide) (by decide) rfl) rfl <| ds rfl (fun w' hF => ld rfl G3 ((hF.2.2.2.1 rfl))) rfl <| ds (v := pt b22 4) rfl (fun w' hF => fax 4 rfl U196 rfl Z89 rfl rfl rfl) rfl <| ds (v := pt b22 4) rfl (fun w' hF => ixa (i := 0) rfl rfl U89 Z3 (by decide) (by decide) (by decide) (by decide) rfl) rfl <| ds rfl (fun w' hF => ld rfl G3 ((hF.2.2.2.2.1 rfl))) rfl <| ad_ 1 rfl ?_; refine deE (Ctx.allocOp (cs := [.int .i64 0]) hc V3 rfl) rfl rfl ?_; clear hc; rintro _ w76 ⟨b74, rfl, hc⟩; refine ⟨fun j hj hb => ⟨fun _ => hc.cell (k := 2) rfl rfl rfl, fun _ => hc.cell (k := 1) rfl rfl rfl, fun _ => hc.cell (k := 1) rfl rfl rfl, fun _ => hc.cell (k := 1) rfl rfl rfl, fun _ => hc.cell (k := 1) rfl rfl rfl, trivial⟩, ?_⟩; refine deE (Ctx.allocOp (cs := [.int .i64 0]) hc V3 rfl) rfl rfl ?_; clear hc; rintro _ w79 ⟨b77, rfl, hc⟩; refine ⟨fun j hj hb => ⟨fun _ => hc.cell (k := 3) rfl rfl rfl, fun _ => hc.cell (k := 2) rfl rfl rfl, fun _ => hc.cell (k := 2) rfl rfl rfl, fun _ => hc.cell (k := 2) rfl rfl rfl, fun _ => hc.cell (k := 2) rfl rfl rfl, trivial⟩, ?_⟩; refine deE (Ctx.allocOp (cs := [.int .i64 0]) hc V3 rfl) rfl rfl ?_; clear hc; rintro _ w82 ⟨b80, rfl, hc⟩; refine ⟨fun j hj hb => ⟨fun _ => hc.cell (k := 4) rfl rfl rfl, fun _ => hc.cell (k := 3) rfl rfl rfl, fun _ => hc.cell (k := 3) rfl rfl rfl, fun _ => hc.cell (k := 3) rfl rfl rfl, fun _ => hc.cell (k := 3) rfl rfl rfl, trivial⟩, ?_⟩; refine pod hc 1 Z3 ?_; clear hc; rintro w83 hc; refine ⟨fun j hj hb => ⟨fun e => nja hj e, fun _ => hc.cell (k := 3) rfl rfl rfl, fun _ => hc.cell (k := 3) rfl rfl rfl, fun _ => hc.cell (k := 3) rfl rfl rfl, fun _ => hc.cell (k := 3) rfl rfl rfl, trivial⟩, ?_⟩; refine pod hc 2 Z3 ?_; clear hc; rintro w84 hc; refine ⟨fun j hj hb => ⟨fun e => nja hj e, fun e => nja hj e, fun e => nja hj e, fun _ => hc.cell (k := 3) rfl rfl rfl, fun _ => hc.cell (k := 3) rfl rfl rfl, trivial⟩, ?_⟩; refine pod hc 0 Z3 ?_; clear hc; rintro w85 hc; refine ⟨fun j hj hb => ⟨fun e => nja hj e, fun e => nja hj e, fun e => nja hj e, fun e => nja hj e, fun e => nja hj e, trivial⟩, ?_⟩; refine dn (qn ?_); replace hc := hc.m [7, 4, 4, 14, 14, 14, 14, 14]; exact ⟨⟨b77, b74, b80, rfl, hp, hc⟩, (kl rfl kb)⟩
           · refine RGsplit 18 19 rfl ?_ ?_
             · replace hc := hc.drew; refine RGleaf [0, 1, 2, 3, 4, 5, 6, 7, 8, 9, 10, 11, 12, 13, 14, 15, 16, 18, 19, 17, 20, 21, 22] (fun j w' => (j = 2 → w'.cell? ⟨b17, 1, none⟩ = some (.int .i64 x0.Shape.Width)) ∧ (j = 5 → w'.cell? ⟨b22, 3, none⟩ = some (.int .i64 r20.1.heads.c1)) ∧ (j = 8 → w'.cell? ⟨b22, 2, none⟩ = some (.int .i64 r20.1.heads.c0)) ∧ (j = 12 → w'.cell? ⟨b22, 5, none⟩ = some (.int .i64 r20.1.inner.c1)) ∧ (j = 15 → w'.cell? ⟨b22, 4, none⟩ = some (.int .i64 r20.1.inner.c0)) ∧ True) [0, 1, 3, 0, 8, 24, 0, 64, 192, 504, 0, 1024, 3072, 0, 8192, 24576, 64512, 0, 131072, 393216, 917511, 1967103, 4194303] 0 0 (by kernel_rfl) (by kernel_rfl) (fun j hj => ⟨fun _ => hc.cell (k := 1) rfl rfl rfl, fun _ => hc.cell (k := 0) rfl rfl rfl, fun _ => hc.cell (k := 0) rfl rfl rfl, fun _ => hc.cell (k := 0) rfl rfl rfl, fun _ => hc.cell (k := 0) rfl rfl rfl, trivial⟩) ?_; generalize hw : World.drew w28 = w86 at *; clear hw; refine ds (v := pt b17 0) rfl (fun w' hF => fax 0 rfl U41 rfl Z29 rfl rfl rfl) rfl <| ds (v := pt b17 1) rfl (fun w' hF => fax 1 rfl U29 rfl Z3 rfl rfl rfl) rfl <| ds rfl (fun w' hF => ld rfl G3 ((hF.1 rfl))) rfl <| ds (v := pt b22 2) rfl (fun w' hF => fax 2 rfl U196 rfl Z89 rfl rfl rfl) rfl <| ds (v := pt b22 3) rfl (fun w' hF => ixa (i := 1) rfl rfl U89 Z3 (by decide) (by decide) (by decide) (by decide) rfl) rfl <| ds rfl (fun w' hF => ld rfl G3 ((hF.2.1 rfl))) rfl <| ds (v := pt b22 2) rfl (fun w' hF => fax 2 rfl U196 rfl Z89 rfl rfl rfl) rfl <| ds (v := pt b22 2) rfl (fun w' hF => ixa (i := 0) rfl rfl U89 Z3 (by decide) (by decide) (by decide) (by decide) rfl) rfl <| ds rfl (fun w' hF => ld rfl G3 ((hF.2.2.1 rfl))) rfl <| ad_ 1 rfl <| ds (v := pt b22 4) rfl (fun w' hF => fax 4 rfl U196 rfl Z89 rfl rfl rfl) rfl <| ds (v := pt b22 5) rfl (fun w' hF => ixa (i := 1) rfl rfl U89 Z3 (by decide) (by decide) (by decide) (by decide) rfl) rfl <| ds rfl (fun w' hF => ld rfl G3 ((hF.2.2.2.1 rfl))) rfl <| ds (v := pt b22 4) rfl (fun w' hF => fax 4 rfl U196 rfl Z89 rfl rfl rfl) rfl <| ds (v := pt b22 4) rfl (fun w' hF => ixa (i := 0) rfl rfl U89 Z3 (by decide) (by decide) (by decide) (by decide) rfl) rfl <| ds rfl (fun w' hF => ld rfl G3 ((hF.2.2.2.2.1 rfl))) rfl <| ad_ 1 rfl ?_; refine deE (Ctx.allocOp (cs := [.int .i64 0]) hc V3 rfl) rfl rfl ?_; clear hc; rintro _ w89 ⟨b87, rfl, hc⟩; refine ⟨fun j hj hb => ⟨fun _ => hc.cell (k := 2) rfl rfl rfl, fun _ => hc.cell (k := 1) rfl rfl rfl, fun _ => hc.cell (k := 1) rfl rfl rfl, fun _ => hc.cell (k := 1) rfl rfl rfl, fun _ => hc.cell (k := 1) rfl rfl rfl, trivial⟩, ?_⟩; refine deE (Ctx.allocOp (cs := [.int .i64 0]) hc V3 rfl) rfl rfl ?_; clear hc; rintro _ w92 ⟨b90, rfl, hc⟩; refine ⟨fun j hj hb => ⟨fun _ => hc.cell (k := 3) rfl rfl rfl, fun _ => hc.cell (k := 2) rfl rfl rfl, fun _ => hc.cell (k := 2) rfl rfl rfl, fun _ => hc.cell (k := 2) rfl rfl rfl, fun _ => hc.cell (k := 2) rfl rfl rfl, trivial⟩, ?_⟩; refine deE (Ctx.allocOp (cs := [.int .i64 0]) hc V3 rfl) rfl rfl ?_; clear hc; rintro _ w95 ⟨b93, rfl, hc⟩; refine ⟨fun j hj hb => ⟨fun _ => hc.cell (k := 4) rfl rfl rfl, fun _ => hc.cell (k := 3) rfl rfl rfl, fun _ => hc.cell (k := 3) rfl rfl rfl, fun _ => hc.cell (k := 3) rfl rfl rfl, fun _ => hc.cell (k := 3) rfl rfl rfl, trivial⟩, ?_⟩; refine pod hc 0 Z3 ?_; clear hc; rintro w96 hc; refine ⟨fun j hj hb => ⟨fun e => nja hj e, fun _ => hc.cell (k := 3) rfl rfl rfl, fun _ => hc.cell (k := 3) rfl rfl rfl, fun _ => hc.cell (k := 3) rfl rfl rfl, fun _ => hc.cell (k := 3) rfl rfl rfl, trivial⟩, ?_⟩; refine pod hc 2 Z3 ?_; clear hc; rintro w97 hc; refine ⟨fun j hj hb => ⟨fun e => nja hj e, fun e => nja hj e, fun e => nja hj e, fun _ => hc.cell (k := 3) rfl rfl rfl, fun _ => hc.cell (k := 3) rfl rfl rfl, trivial⟩, ?_⟩; refine pod hc 1 Z3 ?_; clear hc; rintro w98 hc; refine ⟨fun j hj hb => ⟨fun e => nja hj e, fun e => nja hj e, fun e => nja hj e, fun e => nja hj e, fun e => nja hj e, trivial⟩, ?_⟩; refine dn (qn ?_); replace hc := hc.m [7, 2, 4, 4, 14, 14, 14, 14, 14]; exact ⟨⟨b93, b87, b90, rfl, hp, hc⟩, (kl rfl kb)⟩
             · replace hc := hc.drew; refine RGleaf [0, 1, 2, 3, 4, 5, 6, 7, 8, 9, 10, 11, 12, 13, 14, 15, 16, 19, 18, 17, 20, 21, 22] (fun j w' => (j = 2 → w'.cell? ⟨b17, 1, none⟩ = some (.int .i64 x0.Shape.Width)) ∧ (j = 5 → w'.cell? ⟨b22, 3, none⟩ = some (.int .i64 r20.1.heads.c1)) ∧ (j = 8 → w'.cell? ⟨b22, 2, none⟩ = some (.int .i64 r20.1.heads.c0)) ∧ (j = 12 → w'.cell? ⟨b22, 5, none⟩ = some (.int .i64 r20.1.inner.c1)) ∧ (j = 15 → w'.cell? ⟨b22, 4, none⟩ = some (.int .i64 r20.1.inner.c0)) ∧ True) [0, 1, 3, 0, 8, 24, 0, 64, 192, 504, 0, 1024, 3072, 0, 8192, 24576, 64512, 0, 131072, 393216, 917511, 1967103, 4194303] 0 0 (by kernel_rfl) (by kernel_rfl) (fun j hj => ⟨fun _ => hc.cell (k := 1) rfl rfl rfl, fun _ => hc.cell (k := 0) rfl rfl rfl, fun _ => hc.cell (k := 0) rfl rfl rfl, fun _ => hc.cell (k := 0) rfl rfl rfl, fun _ => hc.cell (k := 0) rfl rfl rfl, trivial⟩) ?_; generalize hw : World.drew w28 = w99 at *; clear hw; refine ds (v := pt b17 0) rfl (fun w' hF => fax 0 rfl U41 rfl Z29 rfl rfl rfl) rfl <| ds (v := pt b17 1) rfl (fun w' hF => fax 1 rfl U29 rfl Z3 rfl rfl rfl) rfl <| ds rfl (fun w' hF => ld rfl G3 ((hF.1 rfl))) rfl <| ds (v := pt b22 2) rfl (fun w' hF => fax 2 rfl U196 rfl Z89 rfl rfl rfl) rfl <| ds (v := pt b22 3) rfl (fun w' hF => ixa (i := 1) rfl rfl U89 Z3 (by decide) (by decide) (by decide) (by decide) rfl) rfl <| ds rfl (fun w' hF => ld rfl G3 ((hF.2.1 rfl))) rfl <| ds (v := pt b22 2) rfl (fun w' hF => fax 2 rfl U196 rfl Z89 rfl rfl rfl) rfl <| ds (v := pt b22 2) rfl (fun w' hF => ixa (i := 0) rfl rfl U89 Z3 (by decide) (by decide) (by decide) (by decide) rfl) rfl <| ds rfl (fun w' hF => ld rfl G3 ((hF.2.2.1 rfl))) rfl <| ad_ 1 rfl <| ds (v := pt b22 4) rfl (fun w' hF => fax 4 rfl U196 rfl Z89 rfl rfl rfl) rfl <| ds (v := pt b22 5) rfl (fun w' hF => ixa (i := 1) rfl rfl U89 Z3 (by decide) (by decide) (by decide) (by decide) rfl) rfl <| ds rfl (fun w' hF => ld rfl G3 ((hF.2.2.2.1 rfl))) rfl <| ds (v := pt b22 4) rfl (fun w' hF => fax 4 rfl U196 rfl Z89 rfl rfl rfl) rfl <| ds (v := pt b22 4) rfl (fun w' hF => ixa (i := 0) rfl rfl U89 Z3 (by decide) (by decide) (by decide) (by decide) rfl) rfl <| ds rfl (fun w' hF => ld rfl G3 ((hF.2.2.2.2.1 rfl))) rfl <| ad_ 1 rfl ?_; refine deE (Ctx.allocOp (cs := [.int .i64 0]) hc V3 rfl) rfl rfl ?_; clear hc; rintro _ w102 ⟨b100, rfl, hc⟩; refine ⟨fun j hj hb => ⟨fun _ => hc.cell (k := 2) rfl rfl rfl, fun _ => hc.cell (k := 1) rfl rfl rfl, fun _ => hc.cell (k := 1) rfl rfl rfl, fun _ => hc.cell (k := 1) rfl rfl rfl, fun _ => hc.cell (k := 1) rfl rfl rfl, trivial⟩, ?_⟩; refine deE (Ctx.allocOp (cs := [.int .i64 0]) hc V3 rfl) rfl rfl ?_; clear hc; rintro _ w105 ⟨b103, rfl, hc⟩; refine ⟨fun j hj hb => ⟨fun _ => hc.cell (k := 3) rfl rfl rfl, fun _ => hc.cell (k := 2) rfl rfl rfl, fun _ => hc.cell (k := 2) rfl rfl rfl, fun _ => hc.cell (k := 2) rfl rfl rfl, fun _ => hc.cell (k := 2) rfl rfl rfl, trivial⟩, ?_⟩; refine deE (Ctx.allocOp (cs := [.int .i64 0]) hc V3 rfl) rfl rfl ?_; clear hc; rintro _ w108 ⟨b106, rfl, hc⟩; refine ⟨fun j hj hb => ⟨fun _ => hc.cell (k := 4) rfl rfl rfl, fun _ => hc.cell (k := 3) rfl rfl rfl, fun _ => hc.cell (k := 3) rfl rfl rfl, fun _ => hc.cell (k := 3) rfl rfl rfl, fun _ => hc.cell (k := 3) rfl rfl rfl, trivial⟩, ?_⟩; refine pod hc 0 Z3 ?_; clear hc; rintro w109 hc; refine ⟨fun j hj hb => ⟨fun e => nja hj e, fun _ => hc.cell (k := 3) rfl rfl rfl, fun _ => hc.cell (k := 3) rfl rfl rfl, fun _ => hc.cell (k := 3) rfl rfl rfl, fun _ => hc.cell (k := 3) rfl rfl rfl, trivial⟩, ?_⟩; refine pod hc 1 Z3 ?_; clear hc; rintro w110 hc; refine ⟨fun j hj hb => ⟨fun e => nja hj e, fun e => nja hj e, fun e => nja hj e, fun _ => hc.cell (k := 3) rfl rfl rfl, fun _ => hc.cell (k := 3) rfl rfl rfl, trivial⟩, ?_⟩; refine pod hc 2 Z3 ?_; clear hc; rintro w111 hc; refine ⟨fun j hj hb => ⟨fun e => nja hj e, fun e => nja hj e, fun e => nja hj e, fun e => nja hj e, fun e => nja hj e, trivial⟩, ?_⟩; refine dn (qn ?_); replace hc := hc.m [7, 4, 4, 4, 14, 14, 14, 14, 14]; exact ⟨⟨b106, b103, b100, rfl, hp, hc⟩, (kl rfl kb)⟩
       · clear hp hc; intro vs u w112 hJ; obtain ⟨b31, b32, b33, rfl, hp, hc⟩ := hJ; unfold part_wrong.J1 at hp; refine Wseq (Wreg ?_); refine fq 13 U41 Z33 G33 hc 0 ?_; refine sz (v := .func (.func 120) #[] #[pt b31 0, pt b32 0, pt b33 0]) (mkf rfl rfl) <| rc (cl C119 rfl rfl) rfl ?_; refine Center (args := [.slice a4 x0.Blocks.length q6, .func (.func 120) #[] #[pt b31 0, pt b32 0, pt b33 0]]) (l := [(0, .slice a4 x0.Blocks.length q6), (1, .func (.func 120) #[] #[pt b31 0, pt b32 0, pt b33 0])]) F119 M119 rfl rfl rfl ?_; refine Wseq (Wreg ?_); refine au 1 rfl <| rn (qn (Wseq (Wreg ?_))); refine au 2 rfl <| rc (cl C132 rfl rfl) rfl ?_; refine Center (args := [.slice a4 x0.Blocks.length q6, .func (.func 120) #[] #[pt b31 0, pt b32 0, pt b33 0]]) (l := [(0, .slice a4 x0.Blocks.length q6), (1, .func (.func 120) #[] #[pt b31 0, pt b32 0, pt b33 0])]) F132 M132 rfl rfl rfl ?_; refine Wseq (Wreg ?_); refine au 1 rfl <| rn (qn (Wseq (Wseq (Wreg ?_)))); refine au 1 rfl <| sz (ln rfl U33) <| au 1 rfl <| rn (qn (Wblk ?_)); refine Wloop (rg [4, 2, 8, 11]) [8] (fun m vs w' => ∃ j113 : Int, vs = [.int .i64 j113] ∧ part_wrong.L2 N x0 r20 m j113 = some r ∧ Ctx w' (B b17 (S_api_Shard.cz x0 a1 q3 a4 q6 a7 q9 a10 q12) 41 :: hR .i8 a1 q3 x0.Embed.V :: hS S_api_Block.pr a4 q6 x0.Blocks :: hR .i8 a7 q9 x0.Last :: hR .i8 a10 q12 x0.Head.V :: B b31 [.int .i64 x0.Shape.Width] 3 :: B b32 [.int .i64 (IntKind.i64.wrap (r20.1.heads.c1 - r20.1.heads.c0))] 3 :: B b33 [.int .i64 (IntKind.i64.wrap (r20.1.inner.c1 - r20.1.inner.c0))] 3 :: Fr)) N ?_ ?_
         · exact ⟨0, rfl, hp, hc⟩
         · clear hp hc; intro m vs u w114 hJ; obtain ⟨j113, rfl, hp, hc⟩ := hJ; rcases m with _ | m2
           · cases (show none = some r from hp)
           rw [part_wrong.L2] at hp; refine Wseq (Wreg ?_); refine au 1 rfl <| rn (qn (Wseq ?_)); refine Wif hp (fun _ h => ?_) fun _ h => ?_
           · replace hp := h; clear h; refine Wexit (qx (qx (be (qn (Wseq (Wreg ?_)))))); refine au 1 rfl <| rn (qn (Wret ?_)); refine f1 (v := .int .i64 (-1)) R132 M132 rfl ?_; refine ⟨_, rfl, ?_⟩; refine au 2 rfl <| rn (qn (Wret ?_)); refine f1 (v := .bool (decide ((-1) ≥ 0))) R119 M119 rfl ?_; refine ⟨_, rfl, ?_⟩; refine au 1 rfl <| rn (qn (Wret ?_)); replace hc := hc.m [15, 13, 11, 9, 7, 5, 3, 1]; obtain rfl := sj hp; exact fz R91 M91 (k _ hc)
           · replace hp := h; clear h; refine Wskip (qn (Wseq (Wblk (Wseq (Wreg ?_))))); refine au 2 rfl <| rn (qn (Wseq (Wreg ?_))); refine au 3 rfl ?_; replace hp := bind_some hp; obtain ⟨y116, hy116, hp⟩ := hp; obtain ⟨b119, o120, rfl, hi117, hi118⟩ := hc.ra 2 reads_ro hy116; refine sz (ixx rfl rfl U33 Z97 hi117 hi118 rfl) ?_; replace hc := Ctx.rdCell hc (k := 2) rfl rfl reads_ro hy116; obtain ⟨cs122, hc, hcell123⟩ := hc; replace hc := S_api_Block.op hc; obtain ⟨a125, q126, a127, q128, a129, q130, a131, q132, a133, q134, a135, q136, a137, q138, a139, q140, u124, hc⟩ := hc; subst u124; refine sz (v := .agg (S_api_Block.cz y116 a125 q126 a127 q128 a129 q130 a131 q132 a133 q134 a135 q136 a137 q138 a139 q140).toArray) (ldg rfl G97 Z97 rfl (elCells hcell123 0 (vs := (S_api_Block.cz y116 a125 q126 a127 q128 a129 q130 a131 q132 a133 q134 a135 q136 a137 q138 a139 q140)) rfl)) <| rc (cv (fi := []) (ca := [pt b31 0, pt b32 0, pt b33 0]) (vs := [.agg (S_api_Block.cz y116 a125 q126 a127 q128 a129 q130 a131 q132 a133 q134 a135 q136 a137 q138 a139 q140).toArray, pt b31 0, pt b32 0, pt b33 0]) C120 rfl rfl) rfl ?_; refine Center (args := [.agg (S_api_Block.cz y116 a125 q126 a127 q128 a129 q130 a131 q132 a133 q134 a135 q136 a137 q138 a139 q140).toArray, pt b31 0, pt b32 0, pt b33 0]) (l := [(0, .agg (S_api_Block.cz y116 a125 q126 a127 q128 a129 q130 a131 q132 a133 q134 a135 q136 a137 q138 a139 q140).toArray), (1, pt b31 0), (2, pt b32 0), (3, pt b33 0)]) F120 M120 rfl rfl rfl ?_; refine Wseq (Wreg ?_); refine rsE (Ctx.boxOp (cs := (S_api_Block.cz y116 a125 q126 a127 q128 a129 q130 a131 q132 a133 q134 a135 q136 a137 q138 a139 q140)) (v := .agg (S_api_Block.cz y116 a125 q126 a127 q128 a129 q130 a131 q132 a133 q134 a135 q136 a137 q138 a139 q140).toArray) hc rfl rfl) rfl ?_; clear hc; rintro _ w143 ⟨b141, rfl, hc⟩; refine au 1 rfl <| rn (qn (Wseq (Wreg ?_))); refine fq 0 U97 Z30 G30 hc 0 ?_; refine sz (ln rfl U30) <| sz (ld rfl G3 (Ctx.cell hc (k := 14) rfl rfl rfl)) <| au 2 rfl ?_; cases hb144 : (decide (((y116.First.length : Nat) : Int) ≠ x0.Shape.Width))
             · replace hp := gneg hp (of_decide_eq_false hb144); refine fq 1 U97 Z30 G30 hc 0 ?_; refine sz (ln rfl U30) <| sz (ld rfl G3 (Ctx.cell hc (k := 14) rfl rfl rfl)) <| au 3 rfl ?_; cases hb145 : (decide (((y116.Second.length : Nat) : Int) ≠ x0.Shape.Width))
               · replace hp := gneg hp (of_decide_eq_false hb145); refine sz (v := pt b141 2) (fax 2 rfl U97 rfl Z32 rfl rfl rfl) <| lg G32 Z32 hc 0 ?_; refine sz (ld rfl G3 (Ctx.cell hc (k := 15) rfl rfl rfl)) <| sz (ld rfl G3 (Ctx.cell hc (k := 14) rfl rfl rfl)) ?_; replace hc := hc.dz 3; replace hp := bind_some hp; obtain ⟨r146, hr146, hp⟩ := hp; refine kz C121 ?_; refine part_is_any (x0 := y116.Q) hc hr146 ?_; clear hc; intro w147 hc; cases hb148 : r146
                 · replace hp := gneg hp (by rw [hb148]; exact Bool.false_ne_true); subst hb148; refine au 3 rfl ?_; (iterate 6 refine r0 rfl ?_); refine au 2 rfl ?_; (iterate 6 refine r0 rfl ?_); refine au 2 rfl ?_; (iterate 6 refine r0 rfl ?_); refine au 2 rfl ?_; (iterate 6 refine r0 rfl ?_); refine au 2 rfl ?_; (iterate 6 refine r0 rfl ?_); refine au 2 rfl <| rn (qn (Wret ?_)); refine f1 (v := .bool true) R120 M120 rfl ?_; refine ⟨_, rfl, ?_⟩; refine rn (qn (Wct rfl (Wseq (Wreg ?_)))); refine au 2 rfl <| rn (qn (Wret (br (qr (qr (br (qr ?_))))))); refine f1 (v := .int .i64 j113) R132 M132 rfl ?_; refine ⟨_, rfl, ?_⟩; refine au 2 rfl <| rn (qn (Wret ?_)); refine f1 (v := .bool (decide (j113 ≥ 0))) R119 M119 rfl ?_; refine ⟨_, rfl, ?_⟩; refine au 1 rfl <| rn (qn (Wret ?_)); replace hc := hc.m [33, 31, 29, 27, 25, 23, 21, 19, 17, 15, 13, 11, 9, 7, 5, 3, 1]; obtain rfl := sj hp; exact fz R91 M91 (k _ hc)
                 · replace hp := gpos hp hb148; subst hb148; refine au 3 rfl <| sz (v := pt b141 5) (fax 5 rfl U97 rfl Z32 rfl rfl rfl) <| lg G32 Z32 hc 0 ?_; refine sz (ld rfl G3 (Ctx.cell hc (k := 15) rfl rfl rfl)) <| sz (ld rfl G3 (Ctx.cell hc (k := 14) rfl rfl rfl)) ?_; replace hc := hc.dz 4; replace hp := bind_some hp; obtain ⟨r149, hr149, hp⟩ := hp; refine kz C121 ?_; refine part_is_any (x0 := y116.K) hc hr149 ?_; clear hc; intro w150 hc; cases hb151 : r149
                   · replace hp := gneg hp (by rw [hb151]; exact Bool.false_ne_true); subst hb151; refine au 3 rfl ?_; (iterate 6 refine r0 rfl ?_); refine au 2 rfl ?_; (iterate 6 refine r0 rfl ?_); refine au 2 rfl ?_; (iterate 6 refine r0 rfl ?_); refine au 2 rfl ?_; (iterate 6 refine r0 rfl ?_); refine au 2 rfl <| rn (qn (Wret ?_)); refine f1 (v := .bool true) R120 M120 rfl ?_; refine ⟨_, rfl, ?_⟩; refine rn (qn (Wct rfl (Wseq (Wreg ?_)))); refine au 2 rfl <| rn (qn (Wret (br (qr (qr (br (qr ?_))))))); refine f1 (v := .int .i64 j113) R132 M132 rfl ?_; refine ⟨_, rfl, ?_⟩; refine au 2 rfl <| rn (qn (Wret ?_)); refine f1 (v := .bool (decide (j113 ≥ 0))) R119 M119 rfl ?_; refine ⟨_, rfl, ?_⟩; refine au 1 rfl <| rn (qn (Wret ?_)); replace hc := hc.m [33, 31, 29, 27, 25, 23, 21, 19, 17, 15, 13, 11, 9, 7, 5, 3, 1]; obtain rfl := sj hp; exact fz R91 M91 (k _ hc)
                   · replace hp := gpos hp hb151; subst hb151; refine au 3 rfl <| sz (v := pt b141 8) (fax 8 rfl U97 rfl Z32 rfl rfl rfl) <| lg G32 Z32 hc 0 ?_; refine sz (ld rfl G3 (Ctx.cell hc (k := 15) rfl rfl rfl)) <| sz (ld rfl G3 (Ctx.cell hc (k := 14) rfl rfl rfl)) ?_; replace hc := hc.dz 5; replace hp := bind_some hp; obtain ⟨r152, hr152, hp⟩ := hp; refine kz C121 ?_; refine part_is_any (x0 := y116.V) hc hr152 ?_; clear hc; intro w153 hc; cases hb154 : r152
                     · replace hp := gneg hp (by rw [hb154]; exact Bool.false_ne_true); subst hb154; refine au 3 rfl ?_; (iterate 6 refine r0 rfl ?_); refine au 2 rfl ?_; (iterate 6 refine r0 rfl ?_); refine au 2 rfl ?_; (iterate 6 refine r0 rfl ?_); refine au 2 rfl <| rn (qn (Wret ?_)); refine f1 (v := .bool true) R120 M120 rfl ?_; refine ⟨_, rfl, ?_⟩; refine rn (qn (Wct rfl (Wseq (Wreg ?_)))); refine au 2 rfl <| rn (qn (Wret (br (qr (qr (br (qr ?_))))))); refine f1 (v := .int .i64 j113) R132 M132 rfl ?_; refine ⟨_, rfl, ?_⟩; refine au 2 rfl <| rn (qn (Wret ?_)); refine f1 (v := .bool (decide (j113 ≥ 0))) R119 M119 rfl ?_; refine ⟨_, rfl, ?_⟩; refine au 1 rfl <| rn (qn (Wret ?_)); replace hc := hc.m [33, 31, 29, 27, 25, 23, 21, 19, 17, 15, 13, 11, 9, 7, 5, 3, 1]; obtain rfl := sj hp; exact fz R91 M91 (k _ hc)
                     · replace hp := gpos hp hb154; subst hb154; refine au 3 rfl <| sz (v := pt b141 11) (fax 11 rfl U97 rfl Z32 rfl rfl rfl) <| lg G32 Z32 hc 0 ?_; refine sz (ld rfl G3 (Ctx.cell hc (k := 14) rfl rfl rfl)) <| sz (ld rfl G3 (Ctx.cell hc (k := 15) rfl rfl rfl)) ?_; replace hc := hc.dz 6; replace hp := bind_some hp; obtain ⟨r155, hr155, hp⟩ := hp; refine kz C121 ?_; refine part_is_any (x0 := y116.O) hc hr155 ?_; clear hc; intro w156 hc; cases hb157 : r155
                       · replace hp := gneg hp (by rw [hb157]; exact Bool.false_ne_true); subst hb157; refine au 3 rfl ?_; (iterate 6 refine r0 rfl ?_); refine au 2 rfl ?_; (iterate 6 refine r0 rfl ?_); refine au 2 rfl <| rn (qn (Wret ?_)); refine f1 (v := .bool true) R120 M120 rfl ?_; refine ⟨_, rfl, ?_⟩; refine rn (qn (Wct rfl (Wseq (Wreg ?_)))); refine au 2 rfl <| rn (qn (Wret (br (qr (qr (br (qr ?_))))))); refine f1 (v := .int .i64 j113) R132 M132 rfl ?_; refine ⟨_, rfl, ?_⟩; refine au 2 rfl <| rn (qn (Wret ?_)); refine f1 (v := .bool (decide (j113 ≥ 0))) R119 M119 rfl ?_; refine ⟨_, rfl, ?_⟩; refine au 1 rfl <| rn (qn (Wret ?_)); replace hc := hc.m [33, 31, 29, 27, 25, 23, 21, 19, 17, 15, 13, 11, 9, 7, 5, 3, 1]; obtain rfl := sj hp; exact fz R91 M91 (k _ hc)
                       · replace hp := gpos hp hb157; subst hb157; refine au 3 rfl <| sz (v := pt b141 14) (fax 14 rfl U97 rfl Z32 rfl rfl rfl) <| lg G32 Z32 hc 0 ?_; refine sz (ld rfl G3 (Ctx.cell hc (k := 16) rfl rfl rfl)) <| sz (ld rfl G3 (Ctx.cell hc (k := 14) rfl rfl rfl)) ?_; replace hc := hc.dz 7; replace hp := bind_some hp; obtain ⟨r158, hr158, hp⟩ := hp; refine kz C121 ?_; refine part_is_any (x0 := y116.Up) hc hr158 ?_; clear hc; intro w159 hc; cases hb160 : r158
                         · replace hp := gneg hp (by rw [hb160]; exact Bool.false_ne_true); subst hb160; refine au 3 rfl ?_; (iterate 6 refine r0 rfl ?_); refine au 2 rfl <| rn (qn (Wret ?_)); refine f1 (v := .bool true) R120 M120 rfl ?_; refine ⟨_, rfl, ?_⟩; refine rn (qn (Wct rfl (Wseq (Wreg ?_)))); refine au 2 rfl <| rn (qn (Wret (br (qr (qr (br (qr ?_))))))); refine f1 (v := .int .i64 j113) R132 M132 rfl ?_; refine ⟨_, rfl, ?_⟩; refine au 2 rfl <| rn (qn (Wret ?_)); refine f1 (v := .bool (decide (j113 ≥ 0))) R119 M119 rfl ?_; refine ⟨_, rfl, ?_⟩; refine au 1 rfl <| rn (qn (Wret ?_)); replace hc := hc.m [33, 31, 29, 27, 25, 23, 21, 19, 17, 15, 13, 11, 9, 7, 5, 3, 1]; obtain rfl := sj hp; exact fz R91 M91 (k _ hc)
                         · replace hp := gpos hp hb160; subst hb160; refine au 3 rfl <| sz (v := pt b141 17) (fax 17 rfl U97 rfl Z32 rfl rfl rfl) <| lg G32 Z32 hc 0 ?_; refine sz (ld rfl G3 (Ctx.cell hc (k := 14) rfl rfl rfl)) <| sz (ld rfl G3 (Ctx.cell hc (k := 16) rfl rfl rfl)) ?_; replace hc := hc.dz 8; replace hp := bind_some hp; obtain ⟨r161, hr161, hp⟩ := hp; refine kz C121 ?_; refine part_is_any (x0 := y116.Down) hc hr161 ?_; clear hc; intro w162 hc; cases hb163 : r161
                           · replace hp := gneg hp (by rw [hb163]; exact Bool.false_ne_true); subst hb163; refine au 3 rfl <| rn (qn (Wret ?_)); refine f1 (v := .bool true) R120 M120 rfl ?_; refine ⟨_, rfl, ?_⟩; refine rn (qn (Wct rfl (Wseq (Wreg ?_)))); refine au 2 rfl <| rn (qn (Wret (br (qr (qr (br (qr ?_))))))); refine f1 (v := .int .i64 j113) R132 M132 rfl ?_; refine ⟨_, rfl, ?_⟩; refine au 2 rfl <| rn (qn (Wret ?_)); refine f1 (v := .bool (decide (j113 ≥ 0))) R119 M119 rfl ?_; refine ⟨_, rfl, ?_⟩; refine au 1 rfl <| rn (qn (Wret ?_)); replace hc := hc.m [33, 31, 29, 27, 25, 23, 21, 19, 17, 15, 13, 11, 9, 7, 5, 3, 1]; obtain rfl := sj hp; exact fz R91 M91 (k _ hc)
                           · replace hp := gpos hp hb163; subst hb163; refine au 3 rfl <| rn (qn (Wret ?_)); refine f1 (v := .bool false) R120 M120 rfl ?_; refine ⟨_, rfl, ?_⟩; refine rn (qn (Wcf rfl (Wskip (bn (qn (Wreg ?_)))))); refine au 2 rfl <| rn (qn ?_); replace hc := hc.m [17, 15, 13, 11, 9, 7, 5, 3, 1]; exact ⟨m2, Nat.lt_succ_self _, ⟨(IntKind.i64.wrap (j113 + 1)), rfl, hp, hc⟩, (kl rfl k0)⟩
               · replace hp := gpos hp (of_decide_eq_true hb145); (iterate 6 refine r0 rfl ?_); refine au 2 rfl ?_; (iterate 6 refine r0 rfl ?_); refine au 2 rfl ?_; (iterate 6 refine r0 rfl ?_); refine au 2 rfl ?_; (iterate 6 refine r0 rfl ?_); refine au 2 rfl ?_; (iterate 6 refine r0 rfl ?_); refine au 2 rfl ?_; (iterate 6 refine r0 rfl ?_); refine au 2 rfl <| rn (qn (Wret ?_)); refine f1 (v := .bool true) R120 M120 rfl ?_; refine ⟨_, rfl, ?_⟩; refine rn (qn (Wct rfl (Wseq (Wreg ?_)))); refine au 2 rfl <| rn (qn (Wret (br (qr (qr (br (qr ?_))))))); refine f1 (v := .int .i64 j113) R132 M132 rfl ?_; refine ⟨_, rfl, ?_⟩; refine au 2 rfl <| rn (qn (Wret ?_)); refine f1 (v := .bool (decide (j113 ≥ 0))) R119 M119 rfl ?_; refine ⟨_, rfl, ?_⟩; refine au 1 rfl <| rn (qn (Wret ?_)); replace hc := hc.m [33, 31, 29, 27, 25, 23, 21, 19, 17, 15, 13, 11, 9, 7, 5, 3, 1]; obtain rfl := sj hp; exact fz R91 M91 (k _ hc)
             · replace hp := gpos hp (of_decide_eq_true hb144); (iterate 5 refine r0 rfl ?_); refine au 2 rfl ?_; (iterate 6 refine r0 rfl ?_); refine au 2 rfl ?_; (iterate 6 refine r0 rfl ?_); refine au 2 rfl ?_; (iterate 6 refine r0 rfl ?_); refine au 2 rfl ?_; (iterate 6 refine r0 rfl ?_); refine au 2 rfl ?_; (iterate 6 refine r0 rfl ?_); refine au 2 rfl ?_; (iterate 6 refine r0 rfl ?_); refine au 2 rfl <| rn (qn (Wret ?_)); refine f1 (v := .bool true) R120 M120 rfl ?_; refine ⟨_, rfl, ?_⟩; refine rn (qn (Wct rfl (Wseq (Wreg ?_)))); refine au 2 rfl <| rn (qn (Wret (br (qr (qr (br (qr ?_))))))); refine f1 (v := .int .i64 j113) R132 M132 rfl ?_; refine ⟨_, rfl, ?_⟩; refine au 2 rfl <| rn (qn (Wret ?_)); refine f1 (v := .bool (decide (j113 ≥ 0))) R119 M119 rfl ?_; refine ⟨_, rfl, ?_⟩; refine au 1 rfl <| rn (qn (Wret ?_)); replace hc := hc.m [33, 31, 29, 27, 25, 23, 21, 19, 17, 15, 13, 11, 9, 7, 5, 3, 1]; obtain rfl := sj hp; exact fz R91 M91 (k _ hc)
     · replace hp := h; clear h; refine Wseq (Wreg ?_); refine au 1 rfl <| rn (qn (Wret (qr ?_))); replace hc := hc.m [11, 9, 7, 5, 3, 1]; obtain rfl := sj hp; exact fz R91 M91 (k _ hc)
 · replace hp := gpos hp (of_decide_eq_true hb26); (iterate 3 refine r0 rfl ?_); refine au 2 rfl ?_; (iterate 11 refine r0 rfl ?_); refine au 1 rfl <| rn (qn (Wct rfl (Wseq (Wreg ?_)))); refine au 1 rfl <| rn (qn (Wret (qr ?_))); replace hc := hc.m [11, 9, 7, 5, 3, 1]; obtain rfl := sj hp; exact fz R91 M91 (k _ hc)

def part_Right (N : Nat) (x0 : (List S_api_Shard)) : Option (Bool) :=
  (slices_ContainsFunc_s_api_Shard_api_Shard N x0 (fun u0 => part_wrong N u0)).bind fun r2 =>
  if r2 = true then
    some false
  else
    some true

theorem part_Right_any {N nx0 qx0 : Nat} {x0 : (List S_api_Shard)} {ax0 : Option Addr} {P0 : HP} {Fr : List HP} {w : World} {r : Bool} {K : Value → World → Prop} (hrd0 : Reads P0 S_api_Shard.pr (.slice ax0 nx0 qx0) x0) (hc : Ctx w (P0 :: Fr)) (hp : part_Right N x0 = some r)
    (k : ∀ w', Ctx w' (P0 :: Fr) → K (.bool r) w') : Calls Tryz.prog 61 #[.slice ax0 nx0 qx0] w (Ret K) := by
 unfold part_Right at hp; refine Center1 F61 M61 rfl rfl ?_; obtain ⟨hn0, _⟩ := Ctx.rdLen hc (k := 0) rfl rfl hrd0; subst hn0; refine Wseq (Wreg ?_); refine au 1 rfl <| rn (qn (Wseq (Wreg ?_))); refine au 1 rfl ?_; have hf1 : ∀ (y0 : S_api_Shard) (a2 : Option Addr) (n3 : Nat) (q4 : Nat) (a5 : Option Addr) (n6 : Nat) (q7 : Nat) (a8 : Option Addr) (n9 : Nat) (q10 : Nat) (a11 : Option Addr) (n12 : Nat) (q13 : Nat) (Qs : List HP) (w : World) (r : Bool) (K : Value → World → Prop), Ctx w (Hold (pRo (pInt .i8)) [.slice a2 n3 q4] y0.Embed.V :: Hold (pRo S_api_Block.pr) [.slice a5 n6 q7] y0.Blocks :: Hold (pRo (pInt .i8)) [.slice a8 n9 q10] y0.Last :: Hold (pRo (pInt .i8)) [.slice a11 n12 q13] y0.Head.V :: (Qs ++ (Fr))) → (fun u0 => part_wrong N u0) y0 = some r → (∀ w', Ctx w' (Qs ++ (Fr)) → K (.bool r) w') → Calls Tryz.prog 91 (([.agg #[.int .i64 y0.Shape.Layers, .int .i64 y0.Shape.Width, .int .i64 y0.Shape.Heads, .int .i64 y0.Shape.Inner, .int .i64 y0.Shape.Vocab, .int .i64 y0.Shape.Places, .int .i64 y0.Cut.Stages, .int .i64 y0.Cut.Parts, .int .i64 y0.Stage, .int .i64 y0.Part, .int .i64 y0.Embed.Rows, .int .i64 y0.Embed.Cols, .slice a2 n3 q4, .slice a5 n6 q7, .slice a8 n9 q10, .int .i64 y0.Head.Rows, .int .i64 y0.Head.Cols, .slice a11 n12 q13]] : List Value) ++ []).toArray w (Ret K) := by
   intro z0 z1 z2 z3 z4 z5 z6 z7 z8 z9 z10 z11 z12 Qs w r K hc hp k; exact part_wrong_any hc hp (fun w' hc' => k w' hc')
 replace hp := bind_some hp; obtain ⟨r2, hr2, hp⟩ := hp; refine kz C90 ?_; refine slices_ContainsFunc_s_api_Shard_api_Shard_any hrd0 C91 hf1 hc hr2 ?_; clear hc; intro w3 hc; cases hb4 : r2
 · replace hp := gneg hp (by rw [hb4]; exact Bool.false_ne_true); subst hb4; refine au 2 rfl <| rn (qn (Wret ?_)); obtain rfl := sj hp; exact fz R61 M61 (k _ hc)
 · replace hp := gpos hp hb4; subst hb4; refine au 2 rfl <| rn (qn (Wret ?_)); obtain rfl := sj hp; exact fz R61 M61 (k _ hc)

def block_Enter.L1 (x0 : S_api_Shard) (x1 : Int) : Nat → (List Int) → Int → Option ((List Int) × Int)
  | 0, _, _ => none
  | m1 + 1, j34, j38 =>
    if j38 < (((((IntKind.i64.wrap ((IntKind.i64.wrap (x1 + 1)) * x0.Shape.Width))).toNat - ((IntKind.i64.wrap (x1 * x0.Shape.Width))).toNat) : Nat) : Int) then
      (idx ((x0.Embed.V.take ((IntKind.i64.wrap ((IntKind.i64.wrap (x1 + 1)) * x0.Shape.Width))).toNat).drop ((IntKind.i64.wrap (x1 * x0.Shape.Width))).toNat) j38).bind fun y42 =>
      (app j34 ([(ishl .i32 (IntKind.i32.wrap y42) 4)])).bind fun z53 =>
      (block_Enter.L1 x0 x1 m1) z53 (IntKind.i64.wrap (j38 + 1))
    else
      some (j34, 0)

def block_Enter (N : Nat) (x0 : S_api_Shard) (x1 : Int) : Option ((List Int) × Int) :=
  (part_Right N ([x0])).bind fun r22 =>
  if r22 = true then
    if x0.Stage ≠ 0 then
      some ([], 121)
    else
      if x1 < 0 then
        some ([], 2)
      else
        if x1 ≥ x0.Shape.Vocab then
          some ([], 2)
        else
          chk (0 ≤ (IntKind.i64.wrap (x1 * x0.Shape.Width)) ∧ (IntKind.i64.wrap (x1 * x0.Shape.Width)) ≤ (IntKind.i64.wrap ((IntKind.i64.wrap (x1 + 1)) * x0.Shape.Width)) ∧ (IntKind.i64.wrap ((IntKind.i64.wrap (x1 + 1)) * x0.Shape.Width)) ≤ ((x0.Embed.V.length : Nat) : Int)) <|
          block_Enter.L1 x0 x1 N ([]) 0
  else
    some ([], 30)

theorem block_Enter_any {N n2 q3 n5 q6 n8 q9 n11 q12 : Nat} {x0 : S_api_Shard} {a1 a4 a7 a10 : Option Addr} {x1 : Int} {Fr : List HP} {w : World} {r : (List Int) × Int} {K : Value → World → Prop}  (hc : Ctx w (Hold (pRo (pInt .i8)) [.slice a1 n2 q3] x0.Embed.V :: Hold (pRo S_api_Block.pr) [.slice a4 n5 q6] x0.Blocks :: Hold (pRo (pInt .i8)) [.slice a7 n8 q9] x0.Last :: Hold (pRo (pInt .i8)) [.slice a10 n11 q12] x0.Head.V :: Fr)) (hp : block_Enter N x0 x1 = some r)
    (k : ∀ a59 n60 q61 w', Ctx w' (Own (pInt .i32) 21 (.slice a59 n60 q61) r.1 :: Fr) → K (.tuple #[.slice a59 n60 q61, .int .i64 r.2]) w') : Calls Tryz.prog 25 #[.agg #[.int .i64 x0.Shape.Layers, .int .i64 x0.Shape.Width, .int .i64 x0.Shape.Heads, .int .i64 x0.Shape.Inner, .int .i64 x0.Shape.Vocab, .int .i64 x0.Shape.Places, .int .i64 x0.Cut.Stages, .int .i64 x0.Cut.Parts, .int .i64 x0.Stage, .int .i64 x0.Part, .int .i64 x0.Embed.Rows, .int .i64 x0.Embed.Cols, .slice a1 n2 q3, .slice a4 n5 q6, .slice a7 n8 q9, .int .i64 x0.Head.Rows, .int .i64 x0.Head.Cols, .slice a10 n11 q12], .int .i64 x1] w (Ret K) := by
 unfold block_Enter at hp; refine Center2 F25 M25 rfl rfl ?_; obtain rfl := hc.rz 0 reads_ro; obtain rfl := hc.rz 1 reads_ro; obtain rfl := hc.rz 2 reads_ro; obtain rfl := hc.rz 3 reads_ro; refine Wseq (Wreg ?_); refine rsE (Ctx.boxOp (cs := (S_api_Shard.cz x0 a1 q3 a4 q6 a7 q9 a10 q12)) (v := .agg (S_api_Shard.cz x0 a1 q3 a4 q6 a7 q9 a10 q12).toArray) hc rfl rfl) rfl ?_; clear hc; rintro _ w19 ⟨b17, rfl, hc⟩; refine au 2 rfl <| rn (qn (Wseq (Wblk (Wseq (Wreg ?_))))); refine lg G41 Z41 hc 0 ?_; replace hc := hc.dz 4; replace hc := hc.dz 4; replace hc := hc.dz 4; replace hc := hc.dz 4; replace hc : Ctx w19 (Hold S_api_Shard.pr (S_api_Shard.cz x0 a1 q3 a4 q6 a7 q9 a10 q12) x0 :: B b17 (S_api_Shard.cz x0 a1 q3 a4 q6 a7 q9 a10 q12) 41 :: hR .i8 a1 q3 x0.Embed.V :: hS S_api_Block.pr a4 q6 x0.Blocks :: hR .i8 a7 q9 x0.Last :: hR .i8 a10 q12 x0.Head.V :: Fr) := S_api_Shard.cl hc; refine rsE (Ctx.builtOp (css := [(S_api_Shard.cz x0 a1 q3 a4 q6 a7 q9 a10 q12)]) (xs := ([x0] : List S_api_Shard)) (E := S_api_Shard.pr) hc U72 Z41 V41 rfl rfl rfl rfl rfl rfl rfl rfl) rfl ?_; clear hc; rintro _ w21 ⟨a20, rfl, hc⟩; replace hp := bind_some hp; obtain ⟨r22, hr22, hp⟩ := hp; refine kz C61 ?_; refine part_Right_any (x0 := [x0]) reads_own hc hr22 ?_; clear hc; intro w23 hc; cases hb24 : r22
 · replace hp := gneg hp (by rw [hb24]; exact Bool.false_ne_true); subst hb24; refine au 2 rfl <| rn (qn (Wct rfl (Wseq (Wreg ?_)))); refine au 2 rfl <| rn (qn (Wret (br (qr ?_)))); replace hc := hc.nilOwn (pInt .i32) 21; replace hc := hc.m [13, 11, 9, 7, 5, 3]; obtain rfl := sj hp; exact fz2 R25 M25 (k _ _ _ _ hc)
 · replace hp := gpos hp hb24; subst hb24; refine au 2 rfl <| rn (qn (Wcf rfl (Wseq (Wreg ?_)))); refine fq 8 U41 Z3 G3 hc 1 ?_; refine au 2 rfl <| rn (qn ?_); refine Wif hp (fun _ h => ?_) fun _ h => ?_
   · replace hp := h; clear h; refine Wseq (Wreg ?_); refine au 3 rfl ?_; cases hb26 : (decide (x1 < 0))
     · replace hp := gneg hp (of_decide_eq_false hb26); refine au 1 rfl <| sz (v := pt b17 0) (fax 0 rfl U41 rfl Z29 rfl rfl rfl) ?_; refine fq 4 U29 Z3 G3 hc 1 ?_; refine au 3 rfl <| rn (qn ?_); refine Wif hp (fun _ h => ?_) fun _ h => ?_
       · replace hp := h; clear h; refine Wskip (bn (qn (Wseq (Wreg ?_)))); refine au 1 rfl <| rn (qn (Wseq (Wseq (Wreg ?_)))); refine sz (v := pt b17 10) (fax 10 rfl U41 rfl Z32 rfl rfl rfl) ?_; refine fq 2 U32 Z30 G30 hc 1 ?_; refine au 1 rfl <| sz (v := pt b17 0) (fax 0 rfl U41 rfl Z29 rfl rfl rfl) ?_; refine fq 1 U29 Z3 G3 hc 1 ?_; refine au 3 rfl <| sz (v := pt b17 0) (fax 0 rfl U41 rfl Z29 rfl rfl rfl) ?_; refine fq 1 U29 Z3 G3 hc 1 ?_; refine au 1 rfl ?_; replace hp := chk_some hp; obtain ⟨hg28, hp⟩ := hp; refine rsE (Ctx.subOp (li := some (IntKind.i64.wrap (x1 * x0.Shape.Width))) (hi' := some (IntKind.i64.wrap ((IntKind.i64.wrap (x1 + 1)) * x0.Shape.Width))) hc (k := 2) rfl rfl reads_ro rfl ⟨_, rfl⟩ ⟨_, rfl⟩ U30 Z88 hg28) rfl ?_; rintro _ _ ⟨rfl, a29, q30, rfl, rd31, ea32, eq33⟩; replace rd31 : Reads (hR .i8 a1 q3 x0.Embed.V) (pInt .i8) (.slice a29 (((IntKind.i64.wrap ((IntKind.i64.wrap (x1 + 1)) * x0.Shape.Width))).toNat - ((IntKind.i64.wrap (x1 * x0.Shape.Width))).toNat) q30) ((x0.Embed.V.take ((IntKind.i64.wrap ((IntKind.i64.wrap (x1 + 1)) * x0.Shape.Width))).toNat).drop ((IntKind.i64.wrap (x1 * x0.Shape.Width))).toNat) := rd31; refine sz (v := .int .i64 (((((IntKind.i64.wrap ((IntKind.i64.wrap (x1 + 1)) * x0.Shape.Width))).toNat - ((IntKind.i64.wrap (x1 * x0.Shape.Width))).toNat) : Nat) : Int)) (ln rfl U30) <| au 1 rfl <| rn (qn (Wblk ?_)); replace hc := hc.nilOwn (pInt .i32) 21; replace hc := hc.m [13, 11, 9, 5, 3, 2]; refine Wloop (rg [6, 1, 8, 1, 44, 11]) [6, 44] (fun m vs w' => ∃ j34 : (List Int), ∃ j38 : Int, ∃ a35 n36 q37, vs = [.slice a35 n36 q37, .int .i64 j38] ∧ block_Enter.L1 x0 x1 m j34 j38 = some r ∧ Ctx w' (hR .i8 a1 q3 x0.Embed.V :: Own (pInt .i32) 21 (.slice a35 n36 q37) j34 :: Fr)) N ?_ ?_
         · exact ⟨[], 0, none, 0, 0, rfl, hp, hc⟩
         · clear hp hc; intro m vs u w39 hJ; obtain ⟨j34, j38, a35, n36, q37, rfl, hp, hc⟩ := hJ; obtain rfl := hc.rz 1 reads_own; rcases m with _ | m1
           · cases (show none = some r from hp)
           rw [block_Enter.L1] at hp; refine Wseq (Wreg ?_); refine au 1 rfl <| rn (qn (Wseq ?_)); refine Wif hp (fun _ h => ?_) fun _ h => ?_
           · replace hp := h; clear h; refine Wexit (qx (qx (be (qn (Wseq (Wreg ?_)))))); refine au 3 rfl <| rn (qn (Wret ?_)); replace hc := hc.m [1]; obtain rfl := sj hp; exact fz2 R25 M25 (k _ _ _ _ hc)
           · replace hp := h; clear h; refine Wskip (qn (Wseq (Wblk (Wseq (Wreg ?_))))); replace hp := bind_some hp; obtain ⟨y42, hy42, hp⟩ := hp; obtain ⟨b45, o46, rfl, hi43, hi44⟩ := hc.ra 0 rd31 hy42; refine sz (ixx rfl rfl U30 Z88 hi43 hi44 rfl) ?_; have hcell49 := hc.rv 0 rd31 hy42; refine sz (ld rfl G88 (hcell49 0 _ rfl)) <| au 1 rfl <| rn (qn (Wreg ?_)); refine au 2 rfl <| sz (cvi rfl U88 U21) <| sz (shl_ rfl rfl (by decide)) ?_; refine rsE (oneI hc U51 Z21 V21) rfl ?_; clear hc; rintro _ w52 ⟨a51, rfl, hc⟩; replace hp := bind_some hp; obtain ⟨z53, hz53, hp⟩ := hp; obtain ⟨hg54, e55⟩ := app_some hz53; refine rsE (hc.ap 2 0 reads_own U51 Tryz.t21 hg54) rfl ?_; clear hc; rintro _ w58 ⟨a56, q57, rfl, hc⟩; rw [← e55] at hc ⊢; replace hc := Ctx.n2 hc; refine au 1 rfl <| rn (bn (qn (Wreg ?_))); refine au 2 rfl <| rn (qn ?_); replace hc := hc.m [1]; exact ⟨m1, Nat.lt_succ_self _, ⟨z53, (IntKind.i64.wrap (j38 + 1)), a56, z53.length, q57, rfl, hp, hc⟩, (kl rfl k0)⟩
       · replace hp := h; clear h; refine Wseq (Wreg ?_); refine au 2 rfl <| rn (qn (Wret (br (qr ?_)))); replace hc := hc.nilOwn (pInt .i32) 21; replace hc := hc.m [13, 11, 9, 7, 5, 3]; obtain rfl := sj hp; exact fz2 R25 M25 (k _ _ _ _ hc)
     · replace hp := gpos hp (of_decide_eq_true hb26); (iterate 5 refine r0 rfl ?_); refine au 2 rfl <| rn (qn (Wct rfl (Wseq (Wreg ?_)))); refine au 2 rfl <| rn (qn (Wret (br (qr ?_)))); replace hc := hc.nilOwn (pInt .i32) 21; replace hc := hc.m [13, 11, 9, 7, 5, 3]; obtain rfl := sj hp; exact fz2 R25 M25 (k _ _ _ _ hc)
   · replace hp := h; clear h; refine Wseq (Wreg ?_); refine au 2 rfl <| rn (qn (Wret (br (qr ?_)))); replace hc := hc.nilOwn (pInt .i32) 21; replace hc := hc.m [13, 11, 9, 7, 5, 3]; obtain rfl := sj hp; exact fz2 R25 M25 (k _ _ _ _ hc)

def block_fits (N : Nat) (x0 : S_api_Shard) (x1 : (List Int)) : Option (Bool) :=
  (part_Right N ([x0])).bind fun r22 =>
  if r22 = true then
    some (decide (((x1.length : Nat) : Int) = x0.Shape.Width))
  else
    some false

theorem block_fits_any {N n2 q3 n5 q6 n8 q9 n11 q12 nx1 qx1 : Nat} {x0 : S_api_Shard} {a1 a4 a7 a10 ax1 : Option Addr} {x1 : (List Int)} {P1 : HP} {Fr : List HP} {w : World} {r : Bool} {K : Value → World → Prop} (hrd1 : Reads P1 (pInt .i32) (.slice ax1 nx1 qx1) x1) (hc : Ctx w (Hold (pRo (pInt .i8)) [.slice a1 n2 q3] x0.Embed.V :: Hold (pRo S_api_Block.pr) [.slice a4 n5 q6] x0.Blocks :: Hold (pRo (pInt .i8)) [.slice a7 n8 q9] x0.Last :: Hold (pRo (pInt .i8)) [.slice a10 n11 q12] x0.Head.V :: P1 :: Fr)) (hp : block_fits N x0 x1 = some r)
    (k : ∀ w', Ctx w' (P1 :: Fr) → K (.bool r) w') : Calls Tryz.prog 31 #[.agg #[.int .i64 x0.Shape.Layers, .int .i64 x0.Shape.Width, .int .i64 x0.Shape.Heads, .int .i64 x0.Shape.Inner, .int .i64 x0.Shape.Vocab, .int .i64 x0.Shape.Places, .int .i64 x0.Cut.Stages, .int .i64 x0.Cut.Parts, .int .i64 x0.Stage, .int .i64 x0.Part, .int .i64 x0.Embed.Rows, .int .i64 x0.Embed.Cols, .slice a1 n2 q3, .slice a4 n5 q6, .slice a7 n8 q9, .int .i64 x0.Head.Rows, .int .i64 x0.Head.Cols, .slice a10 n11 q12], .slice ax1 nx1 qx1] w (Ret K) := by
 unfold block_fits at hp; refine Center2 F31 M31 rfl rfl ?_; obtain ⟨hn1, _⟩ := Ctx.rdLen hc (k := 4) rfl rfl hrd1; subst hn1; obtain rfl := hc.rz 0 reads_ro; obtain rfl := hc.rz 1 reads_ro; obtain rfl := hc.rz 2 reads_ro; obtain rfl := hc.rz 3 reads_ro; refine Wseq (Wreg ?_); refine rsE (Ctx.boxOp (cs := (S_api_Shard.cz x0 a1 q3 a4 q6 a7 q9 a10 q12)) (v := .agg (S_api_Shard.cz x0 a1 q3 a4 q6 a7 q9 a10 q12).toArray) hc rfl rfl) rfl ?_; clear hc; rintro _ w19 ⟨b17, rfl, hc⟩; refine au 1 rfl <| rn (qn (Wseq (Wreg ?_))); refine lg G41 Z41 hc 0 ?_; replace hc := hc.dz 4; replace hc := hc.dz 4; replace hc := hc.dz 4; replace hc := hc.dz 4; replace hc : Ctx w19 (Hold S_api_Shard.pr (S_api_Shard.cz x0 a1 q3 a4 q6 a7 q9 a10 q12) x0 :: B b17 (S_api_Shard.cz x0 a1 q3 a4 q6 a7 q9 a10 q12) 41 :: hR .i8 a1 q3 x0.Embed.V :: hS S_api_Block.pr a4 q6 x0.Blocks :: hR .i8 a7 q9 x0.Last :: hR .i8 a10 q12 x0.Head.V :: P1 :: Fr) := S_api_Shard.cl hc; refine rsE (Ctx.builtOp (css := [(S_api_Shard.cz x0 a1 q3 a4 q6 a7 q9 a10 q12)]) (xs := ([x0] : List S_api_Shard)) (E := S_api_Shard.pr) hc U72 Z41 V41 rfl rfl rfl rfl rfl rfl rfl rfl) rfl ?_; clear hc; rintro _ w21 ⟨a20, rfl, hc⟩; replace hp := bind_some hp; obtain ⟨r22, hr22, hp⟩ := hp; refine kz C61 ?_; refine part_Right_any (x0 := [x0]) reads_own hc hr22 ?_; clear hc; intro w23 hc; refine au 1 rfl ?_; cases hb24 : r22
 · replace hp := gneg hp (by rw [hb24]; exact Bool.false_ne_true); subst hb24; (iterate 6 refine r0 rfl ?_); refine au 2 rfl <| rn (qn (Wret ?_)); replace hc := hc.m [11, 9, 7, 5, 3, 1]; obtain rfl := sj hp; exact fz R31 M31 (k _ hc)
 · replace hp := gpos hp hb24; subst hb24; refine au 1 rfl <| sz (ln rfl U51) <| sz (v := pt b17 0) (fax 0 rfl U41 rfl Z29 rfl rfl rfl) ?_; refine fq 1 U29 Z3 G3 hc 1 ?_; refine au 3 rfl <| rn (qn (Wret ?_)); replace hc := hc.m [11, 9, 7, 5, 3, 1]; obtain rfl := sj hp; exact fz R31 M31 (k _ hc)

def block_layer (x0 : S_api_Shard) (x1 : Int) : Option (S_api_Block × Bool) :=
  (slice_Layers x0.Shape x0.Cut x0.Stage).bind fun r23 =>
  if r23.2 ≠ 0 then
    some ((⟨[], [], (⟨0, 0, []⟩ : S_api_Mat), (⟨0, 0, []⟩ : S_api_Mat), (⟨0, 0, []⟩ : S_api_Mat), (⟨0, 0, []⟩ : S_api_Mat), (⟨0, 0, []⟩ : S_api_Mat), (⟨0, 0, []⟩ : S_api_Mat)⟩ : S_api_Block), false)
  else
    if x1 < r23.1.c0 then
      some ((⟨[], [], (⟨0, 0, []⟩ : S_api_Mat), (⟨0, 0, []⟩ : S_api_Mat), (⟨0, 0, []⟩ : S_api_Mat), (⟨0, 0, []⟩ : S_api_Mat), (⟨0, 0, []⟩ : S_api_Mat), (⟨0, 0, []⟩ : S_api_Mat)⟩ : S_api_Block), false)
    else
      if x1 ≥ r23.1.c1 then
        some ((⟨[], [], (⟨0, 0, []⟩ : S_api_Mat), (⟨0, 0, []⟩ : S_api_Mat), (⟨0, 0, []⟩ : S_api_Mat), (⟨0, 0, []⟩ : S_api_Mat), (⟨0, 0, []⟩ : S_api_Mat), (⟨0, 0, []⟩ : S_api_Mat)⟩ : S_api_Block), false)
      else
        (idx x0.Blocks (IntKind.i64.wrap (x1 - r23.1.c0))).bind fun y32 =>
        some (y32, true)

theorem block_layer_any {x0 : S_api_Shard} {a1 a4 a7 a10 : Option Addr} {n2 q3 n5 q6 n8 q9 n11 q12 : Nat} {x1 : Int} {Fr : List HP} {w : World} {r : S_api_Block × Bool} {K : Value → World → Prop}  (hc : Ctx w (Hold (pRo (pInt .i8)) [.slice a1 n2 q3] x0.Embed.V :: Hold (pRo S_api_Block.pr) [.slice a4 n5 q6] x0.Blocks :: Hold (pRo (pInt .i8)) [.slice a7 n8 q9] x0.Last :: Hold (pRo (pInt .i8)) [.slice a10 n11 q12] x0.Head.V :: Fr)) (hp : block_layer x0 x1 = some r)
    (k : ∀ a61 n62 q63 a64 n65 q66 a67 n68 q69 a70 n71 q72 a73 n74 q75 a76 n77 q78 a79 n80 q81 a82 n83 q84 w', Ctx w' (Hold (pRo (pInt .i8)) [.slice a61 n62 q63] r.1.First :: Hold (pRo (pInt .i8)) [.slice a64 n65 q66] r.1.Second :: Hold (pRo (pInt .i8)) [.slice a67 n68 q69] r.1.Q.V :: Hold (pRo (pInt .i8)) [.slice a70 n71 q72] r.1.K.V :: Hold (pRo (pInt .i8)) [.slice a73 n74 q75] r.1.V.V :: Hold (pRo (pInt .i8)) [.slice a76 n77 q78] r.1.O.V :: Hold (pRo (pInt .i8)) [.slice a79 n80 q81] r.1.Up.V :: Hold (pRo (pInt .i8)) [.slice a82 n83 q84] r.1.Down.V :: Fr) → K (.tuple #[.agg #[.slice a61 n62 q63, .slice a64 n65 q66, .int .i64 r.1.Q.Rows, .int .i64 r.1.Q.Cols, .slice a67 n68 q69, .int .i64 r.1.K.Rows, .int .i64 r.1.K.Cols, .slice a70 n71 q72, .int .i64 r.1.V.Rows, .int .i64 r.1.V.Cols, .slice a73 n74 q75, .int .i64 r.1.O.Rows, .int .i64 r.1.O.Cols, .slice a76 n77 q78, .int .i64 r.1.Up.Rows, .int .i64 r.1.Up.Cols, .slice a79 n80 q81, .int .i64 r.1.Down.Rows, .int .i64 r.1.Down.Cols, .slice a82 n83 q84], .bool r.2]) w') : Calls Tryz.prog 32 #[.agg #[.int .i64 x0.Shape.Layers, .int .i64 x0.Shape.Width, .int .i64 x0.Shape.Heads, .int .i64 x0.Shape.Inner, .int .i64 x0.Shape.Vocab, .int .i64 x0.Shape.Places, .int .i64 x0.Cut.Stages, .int .i64 x0.Cut.Parts, .int .i64 x0.Stage, .int .i64 x0.Part, .int .i64 x0.Embed.Rows, .int .i64 x0.Embed.Cols, .slice a1 n2 q3, .slice a4 n5 q6, .slice a7 n8 q9, .int .i64 x0.Head.Rows, .int .i64 x0.Head.Cols, .slice a10 n11 q12], .int .i64 x1] w (Ret K) := by
 unfold block_layer at hp; refine Center2 F32 M32 rfl rfl ?_; obtain rfl := hc.rz 0 reads_ro; obtain rfl := hc.rz 1 reads_ro; obtain rfl := hc.rz 2 reads_ro; obtain rfl := hc.rz 3 reads_ro; refine Wseq (Wreg ?_); refine rsE (Ctx.boxOp (cs := (S_api_Shard.cz x0 a1 q3 a4 q6 a7 q9 a10 q12)) (v := .agg (S_api_Shard.cz x0 a1 q3 a4 q6 a7 q9 a10 q12).toArray) hc rfl rfl) rfl ?_; clear hc; rintro _ w19 ⟨b17, rfl, hc⟩; refine rsE (Ctx.allocOp (cs := [.slice none 0 0, .slice none 0 0, .int .i64 0, .int .i64 0, .slice none 0 0, .int .i64 0, .int .i64 0, .slice none 0 0, .int .i64 0, .int .i64 0, .slice none 0 0, .int .i64 0, .int .i64 0, .slice none 0 0, .int .i64 0, .int .i64 0, .slice none 0 0, .int .i64 0, .int .i64 0, .slice none 0 0]) hc V97 rfl) rfl ?_; clear hc; rintro _ w22 ⟨b20, rfl, hc⟩; refine au 1 rfl <| rn (qn (Wseq (Wreg ?_))); refine sz (v := pt b17 0) (fax 0 rfl U41 rfl Z29 rfl rfl rfl) <| lg G29 Z29 hc 1 ?_; refine sz (v := pt b17 6) (fax 6 rfl U41 rfl Z37 rfl rfl rfl) <| lg G37 Z37 hc 1 ?_; refine fq 8 U41 Z3 G3 hc 1 ?_; obtain ⟨r23, hr23, hp⟩ := bind_some hp; refine kz C66 ?_; refine slice_Layers_any (x0 := x0.Shape) (x1 := x0.Cut) hc hr23 ?_; clear hc; intro w24 hc; refine au 3 rfl ?_; refine rsE (Ctx.allocOp (cs := [.int .i64 0, .int .i64 0]) hc V89 rfl) rfl ?_; clear hc; rintro _ w27 ⟨b25, rfl, hc⟩; refine pa hc 0 Z89 ?_; clear hc; rintro w28 hc; refine au 1 rfl <| rn (qn (Wseq (Wseq (Wreg ?_)))); refine au 3 rfl ?_; cases hb29 : (decide (r23.2 ≠ 0))
 · replace hp := gneg hp (of_decide_eq_false hb29); refine au 1 rfl <| sz (v := pt b25 0) (ixa (i := 0) rfl rfl U89 Z3 (by decide) (by decide) (by decide) (by decide) rfl) <| sz (ld rfl G3 (Ctx.cell hc (k := 0) rfl rfl rfl)) <| au 3 rfl ?_; cases hb30 : (decide (x1 < r23.1.c0))
   · replace hp := gneg hp (of_decide_eq_false hb30); refine au 1 rfl <| sz (v := pt b25 1) (ixa (i := 1) rfl rfl U89 Z3 (by decide) (by decide) (by decide) (by decide) rfl) <| sz (ld rfl G3 (Ctx.cell hc (k := 0) rfl rfl rfl)) <| au 2 rfl <| rn (qn ?_); refine Wif hp (fun _ hp => ?_) fun _ hp => ?_
     · refine Wskip (qn (Wseq (Wreg ?_))); refine fq 13 U41 Z33 G33 hc 2 ?_; refine au 1 rfl <| sz (v := pt b25 0) (ixa (i := 0) rfl rfl U89 Z3 (by decide) (by decide) (by decide) (by decide) rfl) <| sz (ld rfl G3 (Ctx.cell hc (k := 0) rfl rfl rfl)) <| au 1 rfl ?_; obtain ⟨y32, hy32, hp⟩ := bind_some hp; obtain ⟨b35, o36, rfl, hi33, hi34⟩ := hc.ra 4 reads_ro hy32; refine sz (ixx rfl rfl U33 Z97 hi33 hi34 rfl) ?_; replace hc := Ctx.rdCell hc (k := 4) rfl rfl reads_ro hy32; obtain ⟨cs38, hc, hcell39⟩ := hc; replace hc := S_api_Block.op hc; obtain ⟨a41, q42, a43, q44, a45, q46, a47, q48, a49, q50, a51, q52, a53, q54, a55, q56, u40, hc⟩ := hc; subst u40; refine sz (v := .agg (S_api_Block.cz y32 a41 q42 a43 q44 a45 q46 a47 q48 a49 q50 a51 q52 a53 q54 a55 q56).toArray) (ldg rfl G97 Z97 rfl (elCells hcell39 0 (vs := (S_api_Block.cz y32 a41 q42 a43 q44 a45 q46 a47 q48 a49 q50 a51 q52 a53 q54 a55 q56)) rfl)) <| pa hc 9 Z97 ?_; clear hc; rintro w57 hc; refine au 1 rfl <| rn (qn (Wret ?_)); have hres := Ctx.cells hc (k := 9) rfl rfl 0 (vs := (S_api_Block.cz y32 a41 q42 a43 q44 a45 q46 a47 q48 a49 q50 a51 q52 a53 q54 a55 q56)) rfl; replace hc := hc.dz 0; replace hc := hc.dz 2; replace hc := hc.dz 4; replace hc := hc.dz 6; replace hc := hc.dz 8; replace hc := hc.dz 10; replace hc := hc.dz 12; replace hc := hc.dz 14; replace hc := hc.m [45, 43, 41, 39, 37, 35, 33, 31, 29, 27, 25, 23, 21, 19, 17, 2, 4, 6, 8, 10, 12, 14]; obtain rfl := sj hp; refine f2c (cs := (S_api_Block.cz y32 a41 q42 a43 q44 a45 q46 a47 q48 a49 q50 a51 q52 a53 q54 a55 q56)) (u := .bool true) R32 M32 rfl G97 Z97 rfl hres rfl ?_; exact ⟨_, rfl, k _ _ _ _ _ _ _ _ _ _ _ _ _ _ _ _ _ _ _ _ _ _ _ _ _ hc⟩
     · refine Wseq (Wreg ?_); refine sz (v := .agg #[.slice none 0 0, .slice none 0 0, .int .i64 0, .int .i64 0, .slice none 0 0, .int .i64 0, .int .i64 0, .slice none 0 0, .int .i64 0, .int .i64 0, .slice none 0 0, .int .i64 0, .int .i64 0, .slice none 0 0, .int .i64 0, .int .i64 0, .slice none 0 0, .int .i64 0, .int .i64 0, .slice none 0 0]) (bd_97_ ) <| pa hc 1 Z97 ?_; clear hc; rintro w58 hc; refine au 1 rfl <| rn (qn (Wret (qr ?_))); have hres := Ctx.cells hc (k := 1) rfl rfl 0 (vs := [.slice none 0 0, .slice none 0 0, .int .i64 0, .int .i64 0, .slice none 0 0, .int .i64 0, .int .i64 0, .slice none 0 0, .int .i64 0, .int .i64 0, .slice none 0 0, .int .i64 0, .int .i64 0, .slice none 0 0, .int .i64 0, .int .i64 0, .slice none 0 0, .int .i64 0, .int .i64 0, .slice none 0 0]) rfl; replace hc := hc.nilRo (pInt .i8); replace hc := hc.dz 0; replace hc := hc.nilRo (pInt .i8); replace hc := hc.dz 0; replace hc := hc.nilRo (pInt .i8); replace hc := hc.dz 0; replace hc := hc.nilRo (pInt .i8); replace hc := hc.dz 0; replace hc := hc.nilRo (pInt .i8); replace hc := hc.dz 0; replace hc := hc.nilRo (pInt .i8); replace hc := hc.dz 0; replace hc := hc.nilRo (pInt .i8); replace hc := hc.dz 0; replace hc := hc.nilRo (pInt .i8); replace hc := hc.dz 0; replace hc := hc.m [45, 43, 41, 39, 37, 35, 33, 31, 27, 23, 19, 15, 11, 7, 3, 2, 4, 6, 8, 10, 12, 14]; obtain rfl := sj hp; refine f2c (cs := [.slice none 0 0, .slice none 0 0, .int .i64 0, .int .i64 0, .slice none 0 0, .int .i64 0, .int .i64 0, .slice none 0 0, .int .i64 0, .int .i64 0, .slice none 0 0, .int .i64 0, .int .i64 0, .slice none 0 0, .int .i64 0, .int .i64 0, .slice none 0 0, .int .i64 0, .int .i64 0, .slice none 0 0]) (u := .bool false) R32 M32 rfl G97 Z97 rfl hres rfl ?_; exact ⟨_, rfl, k _ _ _ _ _ _ _ _ _ _ _ _ _ _ _ _ _ _ _ _ _ _ _ _ _ hc⟩
   · replace hp := gpos hp (of_decide_eq_true hb30); (iterate 4 refine r0 rfl ?_); refine au 1 rfl <| rn (qn (Wct rfl (Wseq (Wreg ?_)))); refine sz (v := .agg #[.slice none 0 0, .slice none 0 0, .int .i64 0, .int .i64 0, .slice none 0 0, .int .i64 0, .int .i64 0, .slice none 0 0, .int .i64 0, .int .i64 0, .slice none 0 0, .int .i64 0, .int .i64 0, .slice none 0 0, .int .i64 0, .int .i64 0, .slice none 0 0, .int .i64 0, .int .i64 0, .slice none 0 0]) (bd_97_ ) <| pa hc 1 Z97 ?_; clear hc; rintro w59 hc; refine au 1 rfl <| rn (qn (Wret (qr ?_))); have hres := Ctx.cells hc (k := 1) rfl rfl 0 (vs := [.slice none 0 0, .slice none 0 0, .int .i64 0, .int .i64 0, .slice none 0 0, .int .i64 0, .int .i64 0, .slice none 0 0, .int .i64 0, .int .i64 0, .slice none 0 0, .int .i64 0, .int .i64 0, .slice none 0 0, .int .i64 0, .int .i64 0, .slice none 0 0, .int .i64 0, .int .i64 0, .slice none 0 0]) rfl; replace hc := hc.nilRo (pInt .i8); replace hc := hc.dz 0; replace hc := hc.nilRo (pInt .i8); replace hc := hc.dz 0; replace hc := hc.nilRo (pInt .i8); replace hc := hc.dz 0; replace hc := hc.nilRo (pInt .i8); replace hc := hc.dz 0; replace hc := hc.nilRo (pInt .i8); replace hc := hc.dz 0; replace hc := hc.nilRo (pInt .i8); replace hc := hc.dz 0; replace hc := hc.nilRo (pInt .i8); replace hc := hc.dz 0; replace hc := hc.nilRo (pInt .i8); replace hc := hc.dz 0; replace hc := hc.m [45, 43, 41, 39, 37, 35, 33, 31, 27, 23, 19, 15, 11, 7, 3, 2, 4, 6, 8, 10, 12, 14]; obtain rfl := sj hp; refine f2c (cs := [.slice none 0 0, .slice none 0 0, .int .i64 0, .int .i64 0, .slice none 0 0, .int .i64 0, .int .i64 0, .slice none 0 0, .int .i64 0, .int .i64 0, .slice none 0 0, .int .i64 0, .int .i64 0, .slice none 0 0, .int .i64 0, .int .i64 0, .slice none 0 0, .int .i64 0, .int .i64 0, .slice none 0 0]) (u := .bool false) R32 M32 rfl G97 Z97 rfl hres rfl ?_; exact ⟨_, rfl, k _ _ _ _ _ _ _ _ _ _ _ _ _ _ _ _ _ _ _ _ _ _ _ _ _ hc⟩
 · replace hp := gpos hp (of_decide_eq_true hb29); (iterate 4 refine r0 rfl ?_); refine au 2 rfl ?_; (iterate 4 refine r0 rfl ?_); refine au 1 rfl <| rn (qn (Wct rfl (Wseq (Wreg ?_)))); refine sz (v := .agg #[.slice none 0 0, .slice none 0 0, .int .i64 0, .int .i64 0, .slice none 0 0, .int .i64 0, .int .i64 0, .slice none 0 0, .int .i64 0, .int .i64 0, .slice none 0 0, .int .i64 0, .int .i64 0, .slice none 0 0, .int .i64 0, .int .i64 0, .slice none 0 0, .int .i64 0, .int .i64 0, .slice none 0 0]) (bd_97_ ) <| pa hc 1 Z97 ?_; clear hc; rintro w60 hc; refine au 1 rfl <| rn (qn (Wret (qr ?_))); have hres := Ctx.cells hc (k := 1) rfl rfl 0 (vs := [.slice none 0 0, .slice none 0 0, .int .i64 0, .int .i64 0, .slice none 0 0, .int .i64 0, .int .i64 0, .slice none 0 0, .int .i64 0, .int .i64 0, .slice none 0 0, .int .i64 0, .int .i64 0, .slice none 0 0, .int .i64 0, .int .i64 0, .slice none 0 0, .int .i64 0, .int .i64 0, .slice none 0 0]) rfl; replace hc := hc.nilRo (pInt .i8); replace hc := hc.dz 0; replace hc := hc.nilRo (pInt .i8); replace hc := hc.dz 0; replace hc := hc.nilRo (pInt .i8); replace hc := hc.dz 0; replace hc := hc.nilRo (pInt .i8); replace hc := hc.dz 0; replace hc := hc.nilRo (pInt .i8); replace hc := hc.dz 0; replace hc := hc.nilRo (pInt .i8); replace hc := hc.dz 0; replace hc := hc.nilRo (pInt .i8); replace hc := hc.dz 0; replace hc := hc.nilRo (pInt .i8); replace hc := hc.dz 0; replace hc := hc.m [45, 43, 41, 39, 37, 35, 33, 31, 27, 23, 19, 15, 11, 7, 3, 2, 4, 6, 8, 10, 12, 14]; obtain rfl := sj hp; refine f2c (cs := [.slice none 0 0, .slice none 0 0, .int .i64 0, .int .i64 0, .slice none 0 0, .int .i64 0, .int .i64 0, .slice none 0 0, .int .i64 0, .int .i64 0, .slice none 0 0, .int .i64 0, .int .i64 0, .slice none 0 0, .int .i64 0, .int .i64 0, .slice none 0 0, .int .i64 0, .int .i64 0, .slice none 0 0]) (u := .bool false) R32 M32 rfl G97 Z97 rfl hres rfl ?_; exact ⟨_, rfl, k _ _ _ _ _ _ _ _ _ _ _ _ _ _ _ _ _ _ _ _ _ _ _ _ _ hc⟩

def norm_tame (x0 : Int) : Option (Int) :=
  (some (min (max (IntKind.i64.wrap x0) (-8388608)) 8388607)).bind fun e1 =>
  some e1

theorem norm_tame_any {x0 r : Int} {Fr : List HP} {w : World} {K : Value → World → Prop}  (hc : Ctx w (Fr)) (hp : norm_tame x0 = some r)
    (k : ∀ w', Ctx w' (Fr) → K (.int .i64 r) w') : Calls Tryz.prog 71 #[.int .i32 x0] w (Ret K) := by
 unfold norm_tame at hp; refine Center1 F71 M71 rfl rfl ?_; refine Wseq (Wreg ?_); refine au 1 rfl <| rn (qn (Wseq (Wreg ?_))); refine au 1 rfl <| sz (cvi rfl U21 U2) <| sz (v := .int .i64 (max (IntKind.i64.wrap x0) (-8388608))) (bmx rfl rfl U2) <| sz (v := .int .i64 (min (max (IntKind.i64.wrap x0) (-8388608)) 8388607)) (bmn rfl rfl U2) ?_; obtain ⟨e1, he1, hp⟩ := bind_some hp; injection he1 with he1; refine sz (v := .int .i64 e1) (av (v := .int .i64 e1) (by rw [← he1]; rfl)) <| rn (qn (Wret ?_)); obtain rfl := sj hp; exact fz R71 M71 (k _ hc)

def norm_square.L1 (x0 : (List Int)) : Nat → Int → Int → Option (Int)
  | 0, _, _ => none
  | m1 + 1, j1, j2 =>
    if j2 < ((x0.length : Nat) : Int) then
      (idx x0 j2).bind fun y7 =>
      (norm_tame y7).bind fun r16 =>
      (norm_tame y7).bind fun r18 =>
      (some (IntKind.u64.wrap (j1 + (IntKind.u64.wrap (IntKind.i64.wrap (r16 * r18)))))).bind fun e20 =>
      (norm_square.L1 x0 m1) e20 (IntKind.i64.wrap (j2 + 1))
    else
      chk ((IntKind.u64.wrap ((x0.length : Nat) : Int)) ≠ 0) <|
      (some (IntKind.u64.wrap (Int.tdiv j1 (IntKind.u64.wrap ((x0.length : Nat) : Int))))).bind fun e6 =>
      some e6

def norm_square (N : Nat) (x0 : (List Int)) : Option (Int) :=
  norm_square.L1 x0 N 0 0

theorem norm_square_any {N nx0 qx0 : Nat} {x0 : (List Int)} {ax0 : Option Addr} {P0 : HP} {Fr : List HP} {w : World} {r : Int} {K : Value → World → Prop} (hrd0 : Reads P0 (pInt .i32) (.slice ax0 nx0 qx0) x0) (hc : Ctx w (P0 :: Fr)) (hp : norm_square N x0 = some r)
    (k : ∀ w', Ctx w' (P0 :: Fr) → K (.int .u64 r) w') : Calls Tryz.prog 68 #[.slice ax0 nx0 qx0] w (Ret K) := by
 unfold norm_square at hp; refine Center1 F68 M68 rfl rfl ?_; obtain ⟨hn0, _⟩ := Ctx.rdLen hc (k := 0) rfl rfl hrd0; subst hn0; refine Wseq (Wreg ?_); refine au 1 rfl <| rn (qn (Wseq (Wreg ?_))); refine au 1 rfl <| rn (qn (Wseq (Wseq (Wreg ?_)))); refine au 1 rfl <| sz (ln rfl U51) <| au 1 rfl <| rn (qn (Wblk ?_)); refine Wloop (rg [3, 1, 5, 1, 8, 13]) [3, 8] (fun m vs w' => ∃ j1 : Int, ∃ j2 : Int, vs = [.int .u64 j1, .int .i64 j2] ∧ norm_square.L1 x0 m j1 j2 = some r ∧ Ctx w' (P0 :: Fr)) N ?_ ?_
 · exact ⟨0, 0, rfl, hp, hc⟩
 · clear hp hc; intro m vs u w3 hJ; obtain ⟨j1, j2, rfl, hp, hc⟩ := hJ; rcases m with _ | m1
   · cases (show none = some r from hp)
   rw [norm_square.L1] at hp; refine Wseq (Wreg ?_); refine au 1 rfl <| rn (qn (Wseq ?_)); refine Wif hp (fun _ hp => ?_) fun _ hp => ?_
   · refine Wexit (qx (qx (be (qn (Wseq (Wreg ?_)))))); refine au 2 rfl <| sz (ln rfl U51) <| sz (cvi rfl U3 U23) ?_; obtain ⟨hg5, hp⟩ := chk_some hp; refine sz (quw rfl rfl hg5) ?_; obtain ⟨e6, he6, hp⟩ := bind_some hp; injection he6 with he6; refine sz (v := .int .u64 e6) (av (v := .int .u64 e6) (by rw [← he6]; rfl)) <| rn (qn (Wret ?_)); obtain rfl := sj hp; exact fz R68 M68 (k _ hc)
   · refine Wskip (qn (Wseq (Wblk (Wseq (Wreg ?_))))); obtain ⟨y7, hy7, hp⟩ := bind_some hp; obtain ⟨b10, o11, rfl, hi8, hi9⟩ := hc.ra 0 hrd0 hy7; refine sz (ixx rfl rfl U51 Z21 hi8 hi9 rfl) ?_; have hcell14 := hc.rv 0 hrd0 hy7; refine sz (ld rfl G21 (hcell14 0 _ rfl)) <| au 1 rfl <| rn (qn (Wreg ?_)); refine au 2 rfl ?_; obtain ⟨r16, hr16, hp⟩ := bind_some hp; refine kz C71 ?_; refine norm_tame_any hc hr16 ?_; clear hc; intro w17 hc; refine au 1 rfl ?_; obtain ⟨r18, hr18, hp⟩ := bind_some hp; refine kz C71 ?_; refine norm_tame_any hc hr18 ?_; clear hc; intro w19 hc; refine au 1 rfl <| sz (cvi rfl U2 U23) <| au 1 rfl ?_; obtain ⟨e20, he20, hp⟩ := bind_some hp; injection he20 with he20; refine sz (v := .int .u64 e20) (av (v := .int .u64 e20) (by rw [← he20]; rfl)) <| rn (bn (qn (Wreg ?_))); refine au 2 rfl <| rn (qn ?_); exact ⟨m1, Nat.lt_succ_self _, ⟨e20, (IntKind.i64.wrap (j2 + 1)), rfl, hp, hc⟩, (kl rfl k0)⟩

def bits_Mul64 (x0 : Int) (x1 : Int) : Option (Int × Int) :=
  (some (IntKind.u64.wrap ((iand .u64 x0 4294967295) * (iand .u64 x1 4294967295)))).bind fun e1 =>
  (some (IntKind.u64.wrap ((IntKind.u64.wrap ((ishr .u64 x0 32) * (iand .u64 x1 4294967295))) + (ishr .u64 e1 32)))).bind fun e2 =>
  (some (IntKind.u64.wrap ((iand .u64 e2 4294967295) + (IntKind.u64.wrap ((iand .u64 x0 4294967295) * (ishr .u64 x1 32)))))).bind fun e3 =>
  (some (IntKind.u64.wrap ((IntKind.u64.wrap ((IntKind.u64.wrap ((ishr .u64 x0 32) * (ishr .u64 x1 32))) + (ishr .u64 e2 32))) + (ishr .u64 e3 32)))).bind fun e4 =>
  some (e4, (IntKind.u64.wrap (x0 * x1)))

theorem bits_Mul64_any {x0 x1 : Int} {Fr : List HP} {w : World} {r : Int × Int} {K : Value → World → Prop}  (hc : Ctx w (Fr)) (hp : bits_Mul64 x0 x1 = some r)
    (k : ∀ w', Ctx w' (Fr) → K (.tuple #[.int .u64 r.1, .int .u64 r.2]) w') : Calls Tryz.prog 125 #[.int .u64 x0, .int .u64 x1] w (Ret K) := by
 unfold bits_Mul64 at hp; refine Center2 F125 M125 rfl rfl ?_; refine Wseq (Wreg ?_); refine au 2 rfl <| rn (qn (Wseq (Wreg ?_))); refine au 1 rfl <| sz (and_ rfl rfl) <| au 1 rfl <| rn (qn (Wseq (Wreg ?_))); refine au 1 rfl <| sz (shr_ rfl rfl (by decide)) <| au 1 rfl <| rn (qn (Wseq (Wreg ?_))); refine au 1 rfl <| sz (and_ rfl rfl) <| au 1 rfl <| rn (qn (Wseq (Wreg ?_))); refine au 1 rfl <| sz (shr_ rfl rfl (by decide)) <| au 1 rfl <| rn (qn (Wseq (Wreg ?_))); refine au 3 rfl ?_; obtain ⟨e1, he1, hp⟩ := bind_some hp; injection he1 with he1; refine sz (v := .int .u64 e1) (av (v := .int .u64 e1) (by rw [← he1]; rfl)) <| rn (qn (Wseq (Wreg ?_))); refine au 4 rfl <| sz (shr_ rfl rfl (by decide)) <| au 1 rfl ?_; obtain ⟨e2, he2, hp⟩ := bind_some hp; injection he2 with he2; refine sz (v := .int .u64 e2) (av (v := .int .u64 e2) (by rw [← he2]; rfl)) <| rn (qn (Wseq (Wreg ?_))); refine au 1 rfl <| sz (and_ rfl rfl) <| au 1 rfl <| rn (qn (Wseq (Wreg ?_))); refine au 1 rfl <| sz (shr_ rfl rfl (by decide)) <| au 1 rfl <| rn (qn (Wseq (Wreg ?_))); refine au 5 rfl ?_; obtain ⟨e3, he3, hp⟩ := bind_some hp; injection he3 with he3; refine sz (v := .int .u64 e3) (av (v := .int .u64 e3) (by rw [← he3]; rfl)) <| rn (qn (Wseq (Wreg ?_))); refine au 6 rfl <| sz (shr_ rfl rfl (by decide)) <| au 1 rfl ?_; obtain ⟨e4, he4, hp⟩ := bind_some hp; injection he4 with he4; refine sz (v := .int .u64 e4) (av (v := .int .u64 e4) (by rw [← he4]; rfl)) <| rn (qn (Wseq (Wreg ?_))); refine au 4 rfl <| rn (qn (Wret ?_)); obtain rfl := sj hp; exact fz2 R125 M125 (k _ hc)

def curve_Root.J2 (j5 : Int) (k1 : Int → Int → Option (Int)) (j8 : Int) : Option (Int) :=
  k1 j8 (IntKind.u64.wrap (j5 - 1))

def curve_Root.J3 (j4 : Int) (j5 : Int) (e10 : Int) (k1 : Int → Int → Option (Int)) (j13 : Bool) : Option (Int) :=
  if j13 = true then
    curve_Root.J2 j5 k1 e10
  else
    curve_Root.J2 j5 k1 j4

def curve_Root.L1 (x0 : Int) : Nat → Int → Int → Option (Int)
  | 0, _, _ => none
  | m1 + 1, j4, j5 =>
    if j5 > 0 then
      chk (0 ≤ (IntKind.u64.wrap (j5 - 1))) <|
      (some (ior .u64 j4 (ishl .u64 1 (IntKind.u64.wrap (j5 - 1))))).bind fun e10 =>
      (bits_Mul64 e10 e10).bind fun r11 =>
      if r11.1 = 0 then
        curve_Root.J3 j4 j5 e10 (curve_Root.L1 x0 m1) (decide (r11.2 ≤ x0))
      else
        curve_Root.J3 j4 j5 e10 (curve_Root.L1 x0 m1) false
    else
      some j4

def curve_Root (N : Nat) (x0 : Int) : Option (Int) :=
  (bits_Len64 x0).bind fun r1 =>
  (some (IntKind.u64.wrap (Int.tdiv (IntKind.u64.wrap (IntKind.i64.wrap (r1 + 1))) 2))).bind fun e3 =>
  curve_Root.L1 x0 N 0 e3

theorem curve_Root_any {N : Nat} {x0 r : Int} {Fr : List HP} {w : World} {K : Value → World → Prop}  (hc : Ctx w (Fr)) (hp : curve_Root N x0 = some r)
    (k : ∀ w', Ctx w' (Fr) → K (.int .u64 r) w') : Calls Tryz.prog 98 #[.int .u64 x0] w (Ret K) := by
 unfold curve_Root at hp; refine Center1 F98 M98 rfl rfl ?_; refine Wseq (Wreg ?_); refine au 1 rfl <| rn (qn (Wseq (Wreg ?_))); refine au 1 rfl <| rn (qn (Wseq (Wseq (Wreg ?_)))); refine au 1 rfl ?_; replace hp := bind_some hp; obtain ⟨r1, hr1, hp⟩ := hp; refine kz C124 ?_; refine bits_Len64_any hc hr1 ?_; clear hc; intro w2 hc; refine au 1 rfl <| sz (cvi rfl U3 U138) <| sz (quw rfl rfl (by decide)) ?_; replace hp := bind_some hp; obtain ⟨e3, he3, hp⟩ := hp; injection he3 with he3; refine sz (v := .int .u64 e3) (av (v := .int .u64 e3) (by rw [← he3]; rfl)) <| rn (qn (Wblk ?_)); refine Wloop (rg [3, 5, 13, 23]) [3, 4] (fun m vs w' => ∃ j4 : Int, ∃ j5 : Int, vs = [.int .u64 j4, .int .u64 j5] ∧ curve_Root.L1 x0 m j4 j5 = some r ∧ Ctx w' (Fr)) N ?_ ?_
 · exact ⟨0, e3, rfl, hp, hc⟩
 · clear hp hc; intro m vs u w6 hJ; obtain ⟨j4, j5, rfl, hp, hc⟩ := hJ; rcases m with _ | m1
   · cases (show none = some r from hp)
   rw [curve_Root.L1] at hp; refine Wseq (Wseq (Wreg ?_)); refine au 2 rfl <| rn (qn ?_); refine Wif hp (fun _ h => ?_) fun _ h => ?_
   · replace hp := h; clear h; refine Wexit (qx (qx (be (qn (Wseq (Wreg ?_)))))); refine au 2 rfl <| rn (qn (Wret ?_)); obtain rfl := sj hp; exact fz R98 M98 (k _ hc)
   · replace hp := h; clear h; refine Wskip (qn ?_); refine Wseqm (rg [3, 1, 5, 3, 17, 19]) [3] (fun vs w' => ∃ j8 : Int, vs = [.int .u64 j8] ∧ curve_Root.J2 j5 (curve_Root.L1 x0 m1) j8 = some r ∧ Ctx w' (Fr)) ?_ ?_
     · refine Wblk (Wseq (Wreg ?_)); refine au 3 rfl ?_; replace hp := chk_some hp; obtain ⟨hg9, hp⟩ := hp; refine sz (shl_ rfl rfl hg9) <| sz (or_ rfl rfl) ?_; replace hp := bind_some hp; obtain ⟨e10, he10, hp⟩ := hp; injection he10 with he10; refine sz (v := .int .u64 e10) (av (v := .int .u64 e10) (by rw [← he10]; rfl)) <| rn (qn (Wseq (Wreg ?_))); refine au 2 rfl ?_; replace hp := bind_some hp; obtain ⟨r11, hr11, hp⟩ := hp; refine kz C125 ?_; refine bits_Mul64_any hc hr11 ?_; clear hc; intro w12 hc; refine au 5 rfl <| rn (qn ?_); refine Wseqm (rg [28, 7]) [34] (fun vs w' => ∃ j13 : Bool, vs = [.bool j13] ∧ curve_Root.J3 j4 j5 e10 (curve_Root.L1 x0 m1) j13 = some r ∧ Ctx w' (Fr)) ?_ ?_
       · refine Wreg <| au 3 rfl ?_; cases hb14 : (decide (r11.1 = 0))
         · replace hp := gneg hp (of_decide_eq_false hb14); (iterate 3 refine r0 rfl ?_); refine au 1 rfl <| rn (qn ?_); exact ⟨⟨false, rfl, hp, hc⟩, (kl rfl kb)⟩
         · replace hp := gpos hp (of_decide_eq_true hb14); refine au 4 rfl <| rn (qn ?_); exact ⟨⟨decide (r11.2 ≤ x0), rfl, hp, hc⟩, (kl rfl kb)⟩
       · clear hp hc; intro vs u w15 hJ; obtain ⟨j13, rfl, hp, hc⟩ := hJ; unfold curve_Root.J3 at hp; cases hb16 : j13
         · replace hp := gneg hp (by rw [hb16]; exact Bool.false_ne_true); subst hb16; refine Wcf rfl (Wskip (bn (qn ?_))); exact ⟨⟨j4, rfl, hp, hc⟩, (kl rfl (km rfl (kl rfl kb)))⟩
         · replace hp := gpos hp hb16; subst hb16; refine Wct rfl (Wreg ?_); refine au 2 rfl <| rn (bn (qn ?_)); exact ⟨⟨e10, rfl, hp, hc⟩, (kl rfl (km rfl (kl rfl kb)))⟩
     · clear hp hc; intro vs u w17 hJ; obtain ⟨j8, rfl, hp, hc⟩ := hJ; unfold curve_Root.J2 at hp; refine Wreg <| au 3 rfl <| rn (qn ?_); exact ⟨m1, Nat.lt_succ_self _, ⟨j8, (IntKind.u64.wrap (j5 - 1)), rfl, hp, hc⟩, (kl rfl (km rfl (kl rfl k0)))⟩

def curve_Inverse (N : Nat) (x0 : Int) : Option (Int) :=
  if x0 = 0 then
    some 16777216
  else
    chk (x0 ≠ 0) <|
    (curve_Root N (IntKind.u64.wrap (Int.tdiv 281474976710656 x0))).bind fun r3 =>
    some r3

theorem curve_Inverse_any {N : Nat} {x0 r : Int} {Fr : List HP} {w : World} {K : Value → World → Prop}  (hc : Ctx w (Fr)) (hp : curve_Inverse N x0 = some r)
    (k : ∀ w', Ctx w' (Fr) → K (.int .u64 r) w') : Calls Tryz.prog 67 #[.int .u64 x0] w (Ret K) := by
 unfold curve_Inverse at hp; refine Center1 F67 M67 rfl rfl ?_; refine Wseq (Wreg ?_); refine au 1 rfl <| rn (qn (Wseq (Wseq (Wreg ?_)))); refine au 2 rfl <| rn (qn ?_); refine Wif hp (fun _ hp => ?_) fun _ hp => ?_
 · refine Wskip (qn (Wseq (Wreg ?_))); refine au 1 rfl ?_; obtain ⟨hg2, hp⟩ := chk_some hp; refine sz (quw rfl rfl hg2) ?_; obtain ⟨r3, hr3, hp⟩ := bind_some hp; refine kz C98 ?_; refine curve_Root_any hc hr3 ?_; clear hc; intro w4 hc; refine au 1 rfl <| rn (qn (Wret ?_)); obtain rfl := sj hp; exact fz R67 M67 (k _ hc)
 · refine Wseq (Wreg ?_); refine au 1 rfl <| rn (qn (Wret (qr ?_))); obtain rfl := sj hp; exact fz R67 M67 (k _ hc)

def norm_Norm.L1 (x0 : (List Int)) (x1 : (List Int)) (r6 : (Int)) : Nat → (List Int) → Int → Option ((List Int) × Int)
  | 0, _, _ => none
  | m1 + 1, j13, j17 =>
    if j17 < ((x1.length : Nat) : Int) then
      (idx x1 j17).bind fun y20 =>
      (norm_tame y20).bind fun r30 =>
      (idx x0 j17).bind fun y32 =>
      (round_Shift (IntKind.i64.wrap ((IntKind.i64.wrap (r30 * (IntKind.i64.wrap r6))) * (IntKind.i64.wrap y32))) 23).bind fun r41 =>
      (round_Sat8 r41).bind fun r43 =>
      (idx j13 j17).bind fun y45 =>
      (norm_Norm.L1 x0 x1 r6 m1) (j13.set (j17).toNat r43) (IntKind.i64.wrap (j17 + 1))
    else
      some (j13, 0)

def norm_Norm (N : Nat) (x0 : (List Int)) (x1 : (List Int)) : Option ((List Int) × Int) :=
  if ((x0.length : Nat) : Int) ≠ ((x1.length : Nat) : Int) then
    some ([], 30)
  else
    if ((x1.length : Nat) : Int) > 4096 then
      some ([], 30)
    else
      if ((x1.length : Nat) : Int) = 0 then
        some ([], 0)
      else
        (norm_square N x1).bind fun r4 =>
        (curve_Inverse N r4).bind fun r6 =>
        chk (0 ≤ ((x1.length : Nat) : Int) ∧ ((x1.length : Nat) : Int) ≤ 4294967296) <|
        norm_Norm.L1 x0 x1 r6 N (List.replicate (((x1.length : Nat) : Int)).toNat 0) 0

theorem norm_Norm_any {N nx0 qx0 nx1 qx1 : Nat} {x0 x1 : (List Int)} {ax0 ax1 : Option Addr} {P0 P1 : HP} {Fr : List HP} {w : World} {r : (List Int) × Int} {K : Value → World → Prop} (hrd0 : Reads P0 (pInt .i8) (.slice ax0 nx0 qx0) x0) (hrd1 : Reads P1 (pInt .i32) (.slice ax1 nx1 qx1) x1) (hc : Ctx w (P0 :: P1 :: Fr)) (hp : norm_Norm N x0 x1 = some r)
    (k : ∀ a52 n53 q54 w', Ctx w' (Own (pInt .i8) 88 (.slice a52 n53 q54) r.1 :: P0 :: P1 :: Fr) → K (.tuple #[.slice a52 n53 q54, .int .i64 r.2]) w') : Calls Tryz.prog 33 #[.slice ax0 nx0 qx0, .slice ax1 nx1 qx1] w (Ret K) := by
 unfold norm_Norm at hp; refine Center2 F33 M33 rfl rfl ?_; obtain ⟨hn0, _⟩ := Ctx.rdLen hc (k := 0) rfl rfl hrd0; subst hn0; obtain ⟨hn1, _⟩ := Ctx.rdLen hc (k := 1) rfl rfl hrd1; subst hn1; refine Wseq (Wreg ?_); refine au 2 rfl <| rn (qn (Wseq (Wseq (Wreg ?_)))); refine au 1 rfl <| sz (ln rfl U30) <| au 1 rfl <| sz (ln rfl U51) <| au 2 rfl ?_; cases hb1 : (decide (((x0.length : Nat) : Int) ≠ ((x1.length : Nat) : Int)))
 · replace hp := gneg hp (of_decide_eq_false hb1); refine au 1 rfl <| sz (ln rfl U51) <| au 2 rfl <| rn (qn ?_); refine Wif hp (fun _ hp => ?_) fun _ hp => ?_
   · refine Wskip (qn (Wseq (Wseq (Wreg ?_)))); refine au 1 rfl <| sz (ln rfl U51) <| au 1 rfl <| rn (qn ?_); refine Wif hp (fun _ hp => ?_) fun _ hp => ?_
     · refine Wskip (qn (Wseq (Wreg ?_))); refine au 1 rfl ?_; obtain ⟨r4, hr4, hp⟩ := bind_some hp; replace hc := hc.m [2]; refine kz C68 ?_; refine norm_square_any hrd1 hc hr4 ?_; clear hc; intro w5 hc; obtain ⟨r6, hr6, hp⟩ := bind_some hp; refine kz C67 ?_; refine curve_Inverse_any hc hr6 ?_; clear hc; intro w7 hc; refine sz (cvi rfl U23 U2) <| au 1 rfl <| rn (qn (Wseq (Wreg ?_))); refine au 1 rfl <| sz (ln rfl U51) ?_; obtain ⟨hg8, hp⟩ := chk_some hp; have hm10 : ((((x1.length : Nat) : Int)).toNat : Int) = ((x1.length : Nat) : Int) := Int.toNat_of_nonneg hg8.1; refine rsE (Ctx.make (n := (((x1.length : Nat) : Int)).toNat) (E := (pInt .i8)) (x0 := 0) hc (by rw [hm10]; rfl) (by rw [hm10]; rfl) U30 (i := Tryz.t88) rfl rfl rfl rfl rfl rfl (fun _ _ => rfl) (by omega)) rfl ?_; clear hc; rintro _ w12 ⟨a9, rfl, hc⟩; refine au 1 rfl <| rn (qn (Wseq (Wseq (Wreg ?_)))); refine au 1 rfl <| sz (ln rfl U51) <| au 1 rfl <| rn (qn (Wblk ?_)); refine Wloop (rg [8, 2, 32, 21]) [32] (fun m vs w' => ∃ j13 : (List Int), ∃ j17 : Int, vs = [.int .i64 j17] ∧ norm_Norm.L1 x0 x1 r6 m j13 j17 = some r ∧ Ctx w' (Own (pInt .i8) 88 (.slice a9 ((((x1.length : Nat) : Int)).toNat) ((((x1.length : Nat) : Int)).toNat)) j13 :: P1 :: P0 :: Fr)) N ?_ ?_
       · exact ⟨(List.replicate (((x1.length : Nat) : Int)).toNat 0), 0, rfl, hp, hc⟩
       · clear hp hc; intro m vs u w18 hJ; obtain ⟨j13, j17, rfl, hp, hc⟩ := hJ; rcases m with _ | m1
         · cases (show none = some r from hp)
         rw [norm_Norm.L1] at hp; refine Wseq (Wreg ?_); refine au 1 rfl <| rn (qn (Wseq ?_)); refine Wif hp (fun _ hp => ?_) fun _ hp => ?_
         · refine Wexit (qx (qx (be (qn (Wseq (Wreg ?_)))))); refine au 3 rfl <| rn (qn (Wret ?_)); replace hc := hc.m [2, 4, 4]; obtain rfl := sj hp; exact fz2 R33 M33 (k _ _ _ _ hc)
         · refine Wskip (qn (Wseq (Wblk (Wseq (Wreg ?_))))); refine au 1 rfl ?_; obtain ⟨y20, hy20, hp⟩ := bind_some hp; obtain ⟨b23, o24, rfl, hi21, hi22⟩ := hc.ra 1 hrd1 hy20; refine sz (ixx rfl rfl U51 Z21 hi21 hi22 rfl) ?_; have hcell27 := hc.rv 1 hrd1 hy20; refine sz (ld rfl G21 (hcell27 0 _ rfl)) <| au 2 rfl <| rn (qn ?_); replace hc := hc.drew; refine Wdrw (fun j w' => (j = 9 → PinRow (pInt .i8) ax0 x0 w') ∧ True) [0, 0, 0, 4, 0, 28, 0, 0, 192, 448, 960, 2044, 4092, 8188, 16383, 32767] 0 0 rfl (by kernel_rfl) (fun j hj => ⟨fun _ => PinRow.of hc (k := 2) rfl rfl hrd0 (fun _ _ _ _ _ _ _ h1 h2 => h1.trans h2.symm), trivial⟩) ?_; generalize hw : World.drew w18 = w29 at *; clear hw; refine ad_ 3 rfl ?_; obtain ⟨r30, hr30, hp⟩ := bind_some hp; refine dc (cl C71 rfl rfl) rfl rfl ?_; refine norm_tame_any hc hr30 ?_; clear hc; intro w31 hc; refine ⟨fun j hj hb => ⟨fun _ => PinRow.of hc (k := 2) rfl rfl hrd0 (fun _ _ _ _ _ _ _ h1 h2 => h1.trans h2.symm), trivial⟩, ?_⟩; refine ad_ 4 rfl ?_; obtain ⟨y32, hy32, hp⟩ := bind_some hp; obtain ⟨b35, o36, rfl, hi33, hi34⟩ := hc.ra 2 hrd0 hy32; refine ds rfl (fun w' hF => ixx rfl rfl U30 Z88 hi33 hi34 rfl) rfl ?_; have hcell39 := hc.rv 2 hrd0 hy32; refine ds rfl (fun w' hF => ld rfl G88 ((hF.1 rfl) _ _ _ _ hy32 rfl w' (fun _ => True) _ rfl 0 _ rfl)) rfl <| ds rfl (fun w' hF => cvi rfl U88 U2) rfl <| ad_ 1 rfl ?_; obtain ⟨r41, hr41, hp⟩ := bind_some hp; refine dc (cl C70 rfl rfl) rfl rfl ?_; refine round_Shift_any hc hr41 ?_; clear hc; intro w42 hc; refine ⟨fun j hj hb => ⟨fun e => nja hj e, trivial⟩, ?_⟩; obtain ⟨r43, hr43, hp⟩ := bind_some hp; refine dc (cl C69 rfl rfl) rfl rfl ?_; refine round_Sat8_any hc hr43 ?_; clear hc; intro w44 hc; refine ⟨fun j hj hb => ⟨fun e => nja hj e, trivial⟩, ?_⟩; obtain ⟨y45, hy45, hp⟩ := bind_some hp; obtain ⟨b48, o49, rfl, hi46, hi47⟩ := hc.ra 0 reads_own hy45; refine ds rfl (fun w' hF => ixx rfl rfl U30 Z88 hi46 hi47 rfl) rfl ?_; refine duE (Ctx.ownPutOp hc (k := 0) rfl rfl (z := y45) (z' := r43) hy45 0 rfl (u := .int .i8 r43) rfl rfl rfl Z88 (fun _ _ _ h => by cases h; rfl) rfl) rfl rfl ?_; clear hc; rintro w51 hc; replace hc := Ctx.n0 hc; refine ⟨fun j hj hb => ⟨fun e => nja hj e, trivial⟩, ?_⟩; refine dn (bn (qn (Wreg ?_))); refine au 2 rfl <| rn (qn ?_); exact ⟨m1, Nat.lt_succ_self _, ⟨(j13.set (j17).toNat r43), (IntKind.i64.wrap (j17 + 1)), rfl, hp, hc⟩, (kl rfl k0)⟩
     · refine Wseq (Wreg ?_); refine au 2 rfl <| rn (qn (Wret (qr ?_))); replace hc := hc.nilOwn (pInt .i8) 88; obtain rfl := sj hp; exact fz2 R33 M33 (k _ _ _ _ hc)
   · refine Wseq (Wreg ?_); refine au 2 rfl <| rn (qn (Wret (qr ?_))); replace hc := hc.nilOwn (pInt .i8) 88; obtain rfl := sj hp; exact fz2 R33 M33 (k _ _ _ _ hc)
 · replace hp := gpos hp (of_decide_eq_true hb1); (iterate 3 refine r0 rfl ?_); refine au 1 rfl <| rn (qn (Wct rfl (Wseq (Wreg ?_)))); refine au 2 rfl <| rn (qn (Wret (qr ?_))); replace hc := hc.nilOwn (pInt .i8) 88; obtain rfl := sj hp; exact fz2 R33 M33 (k _ _ _ _ hc)

def round_Dot.L1 (x0 : (List Int)) (x1 : (List Int)) : Nat → Int → Int → Option (Int)
  | 0, _, _ => none
  | m1 + 1, j1, j2 =>
    if j2 < (min ((x0.length : Nat) : Int) ((x1.length : Nat) : Int)) then
      (idx x0 j2).bind fun y6 =>
      (idx x1 j2).bind fun y15 =>
      (round_Dot.L1 x0 x1 m1) (IntKind.i32.wrap (j1 + (IntKind.i32.wrap ((IntKind.i32.wrap y6) * (IntKind.i32.wrap y15))))) (IntKind.i64.wrap (j2 + 1))
    else
      some j1

def round_Dot (N : Nat) (x0 : (List Int)) (x1 : (List Int)) : Option (Int) :=
  round_Dot.L1 x0 x1 N 0 0

theorem round_Dot_any {N nx0 qx0 nx1 qx1 : Nat} {x0 x1 : (List Int)} {ax0 ax1 : Option Addr} {P0 P1 : HP} {Fr : List HP} {w : World} {r : Int} {K : Value → World → Prop} (hrd0 : Reads P0 (pInt .i8) (.slice ax0 nx0 qx0) x0) (hrd1 : Reads P1 (pInt .i8) (.slice ax1 nx1 qx1) x1) (hc : Ctx w (P0 :: P1 :: Fr)) (hp : round_Dot N x0 x1 = some r)
    (k : ∀ w', Ctx w' (P0 :: P1 :: Fr) → K (.int .i32 r) w') : Calls Tryz.prog 79 #[.slice ax0 nx0 qx0, .slice ax1 nx1 qx1] w (Ret K) := by
 unfold round_Dot at hp; refine Center2 F79 M79 rfl rfl ?_; obtain ⟨hn0, _⟩ := Ctx.rdLen hc (k := 0) rfl rfl hrd0; subst hn0; obtain ⟨hn1, _⟩ := Ctx.rdLen hc (k := 1) rfl rfl hrd1; subst hn1; refine Wseq (Wreg ?_); refine au 1 rfl <| rn (qn (Wseq (Wreg ?_))); refine au 1 rfl <| rn (qn (Wseq (Wseq (Wreg ?_)))); refine au 1 rfl <| sz (ln rfl U30) <| au 1 rfl <| sz (ln rfl U30) <| sz (v := .int .i64 (min ((x0.length : Nat) : Int) ((x1.length : Nat) : Int))) (bmn rfl rfl U3) <| au 1 rfl <| rn (qn (Wblk ?_)); refine Wloop (rg [5, 2, 12, 17]) [5, 12] (fun m vs w' => ∃ j1 : Int, ∃ j2 : Int, vs = [.int .i32 j1, .int .i64 j2] ∧ round_Dot.L1 x0 x1 m j1 j2 = some r ∧ Ctx w' (P0 :: P1 :: Fr)) N ?_ ?_
 · exact ⟨0, 0, rfl, hp, hc⟩
 · clear hp hc; intro m vs u w3 hJ; obtain ⟨j1, j2, rfl, hp, hc⟩ := hJ; rcases m with _ | m1
   · cases (show none = some r from hp)
   rw [round_Dot.L1] at hp; refine Wseq (Wreg ?_); refine au 1 rfl <| rn (qn (Wseq ?_)); refine Wif hp (fun _ hp => ?_) fun _ hp => ?_
   · refine Wexit (qx (qx (be (qn (Wseq (Wreg ?_)))))); refine au 2 rfl <| rn (qn (Wret ?_)); obtain rfl := sj hp; exact fz R79 M79 (k _ hc)
   · refine Wskip (qn (Wseq (Wblk (Wseq (Wreg ?_))))); refine au 2 rfl <| rn (qn ?_); replace hc := hc.drew; refine Wdrw (fun _ w' => w' = World.drew w3) [0, 0, 0, 6, 14, 30, 0, 0, 192, 448, 960, 2046, 4095, 8191] 0 0 rfl (by kernel_rfl) (fun _ _ => rfl) ?_; generalize hw : World.drew w3 = w5 at *; clear hw; refine ad_ 3 rfl ?_; obtain ⟨y6, hy6, hp⟩ := bind_some hp; obtain ⟨b9, o10, rfl, hi7, hi8⟩ := hc.ra 0 hrd0 hy6; refine dE (ixx rfl rfl U30 Z88 hi7 hi8 rfl) rfl rfl ?_; have hcell13 := hc.rv 0 hrd0 hy6; refine dE (ld rfl G88 (hcell13 0 _ rfl)) rfl rfl <| dE (cvi rfl U88 U21) rfl rfl <| ad_ 2 rfl ?_; obtain ⟨y15, hy15, hp⟩ := bind_some hp; obtain ⟨b18, o19, rfl, hi16, hi17⟩ := hc.ra 1 hrd1 hy15; refine dE (ixx rfl rfl U30 Z88 hi16 hi17 rfl) rfl rfl ?_; have hcell22 := hc.rv 1 hrd1 hy15; refine dE (ld rfl G88 (hcell22 0 _ rfl)) rfl rfl <| dE (cvi rfl U88 U21) rfl rfl <| ad_ 3 rfl <| dn (bn (qn (Wreg ?_))); refine au 2 rfl <| rn (qn ?_); exact ⟨m1, Nat.lt_succ_self _, ⟨(IntKind.i32.wrap (j1 + (IntKind.i32.wrap ((IntKind.i32.wrap y6) * (IntKind.i32.wrap y15))))), (IntKind.i64.wrap (j2 + 1)), rfl, hp, hc⟩, (kl rfl k0)⟩

end Go.Proofs.YtbfiagimgokccaaGreat
end
