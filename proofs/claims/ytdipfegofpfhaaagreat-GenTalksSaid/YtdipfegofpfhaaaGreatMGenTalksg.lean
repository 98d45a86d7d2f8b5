/- What the law needs. -/
import Derived.Test.YtdipfegofpfhaaaGreatMGenTalksa
import Derived.Test.YtdipfegofpfhaaaGreatMGenTalksd
import Derived.Test.YtdipfegofpfhaaaGreatMGenTalkse
import Derived.Test.YtdipfegofpfhaaaGreatMGenTalksf
import Derived.Test.YtdipfegofpfhaaaGreatProg
section
namespace Go.Proofs.YtdipfegofpfhaaaGreat
open Go Go.RowKit Go.Hp
set_option linter.unusedVariables false
set_option linter.unusedSimpArgs false
set_option maxRecDepth 100000

structure S_ref08_taker where
  l : (List Int)
  at_ : Int
  deriving DecidableEq

def S_ref08_taker.hp (b : Nat) (x : S_ref08_taker) : HP := Ex fun v0 : Value => Sep (B b [v0, .int .i64 x.at_] 123) (Own (pInt .i8) 45 v0 x.l)

theorem S_ref08_taker.uf {w : World} {l : List HP} {b : Nat} {x : S_ref08_taker} (h : Ctx w (S_ref08_taker.hp b x :: l)) : ∃ (a0 : Option Addr) (q0 : Nat), Ctx w (B b [.slice a0 x.l.length q0, .int .i64 x.at_] 123 :: Own (pInt .i8) 45 (.slice a0 x.l.length q0) x.l :: l) := by
  obtain ⟨v0, h⟩ := Ctx.exF h
  replace h := Ctx.sepF h
  obtain ⟨a0, q0, u0⟩ := h.rd (k := 1) rfl rfl reads_own; subst u0
  exact ⟨a0, q0, h⟩
theorem S_ref08_taker.fd {w : World} {l : List HP} {b : Nat} {x : S_ref08_taker} {v0 : Value} (h : Ctx w (B b [v0, .int .i64 x.at_] 123 :: Own (pInt .i8) 45 v0 x.l :: l)) : Ctx w (S_ref08_taker.hp b x :: l) := Ctx.exB _ _ (Ctx.sepB h)

structure S_api_Mat where
  Rows : Int
  Cols : Int
  V : (List Int)
  deriving DecidableEq

def S_api_Mat.pr : PR S_api_Mat 3 := pMap (fun x : S_api_Mat => (x.Rows, x.Cols, x.V)) (pSeq (pInt .i64) (pSeq (pInt .i64) (pRo (pInt .i8))))

theorem S_api_Mat.op {w : World} {l : List HP} {cs : List Value} {x : S_api_Mat} (h : Ctx w (Hold S_api_Mat.pr cs x :: l)) : ∃ a2 q2, cs = [.int .i64 x.Rows, .int .i64 x.Cols, .slice a2 x.V.length q2] ∧ Ctx w (Hold (pRo (pInt .i8)) [.slice a2 x.V.length q2] x.V :: l) := by
  obtain ⟨R, Ss, hc⟩ := h
  match Ss, hc with
  | S :: Ss, hc =>
    obtain ⟨⟨rfl, ⟨_, _, rfl, rfl, ⟨_, _, rfl, rfl, ⟨_, rfl, a2, q2, rfl, hc2, hr2⟩⟩⟩⟩, h3⟩ := hc.all
    exact ⟨a2, q2, rfl, R, [] :: Ss, ⟨⟨rfl, _, rfl, a2, q2, rfl, hc2, hr2⟩, h3⟩, by simpa using hc.nodup, by simpa using hc.own, hc.fz⟩
theorem S_api_Mat.cl {w : World} {l : List HP} {z0 : Int} {z1 : Int} {z2 : (List Int)} {v2 : Value} (h : Ctx w (Hold (pRo (pInt .i8)) [v2] z2 :: l)) : Ctx w (Hold S_api_Mat.pr [.int .i64 z0, .int .i64 z1, v2] (⟨z0, z1, z2⟩ : S_api_Mat) :: l) := by
  obtain ⟨R, Ss, hc⟩ := h
  match Ss, hc with
  | S2 :: Ss, hc =>
    obtain ⟨⟨rfl, _, e2, hr2⟩, h3⟩ := hc.all
    injection e2 with e2; subst e2
    exact ⟨R, [] :: Ss, ⟨⟨rfl, ⟨_, _, rfl, rfl, ⟨_, _, rfl, rfl, ⟨_, rfl, hr2⟩⟩⟩⟩, h3⟩, by simpa using hc.nodup, by simpa using hc.own, hc.fz⟩
  | [], hc => exact hc.all.elim

structure S_api_Shape where
  Layers : Int
  Width : Int
  Heads : Int
  Inner : Int
  Vocab : Int
  Places : Int
  deriving DecidableEq

def S_api_Shape.pr : PR S_api_Shape 6 := pC (fun x => [.int .i64 x.Layers, .int .i64 x.Width, .int .i64 x.Heads, .int .i64 x.Inner, .int .i64 x.Vocab, .int .i64 x.Places]) (fun _ => rfl) (fun _ => rfl)

structure S_api_Block where
  First : (List Int)
  Second : (List Int)
  Q : S_api_Mat
  K : S_api_Mat
  V : S_api_Mat
  O : S_api_Mat
  Up : S_api_Mat
  Down : S_api_Mat
  deriving DecidableEq

def S_api_Block.pr : PR S_api_Block 20 := pMap (fun x : S_api_Block => (x.First, x.Second, x.Q, x.K, x.V, x.O, x.Up, x.Down)) (pSeq (pRo (pInt .i8)) (pSeq (pRo (pInt .i8)) (pSeq S_api_Mat.pr (pSeq S_api_Mat.pr (pSeq S_api_Mat.pr (pSeq S_api_Mat.pr (pSeq S_api_Mat.pr S_api_Mat.pr)))))))

theorem S_api_Block.op {w : World} {l : List HP} {cs : List Value} {x : S_api_Block} (h : Ctx w (Hold S_api_Block.pr cs x :: l)) : ∃ a0 q0 a1 q1 a4 q4 a7 q7 a10 q10 a13 q13 a16 q16 a19 q19, cs = [.slice a0 x.First.length q0, .slice a1 x.Second.length q1, .int .i64 x.Q.Rows, .int .i64 x.Q.Cols, .slice a4 x.Q.V.length q4, .int .i64 x.K.Rows, .int .i64 x.K.Cols, .slice a7 x.K.V.length q7, .int .i64 x.V.Rows, .int .i64 x.V.Cols, .slice a10 x.V.V.length q10, .int .i64 x.O.Rows, .int .i64 x.O.Cols, .slice a13 x.O.V.length q13, .int .i64 x.Up.Rows, .int .i64 x.Up.Cols, .slice a16 x.Up.V.length q16, .int .i64 x.Down.Rows, .int .i64 x.Down.Cols, .slice a19 x.Down.V.length q19] ∧ Ctx w (Hold (pRo (pInt .i8)) [.slice a0 x.First.length q0] x.First :: Hold (pRo (pInt .i8)) [.slice a1 x.Second.length q1] x.Second :: Hold (pRo (pInt .i8)) [.slice a4 x.Q.V.length q4] x.Q.V :: Hold (pRo (pInt .i8)) [.slice a7 x.K.V.length q7] x.K.V :: Hold (pRo (pInt .i8)) [.slice a10 x.V.V.length q10] x.V.V :: Hold (pRo (pInt .i8)) [.slice a13 x.O.V.length q13] x.O.V :: Hold (pRo (pInt .i8)) [.slice a16 x.Up.V.length q16] x.Up.V :: Hold (pRo (pInt .i8)) [.slice a19 x.Down.V.length q19] x.Down.V :: l) := by
  obtain ⟨R, Ss, hc⟩ := h
  match Ss, hc with
  | S :: Ss, hc =>
    obtain ⟨⟨rfl, ⟨_, _, rfl, ⟨_, rfl, a0, q0, rfl, hc0, hr0⟩, ⟨_, _, rfl, ⟨_, rfl, a1, q1, rfl, hc1, hr1⟩, ⟨_, _, rfl, ⟨_, _, rfl, rfl, ⟨_, _, rfl, rfl, ⟨_, rfl, a4, q4, rfl, hc4, hr4⟩⟩⟩, ⟨_, _, rfl, ⟨_, _, rfl, rfl, ⟨_, _, rfl, rfl, ⟨_, rfl, a7, q7, rfl, hc7, hr7⟩⟩⟩, ⟨_, _, rfl, ⟨_, _, rfl, rfl, ⟨_, _, rfl, rfl, ⟨_, rfl, a10, q10, rfl, hc10, hr10⟩⟩⟩, ⟨_, _, rfl, ⟨_, _, rfl, rfl, ⟨_, _, rfl, rfl, ⟨_, rfl, a13, q13, rfl, hc13, hr13⟩⟩⟩, ⟨_, _, rfl, ⟨_, _, rfl, rfl, ⟨_, _, rfl, rfl, ⟨_, rfl, a16, q16, rfl, hc16, hr16⟩⟩⟩, ⟨_, _, rfl, rfl, ⟨_, _, rfl, rfl, ⟨_, rfl, a19, q19, rfl, hc19, hr19⟩⟩⟩⟩⟩⟩⟩⟩⟩⟩⟩, h3⟩ := hc.all
    exact ⟨a0, q0, a1, q1, a4, q4, a7, q7, a10, q10, a13, q13, a16, q16, a19, q19, rfl, R, [] :: [] :: [] :: [] :: [] :: [] :: [] :: [] :: Ss, ⟨⟨rfl, _, rfl, a0, q0, rfl, hc0, hr0⟩, ⟨rfl, _, rfl, a1, q1, rfl, hc1, hr1⟩, ⟨rfl, _, rfl, a4, q4, rfl, hc4, hr4⟩, ⟨rfl, _, rfl, a7, q7, rfl, hc7, hr7⟩, ⟨rfl, _, rfl, a10, q10, rfl, hc10, hr10⟩, ⟨rfl, _, rfl, a13, q13, rfl, hc13, hr13⟩, ⟨rfl, _, rfl, a16, q16, rfl, hc16, hr16⟩, ⟨rfl, _, rfl, a19, q19, rfl, hc19, hr19⟩, h3⟩, by simpa using hc.nodup, by simpa using hc.own, hc.fz⟩
theorem S_api_Block.cl {w : World} {l : List HP} {z0 : (List Int)} {z1 : (List Int)} {z2 : Int} {z3 : Int} {z4 : (List Int)} {z5 : Int} {z6 : Int} {z7 : (List Int)} {z8 : Int} {z9 : Int} {z10 : (List Int)} {z11 : Int} {z12 : Int} {z13 : (List Int)} {z14 : Int} {z15 : Int} {z16 : (List Int)} {z17 : Int} {z18 : Int} {z19 : (List Int)} {v0 v1 v4 v7 v10 v13 v16 v19 : Value} (h : Ctx w (Hold (pRo (pInt .i8)) [v0] z0 :: Hold (pRo (pInt .i8)) [v1] z1 :: Hold (pRo (pInt .i8)) [v4] z4 :: Hold (pRo (pInt .i8)) [v7] z7 :: Hold (pRo (pInt .i8)) [v10] z10 :: Hold (pRo (pInt .i8)) [v13] z13 :: Hold (pRo (pInt .i8)) [v16] z16 :: Hold (pRo (pInt .i8)) [v19] z19 :: l)) : Ctx w (Hold S_api_Block.pr [v0, v1, .int .i64 z2, .int .i64 z3, v4, .int .i64 z5, .int .i64 z6, v7, .int .i64 z8, .int .i64 z9, v10, .int .i64 z11, .int .i64 z12, v13, .int .i64 z14, .int .i64 z15, v16, .int .i64 z17, .int .i64 z18, v19] (⟨z0, z1, ⟨z2, z3, z4⟩, ⟨z5, z6, z7⟩, ⟨z8, z9, z10⟩, ⟨z11, z12, z13⟩, ⟨z14, z15, z16⟩, ⟨z17, z18, z19⟩⟩ : S_api_Block) :: l) := by
  obtain ⟨R, Ss, hc⟩ := h
  match Ss, hc with
  | S0 :: S1 :: S4 :: S7 :: S10 :: S13 :: S16 :: S19 :: Ss, hc =>
    obtain ⟨⟨rfl, _, e0, hr0⟩, ⟨rfl, _, e1, hr1⟩, ⟨rfl, _, e4, hr4⟩, ⟨rfl, _, e7, hr7⟩, ⟨rfl, _, e10, hr10⟩, ⟨rfl, _, e13, hr13⟩, ⟨rfl, _, e16, hr16⟩, ⟨rfl, _, e19, hr19⟩, h3⟩ := hc.all
    injection e0 with e0; subst e0
    injection e1 with e1; subst e1
    injection e4 with e4; subst e4
    injection e7 with e7; subst e7
    injection e10 with e10; subst e10
    injection e13 with e13; subst e13
    injection e16 with e16; subst e16
    injection e19 with e19; subst e19
    exact ⟨R, [] :: Ss, ⟨⟨rfl, ⟨_, _, rfl, ⟨_, rfl, hr0⟩, ⟨_, _, rfl, ⟨_, rfl, hr1⟩, ⟨_, _, rfl, ⟨_, _, rfl, rfl, ⟨_, _, rfl, rfl, ⟨_, rfl, hr4⟩⟩⟩, ⟨_, _, rfl, ⟨_, _, rfl, rfl, ⟨_, _, rfl, rfl, ⟨_, rfl, hr7⟩⟩⟩, ⟨_, _, rfl, ⟨_, _, rfl, rfl, ⟨_, _, rfl, rfl, ⟨_, rfl, hr10⟩⟩⟩, ⟨_, _, rfl, ⟨_, _, rfl, rfl, ⟨_, _, rfl, rfl, ⟨_, rfl, hr13⟩⟩⟩, ⟨_, _, rfl, ⟨_, _, rfl, rfl, ⟨_, _, rfl, rfl, ⟨_, rfl, hr16⟩⟩⟩, ⟨_, _, rfl, rfl, ⟨_, _, rfl, rfl, ⟨_, rfl, hr19⟩⟩⟩⟩⟩⟩⟩⟩⟩⟩⟩, h3⟩, by simpa using hc.nodup, by simpa using hc.own, hc.fz⟩
  | [], hc => exact hc.all.elim
  | [_], hc => exact hc.all.2.elim
  | [_, _], hc => exact hc.all.2.2.elim
  | [_, _, _], hc => exact hc.all.2.2.2.elim
  | [_, _, _, _], hc => exact hc.all.2.2.2.2.elim
  | [_, _, _, _, _], hc => exact hc.all.2.2.2.2.2.elim
  | [_, _, _, _, _, _], hc => exact hc.all.2.2.2.2.2.2.elim
  | [_, _, _, _, _, _, _], hc => exact hc.all.2.2.2.2.2.2.2.elim

structure S_api_Weights where
  Shape : S_api_Shape
  Embed : S_api_Mat
  Blocks : (List S_api_Block)
  Last : (List Int)
  Head : S_api_Mat
  deriving DecidableEq

def S_api_Weights.pr : PR S_api_Weights 14 := pMap (fun x : S_api_Weights => (x.Shape, x.Embed, x.Blocks, x.Last, x.Head)) (pSeq S_api_Shape.pr (pSeq S_api_Mat.pr (pSeq (pRo S_api_Block.pr) (pSeq (pRo (pInt .i8)) S_api_Mat.pr))))

theorem S_api_Weights.op {w : World} {l : List HP} {cs : List Value} {x : S_api_Weights} (h : Ctx w (Hold S_api_Weights.pr cs x :: l)) : ∃ a8 q8 a9 q9 a10 q10 a13 q13, cs = [.int .i64 x.Shape.Layers, .int .i64 x.Shape.Width, .int .i64 x.Shape.Heads, .int .i64 x.Shape.Inner, .int .i64 x.Shape.Vocab, .int .i64 x.Shape.Places, .int .i64 x.Embed.Rows, .int .i64 x.Embed.Cols, .slice a8 x.Embed.V.length q8, .slice a9 x.Blocks.length q9, .slice a10 x.Last.length q10, .int .i64 x.Head.Rows, .int .i64 x.Head.Cols, .slice a13 x.Head.V.length q13] ∧ Ctx w (Hold (pRo (pInt .i8)) [.slice a8 x.Embed.V.length q8] x.Embed.V :: Hold (pRo S_api_Block.pr) [.slice a9 x.Blocks.length q9] x.Blocks :: Hold (pRo (pInt .i8)) [.slice a10 x.Last.length q10] x.Last :: Hold (pRo (pInt .i8)) [.slice a13 x.Head.V.length q13] x.Head.V :: l) := by
  obtain ⟨R, Ss, hc⟩ := h
  match Ss, hc with
  | S :: Ss, hc =>
    obtain ⟨⟨rfl, ⟨_, _, rfl, rfl, ⟨_, _, rfl, ⟨_, _, rfl, rfl, ⟨_, _, rfl, rfl, ⟨_, rfl, a8, q8, rfl, hc8, hr8⟩⟩⟩, ⟨_, _, rfl, ⟨_, rfl, a9, q9, rfl, hc9, hr9⟩, ⟨_, _, rfl, ⟨_, rfl, a10, q10, rfl, hc10, hr10⟩, ⟨_, _, rfl, rfl, ⟨_, _, rfl, rfl, ⟨_, rfl, a13, q13, rfl, hc13, hr13⟩⟩⟩⟩⟩⟩⟩⟩, h3⟩ := hc.all
    exact ⟨a8, q8, a9, q9, a10, q10, a13, q13, rfl, R, [] :: [] :: [] :: [] :: Ss, ⟨⟨rfl, _, rfl, a8, q8, rfl, hc8, hr8⟩, ⟨rfl, _, rfl, a9, q9, rfl, hc9, hr9⟩, ⟨rfl, _, rfl, a10, q10, rfl, hc10, hr10⟩, ⟨rfl, _, rfl, a13, q13, rfl, hc13, hr13⟩, h3⟩, by simpa using hc.nodup, by simpa using hc.own, hc.fz⟩
theorem S_api_Weights.cl {w : World} {l : List HP} {z0 : Int} {z1 : Int} {z2 : Int} {z3 : Int} {z4 : Int} {z5 : Int} {z6 : Int} {z7 : Int} {z8 : (List Int)} {z9 : (List S_api_Block)} {z10 : (List Int)} {z11 : Int} {z12 : Int} {z13 : (List Int)} {v8 v9 v10 v13 : Value} (h : Ctx w (Hold (pRo (pInt .i8)) [v8] z8 :: Hold (pRo S_api_Block.pr) [v9] z9 :: Hold (pRo (pInt .i8)) [v10] z10 :: Hold (pRo (pInt .i8)) [v13] z13 :: l)) : Ctx w (Hold S_api_Weights.pr [.int .i64 z0, .int .i64 z1, .int .i64 z2, .int .i64 z3, .int .i64 z4, .int .i64 z5, .int .i64 z6, .int .i64 z7, v8, v9, v10, .int .i64 z11, .int .i64 z12, v13] (⟨⟨z0, z1, z2, z3, z4, z5⟩, ⟨z6, z7, z8⟩, z9, z10, ⟨z11, z12, z13⟩⟩ : S_api_Weights) :: l) := by
  obtain ⟨R, Ss, hc⟩ := h
  match Ss, hc with
  | S8 :: S9 :: S10 :: S13 :: Ss, hc =>
    obtain ⟨⟨rfl, _, e8, hr8⟩, ⟨rfl, _, e9, hr9⟩, ⟨rfl, _, e10, hr10⟩, ⟨rfl, _, e13, hr13⟩, h3⟩ := hc.all
    injection e8 with e8; subst e8
    injection e9 with e9; subst e9
    injection e10 with e10; subst e10
    injection e13 with e13; subst e13
    exact ⟨R, [] :: Ss, ⟨⟨rfl, ⟨_, _, rfl, rfl, ⟨_, _, rfl, ⟨_, _, rfl, rfl, ⟨_, _, rfl, rfl, ⟨_, rfl, hr8⟩⟩⟩, ⟨_, _, rfl, ⟨_, rfl, hr9⟩, ⟨_, _, rfl, ⟨_, rfl, hr10⟩, ⟨_, _, rfl, rfl, ⟨_, _, rfl, rfl, ⟨_, rfl, hr13⟩⟩⟩⟩⟩⟩⟩⟩, h3⟩, by simpa using hc.nodup, by simpa using hc.own, hc.fz⟩
  | [], hc => exact hc.all.elim
  | [_], hc => exact hc.all.2.elim
  | [_, _], hc => exact hc.all.2.2.elim
  | [_, _, _], hc => exact hc.all.2.2.2.elim

structure A2_i32 where
  c0 : Int
  c1 : Int
  deriving DecidableEq

def A2_i32.pr : PR A2_i32 2 := pC (fun x => [.int .i32 x.c0, .int .i32 x.c1]) (fun _ => rfl) (fun _ => rfl)

structure S_model_Model where
  w : S_api_Weights
  deriving DecidableEq

def S_model_Model.pr : PR S_model_Model 14 := pMap (fun x : S_model_Model => (x.w)) S_api_Weights.pr

theorem S_model_Model.op {w : World} {l : List HP} {cs : List Value} {x : S_model_Model} (h : Ctx w (Hold S_model_Model.pr cs x :: l)) : ∃ a8 q8 a9 q9 a10 q10 a13 q13, cs = [.int .i64 x.w.Shape.Layers, .int .i64 x.w.Shape.Width, .int .i64 x.w.Shape.Heads, .int .i64 x.w.Shape.Inner, .int .i64 x.w.Shape.Vocab, .int .i64 x.w.Shape.Places, .int .i64 x.w.Embed.Rows, .int .i64 x.w.Embed.Cols, .slice a8 x.w.Embed.V.length q8, .slice a9 x.w.Blocks.length q9, .slice a10 x.w.Last.length q10, .int .i64 x.w.Head.Rows, .int .i64 x.w.Head.Cols, .slice a13 x.w.Head.V.length q13] ∧ Ctx w (Hold (pRo (pInt .i8)) [.slice a8 x.w.Embed.V.length q8] x.w.Embed.V :: Hold (pRo S_api_Block.pr) [.slice a9 x.w.Blocks.length q9] x.w.Blocks :: Hold (pRo (pInt .i8)) [.slice a10 x.w.Last.length q10] x.w.Last :: Hold (pRo (pInt .i8)) [.slice a13 x.w.Head.V.length q13] x.w.Head.V :: l) := by
  obtain ⟨R, Ss, hc⟩ := h
  match Ss, hc with
  | S :: Ss, hc =>
    obtain ⟨⟨rfl, ⟨_, _, rfl, rfl, ⟨_, _, rfl, ⟨_, _, rfl, rfl, ⟨_, _, rfl, rfl, ⟨_, rfl, a8, q8, rfl, hc8, hr8⟩⟩⟩, ⟨_, _, rfl, ⟨_, rfl, a9, q9, rfl, hc9, hr9⟩, ⟨_, _, rfl, ⟨_, rfl, a10, q10, rfl, hc10, hr10⟩, ⟨_, _, rfl, rfl, ⟨_, _, rfl, rfl, ⟨_, rfl, a13, q13, rfl, hc13, hr13⟩⟩⟩⟩⟩⟩⟩⟩, h3⟩ := hc.all
    exact ⟨a8, q8, a9, q9, a10, q10, a13, q13, rfl, R, [] :: [] :: [] :: [] :: Ss, ⟨⟨rfl, _, rfl, a8, q8, rfl, hc8, hr8⟩, ⟨rfl, _, rfl, a9, q9, rfl, hc9, hr9⟩, ⟨rfl, _, rfl, a10, q10, rfl, hc10, hr10⟩, ⟨rfl, _, rfl, a13, q13, rfl, hc13, hr13⟩, h3⟩, by simpa using hc.nodup, by simpa using hc.own, hc.fz⟩
theorem S_model_Model.cl {w : World} {l : List HP} {z0 : Int} {z1 : Int} {z2 : Int} {z3 : Int} {z4 : Int} {z5 : Int} {z6 : Int} {z7 : Int} {z8 : (List Int)} {z9 : (List S_api_Block)} {z10 : (List Int)} {z11 : Int} {z12 : Int} {z13 : (List Int)} {v8 v9 v10 v13 : Value} (h : Ctx w (Hold (pRo (pInt .i8)) [v8] z8 :: Hold (pRo S_api_Block.pr) [v9] z9 :: Hold (pRo (pInt .i8)) [v10] z10 :: Hold (pRo (pInt .i8)) [v13] z13 :: l)) : Ctx w (Hold S_model_Model.pr [.int .i64 z0, .int .i64 z1, .int .i64 z2, .int .i64 z3, .int .i64 z4, .int .i64 z5, .int .i64 z6, .int .i64 z7, v8, v9, v10, .int .i64 z11, .int .i64 z12, v13] (⟨⟨⟨z0, z1, z2, z3, z4, z5⟩, ⟨z6, z7, z8⟩, z9, z10, ⟨z11, z12, z13⟩⟩⟩ : S_model_Model) :: l) := by
  obtain ⟨R, Ss, hc⟩ := h
  match Ss, hc with
  | S8 :: S9 :: S10 :: S13 :: Ss, hc =>
    obtain ⟨⟨rfl, _, e8, hr8⟩, ⟨rfl, _, e9, hr9⟩, ⟨rfl, _, e10, hr10⟩, ⟨rfl, _, e13, hr13⟩, h3⟩ := hc.all
    injection e8 with e8; subst e8
    injection e9 with e9; subst e9
    injection e10 with e10; subst e10
    injection e13 with e13; subst e13
    exact ⟨R, [] :: Ss, ⟨⟨rfl, ⟨_, _, rfl, rfl, ⟨_, _, rfl, ⟨_, _, rfl, rfl, ⟨_, _, rfl, rfl, ⟨_, rfl, hr8⟩⟩⟩, ⟨_, _, rfl, ⟨_, rfl, hr9⟩, ⟨_, _, rfl, ⟨_, rfl, hr10⟩, ⟨_, _, rfl, rfl, ⟨_, _, rfl, rfl, ⟨_, rfl, hr13⟩⟩⟩⟩⟩⟩⟩⟩, h3⟩, by simpa using hc.nodup, by simpa using hc.own, hc.fz⟩
  | [], hc => exact hc.all.elim
  | [_], hc => exact hc.all.2.elim
  | [_, _], hc => exact hc.all.2.2.elim
  | [_, _, _], hc => exact hc.all.2.2.2.elim

structure S_model_spot where
  layer : Int
  place : Int
  deriving DecidableEq

structure S_model_kept where
  k : (List Int)
  v : (List Int)
  deriving DecidableEq

def S_model_kept.pr : PR S_model_kept 2 := pMap (fun x : S_model_kept => (x.k, x.v)) (pSeq (pRo (pInt .i8)) (pRo (pInt .i8)))

theorem S_model_kept.op {w : World} {l : List HP} {cs : List Value} {x : S_model_kept} (h : Ctx w (Hold S_model_kept.pr cs x :: l)) : ∃ a0 q0 a1 q1, cs = [.slice a0 x.k.length q0, .slice a1 x.v.length q1] ∧ Ctx w (Hold (pRo (pInt .i8)) [.slice a0 x.k.length q0] x.k :: Hold (pRo (pInt .i8)) [.slice a1 x.v.length q1] x.v :: l) := by
  obtain ⟨R, Ss, hc⟩ := h
  match Ss, hc with
  | S :: Ss, hc =>
    obtain ⟨⟨rfl, ⟨_, _, rfl, ⟨_, rfl, a0, q0, rfl, hc0, hr0⟩, ⟨_, rfl, a1, q1, rfl, hc1, hr1⟩⟩⟩, h3⟩ := hc.all
    exact ⟨a0, q0, a1, q1, rfl, R, [] :: [] :: Ss, ⟨⟨rfl, _, rfl, a0, q0, rfl, hc0, hr0⟩, ⟨rfl, _, rfl, a1, q1, rfl, hc1, hr1⟩, h3⟩, by simpa using hc.nodup, by simpa using hc.own, hc.fz⟩
theorem S_model_kept.cl {w : World} {l : List HP} {z0 : (List Int)} {z1 : (List Int)} {v0 v1 : Value} (h : Ctx w (Hold (pRo (pInt .i8)) [v0] z0 :: Hold (pRo (pInt .i8)) [v1] z1 :: l)) : Ctx w (Hold S_model_kept.pr [v0, v1] (⟨z0, z1⟩ : S_model_kept) :: l) := by
  obtain ⟨R, Ss, hc⟩ := h
  match Ss, hc with
  | S0 :: S1 :: Ss, hc =>
    obtain ⟨⟨rfl, _, e0, hr0⟩, ⟨rfl, _, e1, hr1⟩, h3⟩ := hc.all
    injection e0 with e0; subst e0
    injection e1 with e1; subst e1
    exact ⟨R, [] :: Ss, ⟨⟨rfl, ⟨_, _, rfl, ⟨_, rfl, hr0⟩, ⟨_, rfl, hr1⟩⟩⟩, h3⟩, by simpa using hc.nodup, by simpa using hc.own, hc.fz⟩
  | [], hc => exact hc.all.elim
  | [_], hc => exact hc.all.2.elim

def S_model_spot.cs (x : S_model_spot) : List Value := [.int .i64 x.layer, .int .i64 x.place]
def S_model_spot.ek (x : S_model_spot) : Value := .agg (S_model_spot.cs x).toArray
theorem S_model_spot.eql (w : World) (x y : S_model_spot) : (Op.equal 103 (.agg (S_model_spot.cs x).toArray) (.agg (S_model_spot.cs y).toArray)).run Tryz.prog w = .ok (decide (x = y)) w := by
  have hst : Tryz.prog.stoodInHeld 103 = false := by kernel_rfl
  have pt3 : ∀ {off : Nat} {xs : Array Value} {v : Value} {w : World}, xs[off]? = some v → (part 3 xs off).run Tryz.prog w = .ok v w := fun h => by simp [part, Tryz.isAgg3, h]
  have eq3 : ∀ (d : Nat) (k : IntKind) (a b : Int) (w : World), (Op.equalIn (d + 1) 3 (.int k a) (.int k b)).run Tryz.prog w = .ok (a == b) w := fun d k a b w => by simp [Op.equalIn, run_underlying Tryz.underlying3]
  have key : ∀ d, (Op.equalIn (d + 2) 103 (.agg (S_model_spot.cs x).toArray) (.agg (S_model_spot.cs y).toArray)).run Tryz.prog w = .ok (decide (x = y)) w := by
    intro d
    obtain ⟨a0, a1⟩ := x
    obtain ⟨b0, b1⟩ := y
    rw [Op.equalIn]
    simp [run_underlying Tryz.underlying103, S_model_spot.cs, hst, pt3, eq3]
    repeat' split
    all_goals simp_all
  exact key 9998
theorem S_model_spot.keyL : KeyL Tryz.prog 103 S_model_spot S_model_spot.ek := keyL_agg (f := S_model_spot.cs) Tryz.underlying103 S_model_spot.eql
  (fun b k w => by
    have h : ∀ n, (Instr.checkKey b (n + 2) 103 (.agg (S_model_spot.cs k).toArray)).run Tryz.prog w = .ok () w := by
      intro n
      simp [Instr.checkKey, run_underlying Tryz.underlying103, S_model_spot.cs, part, Tryz.isAgg3, run_underlying Tryz.underlying3]
    exact h 9998)
  (fun k => by
    have h : ∀ n, Instr.sameBits (n + 2) (.agg (S_model_spot.cs k).toArray) (.agg (S_model_spot.cs k).toArray) = true := by
      intro n
      simp [Instr.sameBits, S_model_spot.cs]
    exact h 9998)

structure S_model_Run where
  m : (Option S_model_Model)
  place : Int
  kept : (List (S_model_spot × S_model_kept))
  deriving DecidableEq

def S_model_Run.hp (b : Nat) (x : S_model_Run) : HP := Ex fun v0 : Value => Ex fun v2 : Nat => Sep (Sep (B b [v0, .int .i64 x.place, .map (some v2)] 98) (Hold (pPo S_model_Model.pr) [v0] x.m)) (Mp S_model_spot.ek (HV vfA S_model_kept.pr) v2 x.kept)

theorem S_model_Run.uf {w : World} {l : List HP} {b : Nat} {x : S_model_Run} (h : Ctx w (S_model_Run.hp b x :: l)) : ∃ (v0 : Value) (v2 : Nat), Ctx w (B b [v0, .int .i64 x.place, .map (some v2)] 98 :: Hold (pPo S_model_Model.pr) [v0] x.m :: Mp S_model_spot.ek (HV vfA S_model_kept.pr) v2 x.kept :: l) := by
  obtain ⟨v0, h⟩ := Ctx.exF h
  obtain ⟨v2, h⟩ := Ctx.exF h
  replace h := Ctx.sepF h
  replace h := Ctx.sepF h
  exact ⟨v0, v2, h⟩
theorem S_model_Run.fd {w : World} {l : List HP} {b : Nat} {x : S_model_Run} {v0 : Value} {v2 : Nat} (h : Ctx w (B b [v0, .int .i64 x.place, .map (some v2)] 98 :: Hold (pPo S_model_Model.pr) [v0] x.m :: Mp S_model_spot.ek (HV vfA S_model_kept.pr) v2 x.kept :: l)) : Ctx w (S_model_Run.hp b x :: l) := Ctx.exB _ _ (Ctx.exB _ _ (Ctx.sepB (Ctx.sepB h)))

structure S_gen_Talk where
  Run : (Option S_model_Run)
  feed : (List Int)
  said : (List Int)
  deriving DecidableEq

def S_gen_Talk.hp (b : Nat) (x : S_gen_Talk) : HP := Ex fun v0 : Value => Ex fun v1 : Value => Ex fun v2 : Value => Sep (Sep (Sep (B b [v0, v1, v2] 117) (PtO S_model_Run.hp v0 x.Run)) (Own (pInt .i64) 3 v1 x.feed)) (Own (pInt .i64) 3 v2 x.said)

theorem S_gen_Talk.uf {w : World} {l : List HP} {b : Nat} {x : S_gen_Talk} (h : Ctx w (S_gen_Talk.hp b x :: l)) : ∃ (v0 : Value) (a1 : Option Addr) (q1 : Nat) (a2 : Option Addr) (q2 : Nat), Ctx w (B b [v0, .slice a1 x.feed.length q1, .slice a2 x.said.length q2] 117 :: PtO S_model_Run.hp v0 x.Run :: Own (pInt .i64) 3 (.slice a1 x.feed.length q1) x.feed :: Own (pInt .i64) 3 (.slice a2 x.said.length q2) x.said :: l) := by
  obtain ⟨v0, h⟩ := Ctx.exF h
  obtain ⟨v1, h⟩ := Ctx.exF h
  obtain ⟨v2, h⟩ := Ctx.exF h
  replace h := Ctx.sepF h
  replace h := Ctx.sepF h
  replace h := Ctx.sepF h
  obtain ⟨a1, q1, u1⟩ := h.rd (k := 2) rfl rfl reads_own; subst u1
  obtain ⟨a2, q2, u2⟩ := h.rd (k := 3) rfl rfl reads_own; subst u2
  exact ⟨v0, a1, q1, a2, q2, h⟩
theorem S_gen_Talk.fd {w : World} {l : List HP} {b : Nat} {x : S_gen_Talk} {v0 : Value} {v1 : Value} {v2 : Value} (h : Ctx w (B b [v0, v1, v2] 117 :: PtO S_model_Run.hp v0 x.Run :: Own (pInt .i64) 3 v1 x.feed :: Own (pInt .i64) 3 v2 x.said :: l)) : Ctx w (S_gen_Talk.hp b x :: l) := Ctx.exB _ _ (Ctx.exB _ _ (Ctx.exB _ _ (Ctx.sepB (Ctx.sepB (Ctx.sepB h)))))

structure A6_i64 where
  c0 : Int
  c1 : Int
  c2 : Int
  c3 : Int
  c4 : Int
  c5 : Int
  deriving DecidableEq

def A6_i64.pr : PR A6_i64 6 := pC (fun x => [.int .i64 x.c0, .int .i64 x.c1, .int .i64 x.c2, .int .i64 x.c3, .int .i64 x.c4, .int .i64 x.c5]) (fun _ => rfl) (fun _ => rfl)

structure S_ref07_Row where
  Gain : Bool
  N : Int
  deriving DecidableEq

def S_ref07_Row.pr : PR S_ref07_Row 2 := pC (fun x => [.bool x.Gain, .int .i64 x.N]) (fun _ => rfl) (fun _ => rfl)

structure S_weight_sides where
  Layers : Int
  Width : Int
  Heads : Int
  Inner : Int
  Vocab : Int
  Places : Int
  deriving DecidableEq

structure S_ref08_Kept where
  K : (List (List Int))
  V : (List (List Int))
  deriving DecidableEq

def S_ref08_Kept.vp : VP S_ref08_Kept 2 := ⟨fun cs x => Ex fun v0 : Value => Ex fun v1 : Value => Sep (Sep (Pu (cs = [v0, v1] ∧ ([v0, v1] : List Value).all (·.oneCell') = true)) (Own (pRo (pInt .i8)) 24 v0 x.K)) (Own (pRo (pInt .i8)) 24 v1 x.V),
  fun h => by obtain ⟨_, ⟨_, ⟨_, _, _, ⟨_, _, _, ⟨_, e, h1⟩, _⟩, _⟩⟩⟩ := h; rw [e]; rfl,
  fun h v hv => by obtain ⟨_, ⟨_, ⟨_, _, _, ⟨_, _, _, ⟨_, e, h1⟩, _⟩, _⟩⟩⟩ := h; rw [e] at hv; exact List.all_eq_true.1 h1 v hv⟩

structure S_ref08_Run where
  W : S_api_Weights
  L : (List S_ref08_Kept)
  deriving DecidableEq

def S_ref08_Run.hp (b : Nat) (x : S_ref08_Run) : HP := Ex fun v8 : Value => Ex fun v9 : Value => Ex fun v10 : Value => Ex fun v13 : Value => Ex fun v14 : Value => Sep (Sep (Sep (Sep (Sep (B b [.int .i64 x.W.Shape.Layers, .int .i64 x.W.Shape.Width, .int .i64 x.W.Shape.Heads, .int .i64 x.W.Shape.Inner, .int .i64 x.W.Shape.Vocab, .int .i64 x.W.Shape.Places, .int .i64 x.W.Embed.Rows, .int .i64 x.W.Embed.Cols, v8, v9, v10, .int .i64 x.W.Head.Rows, .int .i64 x.W.Head.Cols, v13, v14] 44) (Hold (pRo (pInt .i8)) [v8] x.W.Embed.V)) (Hold (pRo S_api_Block.pr) [v9] x.W.Blocks)) (Hold (pRo (pInt .i8)) [v10] x.W.Last)) (Hold (pRo (pInt .i8)) [v13] x.W.Head.V)) (OwnV S_ref08_Kept.vp 66 v14 x.L)

theorem S_ref08_Run.uf {w : World} {l : List HP} {b : Nat} {x : S_ref08_Run} (h : Ctx w (S_ref08_Run.hp b x :: l)) : ∃ (a8 : Option Addr) (q8 : Nat) (a9 : Option Addr) (q9 : Nat) (a10 : Option Addr) (q10 : Nat) (a13 : Option Addr) (q13 : Nat) (a14 : Option Addr) (q14 : Nat), Ctx w (B b [.int .i64 x.W.Shape.Layers, .int .i64 x.W.Shape.Width, .int .i64 x.W.Shape.Heads, .int .i64 x.W.Shape.Inner, .int .i64 x.W.Shape.Vocab, .int .i64 x.W.Shape.Places, .int .i64 x.W.Embed.Rows, .int .i64 x.W.Embed.Cols, .slice a8 x.W.Embed.V.length q8, .slice a9 x.W.Blocks.length q9, .slice a10 x.W.Last.length q10, .int .i64 x.W.Head.Rows, .int .i64 x.W.Head.Cols, .slice a13 x.W.Head.V.length q13, .slice a14 x.L.length q14] 44 :: Hold (pRo (pInt .i8)) [(.slice a8 x.W.Embed.V.length q8)] x.W.Embed.V :: Hold (pRo S_api_Block.pr) [(.slice a9 x.W.Blocks.length q9)] x.W.Blocks :: Hold (pRo (pInt .i8)) [(.slice a10 x.W.Last.length q10)] x.W.Last :: Hold (pRo (pInt .i8)) [(.slice a13 x.W.Head.V.length q13)] x.W.Head.V :: OwnV S_ref08_Kept.vp 66 (.slice a14 x.L.length q14) x.L :: l) := by
  obtain ⟨v8, h⟩ := Ctx.exF h
  obtain ⟨v9, h⟩ := Ctx.exF h
  obtain ⟨v10, h⟩ := Ctx.exF h
  obtain ⟨v13, h⟩ := Ctx.exF h
  obtain ⟨v14, h⟩ := Ctx.exF h
  replace h := Ctx.sepF h
  replace h := Ctx.sepF h
  replace h := Ctx.sepF h
  replace h := Ctx.sepF h
  replace h := Ctx.sepF h
  obtain ⟨a8, q8, u8⟩ := h.rd (k := 1) rfl rfl reads_ro; subst u8
  obtain ⟨a9, q9, u9⟩ := h.rd (k := 2) rfl rfl reads_ro; subst u9
  obtain ⟨a10, q10, u10⟩ := h.rd (k := 3) rfl rfl reads_ro; subst u10
  obtain ⟨a13, q13, u13⟩ := h.rd (k := 4) rfl rfl reads_ro; subst u13
  obtain ⟨a14, q14, u14⟩ := h.ownVLen (k := 5) rfl rfl; subst u14
  exact ⟨a8, q8, a9, q9, a10, q10, a13, q13, a14, q14, h⟩
theorem S_ref08_Run.fd {w : World} {l : List HP} {b : Nat} {x : S_ref08_Run} {v8 : Value} {v9 : Value} {v10 : Value} {v13 : Value} {v14 : Value} (h : Ctx w (B b [.int .i64 x.W.Shape.Layers, .int .i64 x.W.Shape.Width, .int .i64 x.W.Shape.Heads, .int .i64 x.W.Shape.Inner, .int .i64 x.W.Shape.Vocab, .int .i64 x.W.Shape.Places, .int .i64 x.W.Embed.Rows, .int .i64 x.W.Embed.Cols, v8, v9, v10, .int .i64 x.W.Head.Rows, .int .i64 x.W.Head.Cols, v13, v14] 44 :: Hold (pRo (pInt .i8)) [v8] x.W.Embed.V :: Hold (pRo S_api_Block.pr) [v9] x.W.Blocks :: Hold (pRo (pInt .i8)) [v10] x.W.Last :: Hold (pRo (pInt .i8)) [v13] x.W.Head.V :: OwnV S_ref08_Kept.vp 66 v14 x.L :: l)) : Ctx w (S_ref08_Run.hp b x :: l) := Ctx.exB _ _ (Ctx.exB _ _ (Ctx.exB _ _ (Ctx.exB _ _ (Ctx.exB _ _ (Ctx.sepB (Ctx.sepB (Ctx.sepB (Ctx.sepB (Ctx.sepB h)))))))))

structure S_law09_Seeds where
  N : A6_i64
  Seed : Int
  Xs : (List Int)
  deriving DecidableEq

def S_law09_Seeds.pr : PR S_law09_Seeds 8 := pMap (fun x : S_law09_Seeds => (x.N, x.Seed, x.Xs)) (pSeq A6_i64.pr (pSeq (pInt .u64) (pRo (pInt .i8))))

abbrev S_api_Shape.cz (x : S_api_Shape) : List Value := [.int .i64 x.Layers, .int .i64 x.Width, .int .i64 x.Heads, .int .i64 x.Inner, .int .i64 x.Vocab, .int .i64 x.Places]
abbrev S_api_Mat.cz (x : S_api_Mat) (a2 : Option Addr) (q2 : Nat) : List Value := [.int .i64 x.Rows, .int .i64 x.Cols, .slice a2 x.V.length q2]
abbrev S_api_Block.cz (x : S_api_Block) (a0 : Option Addr) (q0 : Nat) (a1 : Option Addr) (q1 : Nat) (a4 : Option Addr) (q4 : Nat) (a7 : Option Addr) (q7 : Nat) (a10 : Option Addr) (q10 : Nat) (a13 : Option Addr) (q13 : Nat) (a16 : Option Addr) (q16 : Nat) (a19 : Option Addr) (q19 : Nat) : List Value := [.slice a0 x.First.length q0, .slice a1 x.Second.length q1, .int .i64 x.Q.Rows, .int .i64 x.Q.Cols, .slice a4 x.Q.V.length q4, .int .i64 x.K.Rows, .int .i64 x.K.Cols, .slice a7 x.K.V.length q7, .int .i64 x.V.Rows, .int .i64 x.V.Cols, .slice a10 x.V.V.length q10, .int .i64 x.O.Rows, .int .i64 x.O.Cols, .slice a13 x.O.V.length q13, .int .i64 x.Up.Rows, .int .i64 x.Up.Cols, .slice a16 x.Up.V.length q16, .int .i64 x.Down.Rows, .int .i64 x.Down.Cols, .slice a19 x.Down.V.length q19]
abbrev S_api_Weights.cz (x : S_api_Weights) (a8 : Option Addr) (q8 : Nat) (a9 : Option Addr) (q9 : Nat) (a10 : Option Addr) (q10 : Nat) (a13 : Option Addr) (q13 : Nat) : List Value := [.int .i64 x.Shape.Layers, .int .i64 x.Shape.Width, .int .i64 x.Shape.Heads, .int .i64 x.Shape.Inner, .int .i64 x.Shape.Vocab, .int .i64 x.Shape.Places, .int .i64 x.Embed.Rows, .int .i64 x.Embed.Cols, .slice a8 x.Embed.V.length q8, .slice a9 x.Blocks.length q9, .slice a10 x.Last.length q10, .int .i64 x.Head.Rows, .int .i64 x.Head.Cols, .slice a13 x.Head.V.length q13]
abbrev A6_i64.cz (x : A6_i64) : List Value := [.int .i64 x.c0, .int .i64 x.c1, .int .i64 x.c2, .int .i64 x.c3, .int .i64 x.c4, .int .i64 x.c5]
abbrev S_weight_sides.cz (x : S_weight_sides) : List Value := [.int .i64 x.Layers, .int .i64 x.Width, .int .i64 x.Heads, .int .i64 x.Inner, .int .i64 x.Vocab, .int .i64 x.Places]
abbrev S_ref08_Run.cz (x : S_ref08_Run) (a8 : Option Addr) (q8 : Nat) (a9 : Option Addr) (q9 : Nat) (a10 : Option Addr) (q10 : Nat) (a13 : Option Addr) (q13 : Nat) (a14 : Option Addr) (q14 : Nat) : List Value := [.int .i64 x.W.Shape.Layers, .int .i64 x.W.Shape.Width, .int .i64 x.W.Shape.Heads, .int .i64 x.W.Shape.Inner, .int .i64 x.W.Shape.Vocab, .int .i64 x.W.Shape.Places, .int .i64 x.W.Embed.Rows, .int .i64 x.W.Embed.Cols, .slice a8 x.W.Embed.V.length q8, .slice a9 x.W.Blocks.length q9, .slice a10 x.W.Last.length q10, .int .i64 x.W.Head.Rows, .int .i64 x.W.Head.Cols, .slice a13 x.W.Head.V.length q13, .slice a14 x.L.length q14]
abbrev S_law09_Seeds.cz (x : S_law09_Seeds) (a7 : Option Addr) (q7 : Nat) : List Value := [.int .i64 x.N.c0, .int .i64 x.N.c1, .int .i64 x.N.c2, .int .i64 x.N.c3, .int .i64 x.N.c4, .int .i64 x.N.c5, .int .u64 x.Seed, .slice a7 x.Xs.length q7]
theorem S_law09_Seeds.op {w : World} {l : List HP} {cs : List Value} {x : S_law09_Seeds} (h : Ctx w (Hold S_law09_Seeds.pr cs x :: l)) : ∃ a7 q7, cs = [.int .i64 x.N.c0, .int .i64 x.N.c1, .int .i64 x.N.c2, .int .i64 x.N.c3, .int .i64 x.N.c4, .int .i64 x.N.c5, .int .u64 x.Seed, .slice a7 x.Xs.length q7] ∧ Ctx w (Hold (pRo (pInt .i8)) [.slice a7 x.Xs.length q7] x.Xs :: l) := by
  obtain ⟨R, Ss, hc⟩ := h
  match Ss, hc with
  | S :: Ss, hc =>
    obtain ⟨⟨rfl, ⟨_, _, rfl, rfl, ⟨_, _, rfl, rfl, ⟨_, rfl, a7, q7, rfl, hc7, hr7⟩⟩⟩⟩, h3⟩ := hc.all
    exact ⟨a7, q7, rfl, R, [] :: Ss, ⟨⟨rfl, _, rfl, a7, q7, rfl, hc7, hr7⟩, h3⟩, by simpa using hc.nodup, by simpa using hc.own, hc.fz⟩
def ref08_taker_take (x0 : S_ref08_taker) (x1 : Int) : Option ((List Int) × S_ref08_taker) :=
  chk (0 ≤ x0.at_ ∧ x0.at_ ≤ (IntKind.i64.wrap (x0.at_ + x1)) ∧ (IntKind.i64.wrap (x0.at_ + x1)) ≤ ((x0.l.length : Nat) : Int)) <|
  (app ([]) ((x0.l.take ((IntKind.i64.wrap (x0.at_ + x1))).toNat).drop (x0.at_).toNat)).bind fun z10 =>
  some (z10, (⟨x0.l, (IntKind.i64.wrap (x0.at_ + x1))⟩ : S_ref08_taker))

set_option maxHeartbeats 8000000 in
theorem ref08_taker_take_any {b0 : Nat} {x0 : S_ref08_taker} {x1 : Int} {Fr : List HP} {w : World} {r : (List Int) × S_ref08_taker} {K : Value → World → Prop}  (hc : Ctx w (S_ref08_taker.hp b0 x0 :: Fr)) (hp : ref08_taker_take x0 x1 = some r)
    (k : ∀ (a17 : Option Addr) (n18 : Nat) (q19 : Nat) w', Ctx w' (Own (pInt .i8) 45 (.slice a17 n18 q19) r.1 :: S_ref08_taker.hp b0 r.2 :: Fr) → K (.slice a17 n18 q19) w') : Calls Tryz.prog 54 #[.pointer (some ⟨b0, 0, none⟩), .int .i64 x1] w (Ret K) := by
 unfold ref08_taker_take at hp; refine Center (args := [.pointer (some ⟨b0, 0, none⟩), .int .i64 x1]) (l := [(0, .pointer (some ⟨b0, 0, none⟩)), (1, .int .i64 x1)]) Tryz.func54 Tryz.ntmps54 rfl rfl rfl ?_; refine Wseq (Wreg ?_); refine rA (.slice none 0 0) rfl rfl ?_; refine rn (qn (Wseq (Wreg ?_))); refine rA (.slice none 0 0) rfl rfl ?_; refine rn (qn (Wseq ?_)); replace hc := S_ref08_taker.uf hc; obtain ⟨a1, q2, hc⟩ := hc; replace hc := hc.drew; refine Wdrw (fun j w' => True) [0, 0, 2, 6, 14, 0, 32, 96, 224, 0, 512, 1536, 3584, 0, 15872, 32766, 65535, 131071] 0 4368 rfl (by kernel_rfl) (fun _ _ => trivial) ?_; generalize hw : World.drew w = w3 at *; clear hw; refine dM (.slice none 0 0) rfl rfl rfl ?_; refine dM (.pointer (some ⟨b0, 0, none⟩)) rfl rfl rfl ?_; refine ds rfl (fun w' hF => nl rfl) rfl ?_; refine ds (v := .pointer (some ⟨b0, 0, none⟩)) rfl (fun w' hF => fax 0 rfl Tryz.underlying123 rfl Tryz.sizeOf24 rfl rfl rfl) rfl ?_; refine dx rfl (ld rfl Tryz.isAgg24 (Ctx.cell hc (k := 0) rfl rfl rfl)) rfl rfl ?_; refine dM (.pointer (some ⟨b0, 0, none⟩)) rfl rfl rfl ?_; refine ds rfl (fun w' hF => nl rfl) rfl ?_; refine ds (v := .pointer (some ⟨b0, 1, none⟩)) rfl (fun w' hF => fax 1 rfl Tryz.underlying123 rfl Tryz.sizeOf3 rfl rfl rfl) rfl ?_; refine dx rfl (ld rfl Tryz.isAgg3 (Ctx.cell hc (k := 0) rfl rfl rfl)) rfl rfl ?_; refine dM (.pointer (some ⟨b0, 0, none⟩)) rfl rfl rfl ?_; refine ds rfl (fun w' hF => nl rfl) rfl ?_; refine ds (v := .pointer (some ⟨b0, 1, none⟩)) rfl (fun w' hF => fax 1 rfl Tryz.underlying123 rfl Tryz.sizeOf3 rfl rfl rfl) rfl ?_; refine dx rfl (ld rfl Tryz.isAgg3 (Ctx.cell hc (k := 0) rfl rfl rfl)) rfl rfl ?_; refine dM (.int .i64 x1) rfl rfl rfl ?_; refine ds rfl (fun w' hF => adw rfl rfl) rfl ?_; replace hp := chk_some hp; obtain ⟨hg4, hp⟩ := hp; obtain ⟨hl8, hq9⟩ := Ctx.rdLen hc (k := 1) rfl rfl reads_own; have rd7 := reads_sub (lo := (x0.at_).toNat) (hi := ((IntKind.i64.wrap (x0.at_ + x1))).toNat) ((reads_own : Reads (Own (pInt .i8) 45 (.slice a1 x0.l.length q2) x0.l) (pInt .i8) (.slice a1 x0.l.length q2) x0.l)) (by omega) (by omega); refine ds (v := .slice (if q2 = (x0.at_).toNat then a1 else Option.map (fun x => x.add ((x0.at_).toNat * 1)) a1) (((IntKind.i64.wrap (x0.at_ + x1))).toNat - (x0.at_).toNat) (q2 - (x0.at_).toNat)) rfl (fun w' hF => run_sub (li := some x0.at_) (hi' := some (IntKind.i64.wrap (x0.at_ + x1))) rfl ⟨_, rfl⟩ ⟨_, rfl⟩ Tryz.underlying24 Tryz.sizeOf45 hg4 hq9) rfl ?_; replace hc := hc.nilOwn (pInt .i8) 45; replace hp := bind_some hp; obtain ⟨z10, hz10, hp⟩ := hp; obtain ⟨hg11, e12⟩ := app_some hz10; refine deE (Ctx.append hc (k := 0) rfl rfl (k2 := 2) rfl rfl rd7 Tryz.underlying24 (i := Tryz.t45) rfl rfl rfl rfl rfl rfl rfl rfl hg11) rfl rfl ?_; clear hc; rintro _ w15 ⟨a13, q14, rfl, hc⟩; rw [← e12] at hc ⊢; replace hc := Ctx.n0 hc; refine ⟨fun j hj hb => trivial, ?_⟩; refine dA (.slice a13 z10.length q14) rfl rfl rfl ?_; refine dn (qn (Wseq (Wreg ?_))); refine rM (.pointer (some ⟨b0, 0, none⟩)) rfl rfl ?_; refine rM (.pointer (some ⟨b0, 0, none⟩)) rfl rfl ?_; refine rs (nl rfl) rfl ?_; refine rs (v := .pointer (some ⟨b0, 1, none⟩)) (fax 1 rfl Tryz.underlying123 rfl Tryz.sizeOf3 rfl rfl rfl) rfl ?_; refine rs (ld rfl Tryz.isAgg3 (Ctx.cell hc (k := 1) rfl rfl rfl)) rfl ?_; refine rM (.int .i64 x1) rfl rfl ?_; refine rs (adw rfl rfl) rfl ?_; refine rs (nl rfl) rfl ?_; refine rs (v := .pointer (some ⟨b0, 1, none⟩)) (fax 1 rfl Tryz.underlying123 rfl Tryz.sizeOf3 rfl rfl rfl) rfl ?_; refine ruE (Ctx.putOp hc (k := 1) rfl rfl (v := .int .i64 (IntKind.i64.wrap (x0.at_ + x1))) (cs' := [.slice a1 x0.l.length q2, .int .i64 (IntKind.i64.wrap (x0.at_ + x1))]) rfl rfl rfl Tryz.sizeOf3 rfl rfl rfl) rfl ?_; clear hc; rintro w16 hc; replace hc := Ctx.n1 hc; refine rn (qn (Wseq (Wreg ?_))); refine rM (.slice a13 z10.length q14) rfl rfl ?_; refine rA (.slice a13 z10.length q14) rfl rfl ?_; refine rn (qn (Wret ?_)); replace hc := Ctx.p2 (Ctx.p2 hc); replace hc := S_ref08_taker.fd (x := (⟨x0.l, (IntKind.i64.wrap (x0.at_ + x1))⟩ : S_ref08_taker)) hc; replace hc := Ctx.p1 hc; injection hp with hp; subst hp; refine f1 (v := .slice a13 z10.length q14) Tryz.results54 Tryz.ntmps54 rfl ?_; exact ⟨_, rfl, k _ _ _ _ hc⟩

theorem bd_32_0_1_2 {ρ : Operand → Value} {w : World} {dst : Option Nat} {ty : TypeId} {pos : String} {after : Array Edge} {g : Option (Nat × Bool)} {x0 x1 x2 : Operand} {k0 : IntKind} {a0 : Int} {k1 : IntKind} {a1 : Int} {a2 : Option Addr} {l2 c2 : Nat} (h0 : ρ x0 = (.int k0 a0)) (h1 : ρ x1 = (.int k1 a1)) (h2 : ρ x2 = (.slice a2 l2 c2)) :
    (execOp ρ ⟨dst, .build 32 #[(0, x0), (1, x1), (2, x2)], ty, pos, after, g⟩).run Tryz.prog w = .ok (.value (.agg #[(.int k0 a0), (.int k1 a1), (.slice a2 l2 c2)])) w := by
  simp [execOp, Instr.build, Instr.fill, Tryz.zeroValue32, Tryz.runUnderlying32, Tryz.sizeOf24, Tryz.sizeOf3, h0, h1, h2, Value.cells]

def ref08_taker_mat (x0 : S_ref08_taker) (x1 : Int) (x2 : Int) : Option (S_api_Mat × S_ref08_taker) :=
  (ref08_taker_take x0 (IntKind.i64.wrap (x1 * x2))).bind fun r4 =>
  some ((⟨x1, x2, r4.1⟩ : S_api_Mat), r4.2)

set_option maxHeartbeats 8000000 in
theorem ref08_taker_mat_any {b0 : Nat} {x0 : S_ref08_taker} {x1 : Int} {x2 : Int} {Fr : List HP} {w : World} {r : S_api_Mat × S_ref08_taker} {K : Value → World → Prop}  (hc : Ctx w (S_ref08_taker.hp b0 x0 :: Fr)) (hp : ref08_taker_mat x0 x1 x2 = some r)
    (k : ∀ (a11 : Option Addr) (n12 : Nat) (q13 : Nat) w', Ctx w' (Hold (pRo (pInt .i8)) [.slice a11 n12 q13] r.1.V :: S_ref08_taker.hp b0 r.2 :: Fr) → K (.agg #[.int .i64 r.1.Rows, .int .i64 r.1.Cols, .slice a11 n12 q13]) w') : Calls Tryz.prog 53 #[.pointer (some ⟨b0, 0, none⟩), .int .i64 x1, .int .i64 x2] w (Ret K) := by
 unfold ref08_taker_mat at hp; refine Center (args := [.pointer (some ⟨b0, 0, none⟩), .int .i64 x1, .int .i64 x2]) (l := [(0, .pointer (some ⟨b0, 0, none⟩)), (1, .int .i64 x1), (2, .int .i64 x2)]) Tryz.func53 Tryz.ntmps53 rfl rfl rfl ?_; refine Wseq (Wreg ?_); refine rsE (Ctx.allocOp (cs := [.int .i64 0, .int .i64 0, .slice none 0 0]) hc Tryz.zeroValue32 rfl) rfl ?_; clear hc; rintro _ w3 ⟨b1, rfl, hc⟩; refine rn (qn (Wseq (Wreg ?_))); refine rM (.int .i64 x1) rfl rfl ?_; refine rM (.int .i64 x2) rfl rfl ?_; refine rM (.pointer (some ⟨b0, 0, none⟩)) rfl rfl ?_; refine rM (.int .i64 x1) rfl rfl ?_; refine rM (.int .i64 x2) rfl rfl ?_; refine rs (mlw rfl rfl) rfl ?_; replace hp := bind_some hp; obtain ⟨r4, hr4, hp⟩ := hp; replace hc := Ctx.p1 hc; refine rc (cl Tryz.call54 rfl rfl) rfl ?_; refine ref08_taker_take_any hc hr4 ?_; clear hc; intro a5 n6 q7 w8 hc; obtain ⟨u9, _⟩ := Ctx.rdLen hc (k := 0) rfl rfl reads_own; subst u9; refine rs (v := .agg #[.int .i64 x1, .int .i64 x2, .slice a5 r4.1.length q7]) (bd_32_0_1_2 rfl rfl rfl) rfl ?_; refine ruE (Ctx.putAgg hc (k := 2) rfl rfl (vs := [.int .i64 x1, .int .i64 x2, .slice a5 r4.1.length q7]) (cs' := [.int .i64 x1, .int .i64 x2, .slice a5 r4.1.length q7]) rfl rfl rfl Tryz.sizeOf32 rfl rfl rfl) rfl ?_; clear hc; rintro w10 hc; replace hc := Ctx.n2 hc; refine rn (qn (Wret ?_)); have hres := Ctx.cells hc (k := 2) rfl rfl 0 (vs := [.int .i64 x1, .int .i64 x2, .slice a5 r4.1.length q7]) rfl; replace hc := hc.freeze (k := 0) rfl rfl rfl; replace hc := Ctx.n0 hc; replace hc := hc.dup (k := 0) rfl rfl; replace hc := Ctx.r1 (Ctx.r3 hc); injection hp with hp; subst hp; refine f1c (cs := [.int .i64 x1, .int .i64 x2, .slice a5 r4.1.length q7]) Tryz.results53 Tryz.ntmps53 rfl Tryz.isAgg32 Tryz.sizeOf32 rfl hres ?_; exact ⟨_, rfl, k _ _ _ _ hc⟩

theorem bd_123_0 {ρ : Operand → Value} {w : World} {dst : Option Nat} {ty : TypeId} {pos : String} {after : Array Edge} {g : Option (Nat × Bool)} {x0 : Operand} {a0 : Option Addr} {l0 c0 : Nat} (h0 : ρ x0 = (.slice a0 l0 c0)) :
    (execOp ρ ⟨dst, .build 123 #[(0, x0)], ty, pos, after, g⟩).run Tryz.prog w = .ok (.value (.agg #[(.slice a0 l0 c0), (.int .i64 0)])) w := by
  simp [execOp, Instr.build, Instr.fill, Tryz.zeroValue123, Tryz.runUnderlying123, Tryz.sizeOf24, Tryz.sizeOf3, h0, Value.cells]

theorem bd_35_0 {ρ : Operand → Value} {w : World} {dst : Option Nat} {ty : TypeId} {pos : String} {after : Array Edge} {g : Option (Nat × Bool)} {x0 : Operand} {c0_0 c0_1 c0_2 c0_3 c0_4 c0_5 : Value} (h0 : ρ x0 = .agg #[c0_0, c0_1, c0_2, c0_3, c0_4, c0_5]) :
    (execOp ρ ⟨dst, .build 35 #[(0, x0)], ty, pos, after, g⟩).run Tryz.prog w = .ok (.value (.agg #[c0_0, c0_1, c0_2, c0_3, c0_4, c0_5, (.int .i64 0), (.int .i64 0), (.slice none 0 0), (.slice none 0 0), (.slice none 0 0), (.int .i64 0), (.int .i64 0), (.slice none 0 0)])) w := by
  simp [execOp, Instr.build, Instr.fill, Tryz.zeroValue35, Tryz.runUnderlying35, Tryz.sizeOf24, Tryz.sizeOf30, Tryz.sizeOf32, Tryz.sizeOf33, h0, Value.cells]

theorem bd_47_ {ρ : Operand → Value} {w : World} {dst : Option Nat} {ty : TypeId} {pos : String} {after : Array Edge} {g : Option (Nat × Bool)}    :
    (execOp ρ ⟨dst, .build 47 #[], ty, pos, after, g⟩).run Tryz.prog w = .ok (.value (.agg #[(.slice none 0 0), (.slice none 0 0), (.int .i64 0), (.int .i64 0), (.slice none 0 0), (.int .i64 0), (.int .i64 0), (.slice none 0 0), (.int .i64 0), (.int .i64 0), (.slice none 0 0), (.int .i64 0), (.int .i64 0), (.slice none 0 0), (.int .i64 0), (.int .i64 0), (.slice none 0 0), (.int .i64 0), (.int .i64 0), (.slice none 0 0)])) w := by
  simp [execOp, Instr.build, Instr.fill, Tryz.zeroValue47, Tryz.runUnderlying47, Tryz.sizeOf24, Tryz.sizeOf32, Value.cells]

def ref08_Of.L1 (x0 : S_api_Shape) (r14 : (S_api_Mat × S_ref08_taker)) : Nat → S_ref08_taker → (List S_api_Block) → Int → Option (S_api_Weights)
  | 0, _, _, _ => none
  | m1 + 1, j21, j22, j26 =>
    if j26 < x0.Layers then
      (ref08_taker_take j21 x0.Width).bind fun r49 =>
      (ref08_taker_mat r49.2 x0.Width x0.Width).bind fun r56 =>
      (ref08_taker_mat r56.2 x0.Width x0.Width).bind fun r63 =>
      (ref08_taker_mat r63.2 x0.Width x0.Width).bind fun r70 =>
      (ref08_taker_mat r70.2 x0.Width x0.Width).bind fun r77 =>
      (ref08_taker_take r77.2 x0.Width).bind fun r84 =>
      (ref08_taker_mat r84.2 x0.Inner x0.Width).bind fun r91 =>
      (ref08_taker_mat r91.2 x0.Width x0.Inner).bind fun r98 =>
      (app j22 ([(⟨r49.1, r84.1, (⟨r56.1.Rows, r56.1.Cols, r56.1.V⟩ : S_api_Mat), (⟨r63.1.Rows, r63.1.Cols, r63.1.V⟩ : S_api_Mat), (⟨r70.1.Rows, r70.1.Cols, r70.1.V⟩ : S_api_Mat), (⟨r77.1.Rows, r77.1.Cols, r77.1.V⟩ : S_api_Mat), (⟨r91.1.Rows, r91.1.Cols, r91.1.V⟩ : S_api_Mat), (⟨r98.1.Rows, r98.1.Cols, r98.1.V⟩ : S_api_Mat)⟩ : S_api_Block)])).bind fun z107 =>
      (ref08_Of.L1 x0 r14 m1) r98.2 z107 (IntKind.i64.wrap (j26 + 1))
    else
      (ref08_taker_take j21 x0.Width).bind fun r30 =>
      (ref08_taker_mat r30.2 x0.Vocab x0.Width).bind fun r37 =>
      some (⟨(⟨x0.Layers, x0.Width, x0.Heads, x0.Inner, x0.Vocab, x0.Places⟩ : S_api_Shape), (⟨r14.1.Rows, r14.1.Cols, r14.1.V⟩ : S_api_Mat), j22, r30.1, (⟨r37.1.Rows, r37.1.Cols, r37.1.V⟩ : S_api_Mat)⟩ : S_api_Weights)

def ref08_Of (N : Nat) (x0 : S_api_Shape) (x1 : (List Int)) : Option (S_api_Weights) :=
  (ref08_taker_mat (⟨x1, 0⟩ : S_ref08_taker) x0.Vocab x0.Width).bind fun r14 =>
  ref08_Of.L1 x0 r14 N r14.2 ([]) 0

set_option maxHeartbeats 8000000 in
theorem ref08_Of_any {N : Nat} {x0 : S_api_Shape} {x1 : (List Int)} {ax1 : Option Addr} {nx1 : Nat} {qx1 : Nat} {Fr : List HP} {w : World} {r : S_api_Weights} {K : Value → World → Prop}  (hc : Ctx w (Own (pInt .i8) 45 (.slice ax1 nx1 qx1) x1 :: Fr)) (hp : ref08_Of N x0 x1 = some r)
    (k : ∀ (a114 : Option Addr) (n115 : Nat) (q116 : Nat) (a117 : Option Addr) (n118 : Nat) (q119 : Nat) (a120 : Option Addr) (n121 : Nat) (q122 : Nat) (a123 : Option Addr) (n124 : Nat) (q125 : Nat) w', Ctx w' (Hold (pRo (pInt .i8)) [.slice a114 n115 q116] r.Embed.V :: Hold (pRo S_api_Block.pr) [.slice a117 n118 q119] r.Blocks :: Hold (pRo (pInt .i8)) [.slice a120 n121 q122] r.Last :: Hold (pRo (pInt .i8)) [.slice a123 n124 q125] r.Head.V :: Fr) → K (.agg #[.int .i64 r.Shape.Layers, .int .i64 r.Shape.Width, .int .i64 r.Shape.Heads, .int .i64 r.Shape.Inner, .int .i64 r.Shape.Vocab, .int .i64 r.Shape.Places, .int .i64 r.Embed.Rows, .int .i64 r.Embed.Cols, .slice a114 n115 q116, .slice a117 n118 q119, .slice a120 n121 q122, .int .i64 r.Head.Rows, .int .i64 r.Head.Cols, .slice a123 n124 q125]) w') : Calls Tryz.prog 33 #[.agg (S_api_Shape.cz x0).toArray, .slice ax1 nx1 qx1] w (Ret K) := by
 unfold ref08_Of at hp; refine Center (args := [.agg (S_api_Shape.cz x0).toArray, .slice ax1 nx1 qx1]) (l := [(0, .agg (S_api_Shape.cz x0).toArray), (1, .slice ax1 nx1 qx1)]) Tryz.func33 Tryz.ntmps33 rfl rfl rfl ?_; obtain ⟨hn1, _⟩ := Ctx.rdLen hc (k := 0) rfl rfl reads_own; subst hn1; refine Wseq (Wreg ?_); refine rsE (Ctx.boxOp (cs := (S_api_Shape.cz x0)) (v := .agg (S_api_Shape.cz x0).toArray) hc rfl rfl) rfl ?_; clear hc; rintro _ w3 ⟨b1, rfl, hc⟩; refine rsE (Ctx.allocOp (cs := [.int .i64 0, .int .i64 0, .int .i64 0, .int .i64 0, .int .i64 0, .int .i64 0, .int .i64 0, .int .i64 0, .slice none 0 0, .slice none 0 0, .slice none 0 0, .int .i64 0, .int .i64 0, .slice none 0 0]) hc Tryz.zeroValue35 rfl) rfl ?_; clear hc; rintro _ w6 ⟨b4, rfl, hc⟩; refine rn (qn (Wseq (Wreg ?_))); refine rM (.slice ax1 x1.length qx1) rfl rfl ?_; refine rs (v := .agg #[.slice ax1 x1.length qx1, .int .i64 0]) (bd_123_0 rfl) rfl ?_; refine rsE (Ctx.boxOp (cs := [.slice ax1 x1.length qx1, .int .i64 0]) (v := .agg #[.slice ax1 x1.length qx1, .int .i64 0]) hc rfl rfl) rfl ?_; clear hc; rintro _ w9 ⟨b7, rfl, hc⟩; refine rA (.pointer (some ⟨b7, 0, none⟩)) rfl rfl ?_; refine rn (qn (Wseq (Wreg ?_))); refine rs (v := .agg (S_api_Shape.cz x0).toArray) (ldg rfl Tryz.isAgg30 Tryz.sizeOf30 rfl (Ctx.cells hc (k := 2) rfl rfl 0 (vs := (S_api_Shape.cz x0)) rfl)) rfl ?_; refine rs (v := .agg #[.int .i64 x0.Layers, .int .i64 x0.Width, .int .i64 x0.Heads, .int .i64 x0.Inner, .int .i64 x0.Vocab, .int .i64 x0.Places, .int .i64 0, .int .i64 0, .slice none 0 0, .slice none 0 0, .slice none 0 0, .int .i64 0, .int .i64 0, .slice none 0 0]) (bd_35_0 rfl) rfl ?_; refine rsE (Ctx.allocOp (cs := [.int .i64 0, .int .i64 0, .int .i64 0, .int .i64 0, .int .i64 0, .int .i64 0, .int .i64 0, .int .i64 0, .slice none 0 0, .slice none 0 0, .slice none 0 0, .int .i64 0, .int .i64 0, .slice none 0 0]) hc Tryz.zeroValue35 rfl) rfl ?_; clear hc; rintro _ w12 ⟨b10, rfl, hc⟩; refine ruE (Ctx.putAgg hc (k := 0) rfl rfl (vs := [.int .i64 x0.Layers, .int .i64 x0.Width, .int .i64 x0.Heads, .int .i64 x0.Inner, .int .i64 x0.Vocab, .int .i64 x0.Places, .int .i64 0, .int .i64 0, .slice none 0 0, .slice none 0 0, .slice none 0 0, .int .i64 0, .int .i64 0, .slice none 0 0]) (cs' := [.int .i64 x0.Layers, .int .i64 x0.Width, .int .i64 x0.Heads, .int .i64 x0.Inner, .int .i64 x0.Vocab, .int .i64 x0.Places, .int .i64 0, .int .i64 0, .slice none 0 0, .slice none 0 0, .slice none 0 0, .int .i64 0, .int .i64 0, .slice none 0 0]) rfl rfl rfl Tryz.sizeOf35 rfl rfl rfl) rfl ?_; clear hc; rintro w13 hc; replace hc := Ctx.n0 hc; refine rn (qn (Wseq (Wreg ?_))); refine rM (.pointer (some ⟨b7, 0, none⟩)) rfl rfl ?_; refine rs (v := .pointer (some ⟨b1, 4, none⟩)) (fax 4 rfl Tryz.underlying30 rfl Tryz.sizeOf3 rfl rfl rfl) rfl ?_; refine rs (ld rfl Tryz.isAgg3 (Ctx.cell hc (k := 3) rfl rfl rfl)) rfl ?_; refine rs (v := .pointer (some ⟨b1, 1, none⟩)) (fax 1 rfl Tryz.underlying30 rfl Tryz.sizeOf3 rfl rfl rfl) rfl ?_; refine rs (ld rfl Tryz.isAgg3 (Ctx.cell hc (k := 3) rfl rfl rfl)) rfl ?_; replace hc := Ctx.p2 (Ctx.p4 hc); replace hc := S_ref08_taker.fd (x := (⟨x1, 0⟩ : S_ref08_taker)) hc; replace hp := bind_some hp; obtain ⟨r14, hr14, hp⟩ := hp; refine rc (cl Tryz.call53 rfl rfl) rfl ?_; refine ref08_taker_mat_any (x0 := (⟨x1, 0⟩ : S_ref08_taker)) hc hr14 ?_; clear hc; intro a15 n16 q17 w18 hc; obtain ⟨u19, _⟩ := Ctx.rdLen hc (k := 0) rfl rfl reads_ro; subst u19; refine rs (v := .pointer (some ⟨b10, 6, none⟩)) (fax 6 rfl Tryz.underlying35 rfl Tryz.sizeOf32 rfl rfl rfl) rfl ?_; refine ruE (Ctx.putAgg hc (k := 2) rfl rfl (vs := (S_api_Mat.cz r14.1 a15 q17)) (cs' := [.int .i64 x0.Layers, .int .i64 x0.Width, .int .i64 x0.Heads, .int .i64 x0.Inner, .int .i64 x0.Vocab, .int .i64 x0.Places, .int .i64 r14.1.Rows, .int .i64 r14.1.Cols, .slice a15 r14.1.V.length q17, .slice none 0 0, .slice none 0 0, .int .i64 0, .int .i64 0, .slice none 0 0]) rfl rfl rfl Tryz.sizeOf32 rfl rfl rfl) rfl ?_; clear hc; rintro w20 hc; replace hc := Ctx.n2 hc; refine rn (qn (Wseq (Wseq (Wreg ?_)))); refine rA (.int .i64 0) rfl rfl ?_; refine rn (qn (Wblk ?_)); replace hc := hc.nilOwn S_api_Block.pr 47; replace hc := Ctx.p5 (Ctx.p5 (Ctx.p5 (Ctx.p5 (Ctx.p5 hc)))); refine Wloop (7 :: 8 :: 21 :: 22 :: 23 :: 24 :: 25 :: 26 :: 27 :: 28 :: 29 :: 30 :: 31 :: 32 :: 33 :: 34 :: 35 :: 36 :: 37 :: 38 :: 39 :: 40 :: 41 :: 42 :: 43 :: 44 :: 45 :: 46 :: 47 :: 48 :: 49 :: 50 :: 51 :: 52 :: 53 :: 54 :: 55 :: 56 :: 57 :: 58 :: 59 :: 60 :: 61 :: 62 :: 63 :: 64 :: 65 :: 66 :: 67 :: 68 :: 69 :: 70 :: 71 :: 72 :: 73 :: 74 :: 75 :: 76 :: 77 :: 78 :: 79 :: 80 :: 81 :: 82 :: 83 :: 84 :: 85 :: []) [7] (fun m vs w' => ∃ j21 : S_ref08_taker, ∃ j22 : (List S_api_Block), ∃ j26 : Int, ∃ a23 : Option Addr, ∃ n24 : Nat, ∃ q25 : Nat, vs = [.int .i64 j26] ∧ ref08_Of.L1 x0 r14 m j21 j22 j26 = some r ∧ Ctx w' (Hold (pRo (pInt .i8)) [.slice a15 r14.1.V.length q17] r14.1.V :: S_ref08_taker.hp b7 j21 :: B b10 [.int .i64 x0.Layers, .int .i64 x0.Width, .int .i64 x0.Heads, .int .i64 x0.Inner, .int .i64 x0.Vocab, .int .i64 x0.Places, .int .i64 r14.1.Rows, .int .i64 r14.1.Cols, .slice a15 r14.1.V.length q17, .slice a23 n24 q25, .slice none 0 0, .int .i64 0, .int .i64 0, .slice none 0 0] 35 :: B b4 [.int .i64 0, .int .i64 0, .int .i64 0, .int .i64 0, .int .i64 0, .int .i64 0, .int .i64 0, .int .i64 0, .slice none 0 0, .slice none 0 0, .slice none 0 0, .int .i64 0, .int .i64 0, .slice none 0 0] 35 :: B b1 (S_api_Shape.cz x0) 30 :: Own S_api_Block.pr 47 (.slice a23 n24 q25) j22 :: Fr)) N ?_ ?_
 · exact ⟨r14.2, [], 0, none, 0, 0, rfl, hp, hc⟩
 · clear hp hc; intro m vs u w27 hJ; obtain ⟨j21, j22, j26, a23, n24, q25, rfl, hp, hc⟩ := hJ; obtain ⟨u28, _⟩ := Ctx.rdLen hc (k := 5) rfl rfl reads_own; subst u28; rcases m with _ | m1
   · cases (show none = some r from hp)
   rw [ref08_Of.L1] at hp; refine Wseq (Wseq (Wreg ?_)); refine rM (.int .i64 j26) rfl rfl ?_; refine rs (v := .pointer (some ⟨b1, 0, none⟩)) (fax 0 rfl Tryz.underlying30 rfl Tryz.sizeOf3 rfl rfl rfl) rfl ?_; refine rs (ld rfl Tryz.isAgg3 (Ctx.cell hc (k := 4) rfl rfl rfl)) rfl ?_; refine rs (lt' rfl rfl) rfl ?_; refine rn (qn ?_); cases hb29 : (decide (j26 < x0.Layers))
   · replace hp := gneg hp (of_decide_eq_false hb29); refine Wcf rfl (Wexit (qx (qx (be (qn (Wseq (Wreg ?_))))))); refine rM (.pointer (some ⟨b7, 0, none⟩)) rfl rfl ?_; refine rs (v := .pointer (some ⟨b1, 1, none⟩)) (fax 1 rfl Tryz.underlying30 rfl Tryz.sizeOf3 rfl rfl rfl) rfl ?_; refine rs (ld rfl Tryz.isAgg3 (Ctx.cell hc (k := 4) rfl rfl rfl)) rfl ?_; replace hp := bind_some hp; obtain ⟨r30, hr30, hp⟩ := hp; replace hc := Ctx.p1 hc; refine rc (cl Tryz.call54 rfl rfl) rfl ?_; refine ref08_taker_take_any hc hr30 ?_; clear hc; intro a31 n32 q33 w34 hc; obtain ⟨u35, _⟩ := Ctx.rdLen hc (k := 0) rfl rfl reads_own; subst u35; refine rs (v := .pointer (some ⟨b10, 10, none⟩)) (fax 10 rfl Tryz.underlying35 rfl Tryz.sizeOf24 rfl rfl rfl) rfl ?_; refine ruE (Ctx.putOp hc (k := 3) rfl rfl (v := .slice a31 r30.1.length q33) (cs' := [.int .i64 x0.Layers, .int .i64 x0.Width, .int .i64 x0.Heads, .int .i64 x0.Inner, .int .i64 x0.Vocab, .int .i64 x0.Places, .int .i64 r14.1.Rows, .int .i64 r14.1.Cols, .slice a15 r14.1.V.length q17, .slice a23 j22.length q25, .slice a31 r30.1.length q33, .int .i64 0, .int .i64 0, .slice none 0 0]) rfl rfl rfl Tryz.sizeOf24 rfl rfl rfl) rfl ?_; clear hc; rintro w36 hc; replace hc := Ctx.n3 hc; refine rn (qn (Wseq (Wreg ?_))); refine rM (.pointer (some ⟨b7, 0, none⟩)) rfl rfl ?_; refine rs (v := .pointer (some ⟨b1, 4, none⟩)) (fax 4 rfl Tryz.underlying30 rfl Tryz.sizeOf3 rfl rfl rfl) rfl ?_; refine rs (ld rfl Tryz.isAgg3 (Ctx.cell hc (k := 5) rfl rfl rfl)) rfl ?_; refine rs (v := .pointer (some ⟨b1, 1, none⟩)) (fax 1 rfl Tryz.underlying30 rfl Tryz.sizeOf3 rfl rfl rfl) rfl ?_; refine rs (ld rfl Tryz.isAgg3 (Ctx.cell hc (k := 5) rfl rfl rfl)) rfl ?_; replace hp := bind_some hp; obtain ⟨r37, hr37, hp⟩ := hp; replace hc := Ctx.p1 hc; refine rc (cl Tryz.call53 rfl rfl) rfl ?_; refine ref08_taker_mat_any hc hr37 ?_; clear hc; intro a38 n39 q40 w41 hc; obtain ⟨u42, _⟩ := Ctx.rdLen hc (k := 0) rfl rfl reads_ro; subst u42; refine rs (v := .pointer (some ⟨b10, 11, none⟩)) (fax 11 rfl Tryz.underlying35 rfl Tryz.sizeOf32 rfl rfl rfl) rfl ?_; refine ruE (Ctx.putAgg hc (k := 4) rfl rfl (vs := (S_api_Mat.cz r37.1 a38 q40)) (cs' := [.int .i64 x0.Layers, .int .i64 x0.Width, .int .i64 x0.Heads, .int .i64 x0.Inner, .int .i64 x0.Vocab, .int .i64 x0.Places, .int .i64 r14.1.Rows, .int .i64 r14.1.Cols, .slice a15 r14.1.V.length q17, .slice a23 j22.length q25, .slice a31 r30.1.length q33, .int .i64 r37.1.Rows, .int .i64 r37.1.Cols, .slice a38 r37.1.V.length q40]) rfl rfl rfl Tryz.sizeOf32 rfl rfl rfl) rfl ?_; clear hc; rintro w43 hc; replace hc := Ctx.n4 hc; refine rn (qn (Wseq (Wreg ?_))); refine rs (v := .agg #[.int .i64 x0.Layers, .int .i64 x0.Width, .int .i64 x0.Heads, .int .i64 x0.Inner, .int .i64 x0.Vocab, .int .i64 x0.Places, .int .i64 r14.1.Rows, .int .i64 r14.1.Cols, .slice a15 r14.1.V.length q17, .slice a23 j22.length q25, .slice a31 r30.1.length q33, .int .i64 r37.1.Rows, .int .i64 r37.1.Cols, .slice a38 r37.1.V.length q40]) (ldg rfl Tryz.isAgg35 Tryz.sizeOf35 rfl (Ctx.cells hc (k := 4) rfl rfl 0 (vs := [.int .i64 x0.Layers, .int .i64 x0.Width, .int .i64 x0.Heads, .int .i64 x0.Inner, .int .i64 x0.Vocab, .int .i64 x0.Places, .int .i64 r14.1.Rows, .int .i64 r14.1.Cols, .slice a15 r14.1.V.length q17, .slice a23 j22.length q25, .slice a31 r30.1.length q33, .int .i64 r37.1.Rows, .int .i64 r37.1.Cols, .slice a38 r37.1.V.length q40]) rfl)) rfl ?_; refine ruE (Ctx.putAgg hc (k := 5) rfl rfl (vs := [.int .i64 x0.Layers, .int .i64 x0.Width, .int .i64 x0.Heads, .int .i64 x0.Inner, .int .i64 x0.Vocab, .int .i64 x0.Places, .int .i64 r14.1.Rows, .int .i64 r14.1.Cols, .slice a15 r14.1.V.length q17, .slice a23 j22.length q25, .slice a31 r30.1.length q33, .int .i64 r37.1.Rows, .int .i64 r37.1.Cols, .slice a38 r37.1.V.length q40]) (cs' := [.int .i64 x0.Layers, .int .i64 x0.Width, .int .i64 x0.Heads, .int .i64 x0.Inner, .int .i64 x0.Vocab, .int .i64 x0.Places, .int .i64 r14.1.Rows, .int .i64 r14.1.Cols, .slice a15 r14.1.V.length q17, .slice a23 j22.length q25, .slice a31 r30.1.length q33, .int .i64 r37.1.Rows, .int .i64 r37.1.Cols, .slice a38 r37.1.V.length q40]) rfl rfl rfl Tryz.sizeOf35 rfl rfl rfl) rfl ?_; clear hc; rintro w44 hc; replace hc := Ctx.n5 hc; refine rn (qn (Wret ?_)); have hres := Ctx.cells hc (k := 5) rfl rfl 0 (vs := [.int .i64 x0.Layers, .int .i64 x0.Width, .int .i64 x0.Heads, .int .i64 x0.Inner, .int .i64 x0.Vocab, .int .i64 x0.Places, .int .i64 r14.1.Rows, .int .i64 r14.1.Cols, .slice a15 r14.1.V.length q17, .slice a23 j22.length q25, .slice a31 r30.1.length q33, .int .i64 r37.1.Rows, .int .i64 r37.1.Cols, .slice a38 r37.1.V.length q40]) rfl; replace hc := hc.dup (k := 3) rfl rfl; replace hc := hc.freeze (k := 8) rfl rfl rfl; replace hc := Ctx.n8 hc; replace hc := hc.dup (k := 8) rfl rfl; replace hc := hc.freeze (k := 4) rfl rfl rfl; replace hc := Ctx.n4 hc; replace hc := hc.dup (k := 4) rfl rfl; replace hc := hc.dup (k := 3) rfl rfl; replace hc := Ctx.p3 (Ctx.p2 (Ctx.p1 (Ctx.r4 (Ctx.r5 (Ctx.r6 (Ctx.r7 (Ctx.r8 (Ctx.r9 (Ctx.r10 (Ctx.r11 hc)))))))))); injection hp with hp; subst hp; refine f1c (cs := [.int .i64 x0.Layers, .int .i64 x0.Width, .int .i64 x0.Heads, .int .i64 x0.Inner, .int .i64 x0.Vocab, .int .i64 x0.Places, .int .i64 r14.1.Rows, .int .i64 r14.1.Cols, .slice a15 r14.1.V.length q17, .slice a23 j22.length q25, .slice a31 r30.1.length q33, .int .i64 r37.1.Rows, .int .i64 r37.1.Cols, .slice a38 r37.1.V.length q40]) Tryz.results33 Tryz.ntmps33 rfl Tryz.isAgg35 Tryz.sizeOf35 rfl hres ?_; exact ⟨_, rfl, k _ _ _ _ _ _ _ _ _ _ _ _ _ hc⟩
   · replace hp := gpos hp (of_decide_eq_true hb29); refine Wct rfl (Wskip (qn (Wseq (Wblk (Wseq (Wreg ?_)))))); refine rs (v := .agg #[.slice none 0 0, .slice none 0 0, .int .i64 0, .int .i64 0, .slice none 0 0, .int .i64 0, .int .i64 0, .slice none 0 0, .int .i64 0, .int .i64 0, .slice none 0 0, .int .i64 0, .int .i64 0, .slice none 0 0, .int .i64 0, .int .i64 0, .slice none 0 0, .int .i64 0, .int .i64 0, .slice none 0 0]) (bd_47_ ) rfl ?_; refine rsE (Ctx.allocOp (cs := [.slice none 0 0, .slice none 0 0, .int .i64 0, .int .i64 0, .slice none 0 0, .int .i64 0, .int .i64 0, .slice none 0 0, .int .i64 0, .int .i64 0, .slice none 0 0, .int .i64 0, .int .i64 0, .slice none 0 0, .int .i64 0, .int .i64 0, .slice none 0 0, .int .i64 0, .int .i64 0, .slice none 0 0]) hc Tryz.zeroValue47 rfl) rfl ?_; clear hc; rintro _ w47 ⟨b45, rfl, hc⟩; refine ruE (Ctx.putAgg hc (k := 0) rfl rfl (vs := [.slice none 0 0, .slice none 0 0, .int .i64 0, .int .i64 0, .slice none 0 0, .int .i64 0, .int .i64 0, .slice none 0 0, .int .i64 0, .int .i64 0, .slice none 0 0, .int .i64 0, .int .i64 0, .slice none 0 0, .int .i64 0, .int .i64 0, .slice none 0 0, .int .i64 0, .int .i64 0, .slice none 0 0]) (cs' := [.slice none 0 0, .slice none 0 0, .int .i64 0, .int .i64 0, .slice none 0 0, .int .i64 0, .int .i64 0, .slice none 0 0, .int .i64 0, .int .i64 0, .slice none 0 0, .int .i64 0, .int .i64 0, .slice none 0 0, .int .i64 0, .int .i64 0, .slice none 0 0, .int .i64 0, .int .i64 0, .slice none 0 0]) rfl rfl rfl Tryz.sizeOf47 rfl rfl rfl) rfl ?_; clear hc; rintro w48 hc; replace hc := Ctx.n0 hc; refine rn (qn (Wseq (Wreg ?_))); refine rM (.pointer (some ⟨b7, 0, none⟩)) rfl rfl ?_; refine rs (v := .pointer (some ⟨b1, 1, none⟩)) (fax 1 rfl Tryz.underlying30 rfl Tryz.sizeOf3 rfl rfl rfl) rfl ?_; refine rs (ld rfl Tryz.isAgg3 (Ctx.cell hc (k := 5) rfl rfl rfl)) rfl ?_; replace hp := bind_some hp; obtain ⟨r49, hr49, hp⟩ := hp; replace hc := Ctx.p2 hc; refine rc (cl Tryz.call54 rfl rfl) rfl ?_; refine ref08_taker_take_any hc hr49 ?_; clear hc; intro a50 n51 q52 w53 hc; obtain ⟨u54, _⟩ := Ctx.rdLen hc (k := 0) rfl rfl reads_own; subst u54; refine rs (v := .pointer (some ⟨b45, 0, none⟩)) (fax 0 rfl Tryz.underlying47 rfl Tryz.sizeOf24 rfl rfl rfl) rfl ?_; refine ruE (Ctx.putOp hc (k := 2) rfl rfl (v := .slice a50 r49.1.length q52) (cs' := [.slice a50 r49.1.length q52, .slice none 0 0, .int .i64 0, .int .i64 0, .slice none 0 0, .int .i64 0, .int .i64 0, .slice none 0 0, .int .i64 0, .int .i64 0, .slice none 0 0, .int .i64 0, .int .i64 0, .slice none 0 0, .int .i64 0, .int .i64 0, .slice none 0 0, .int .i64 0, .int .i64 0, .slice none 0 0]) rfl rfl rfl Tryz.sizeOf24 rfl rfl rfl) rfl ?_; clear hc; rintro w55 hc; replace hc := Ctx.n2 hc; refine rn (qn (Wseq (Wreg ?_))); refine rM (.pointer (some ⟨b7, 0, none⟩)) rfl rfl ?_; refine rs (v := .pointer (some ⟨b1, 1, none⟩)) (fax 1 rfl Tryz.underlying30 rfl Tryz.sizeOf3 rfl rfl rfl) rfl ?_; refine rs (ld rfl Tryz.isAgg3 (Ctx.cell hc (k := 6) rfl rfl rfl)) rfl ?_; refine rs (v := .pointer (some ⟨b1, 1, none⟩)) (fax 1 rfl Tryz.underlying30 rfl Tryz.sizeOf3 rfl rfl rfl) rfl ?_; refine rs (ld rfl Tryz.isAgg3 (Ctx.cell hc (k := 6) rfl rfl rfl)) rfl ?_; replace hp := bind_some hp; obtain ⟨r56, hr56, hp⟩ := hp; replace hc := Ctx.p1 hc; refine rc (cl Tryz.call53 rfl rfl) rfl ?_; refine ref08_taker_mat_any hc hr56 ?_; clear hc; intro a57 n58 q59 w60 hc; obtain ⟨u61, _⟩ := Ctx.rdLen hc (k := 0) rfl rfl reads_ro; subst u61; refine rs (v := .pointer (some ⟨b45, 2, none⟩)) (fax 2 rfl Tryz.underlying47 rfl Tryz.sizeOf32 rfl rfl rfl) rfl ?_; refine ruE (Ctx.putAgg hc (k := 3) rfl rfl (vs := (S_api_Mat.cz r56.1 a57 q59)) (cs' := [.slice a50 r49.1.length q52, .slice none 0 0, .int .i64 r56.1.Rows, .int .i64 r56.1.Cols, .slice a57 r56.1.V.length q59, .int .i64 0, .int .i64 0, .slice none 0 0, .int .i64 0, .int .i64 0, .slice none 0 0, .int .i64 0, .int .i64 0, .slice none 0 0, .int .i64 0, .int .i64 0, .slice none 0 0, .int .i64 0, .int .i64 0, .slice none 0 0]) rfl rfl rfl Tryz.sizeOf32 rfl rfl rfl) rfl ?_; clear hc; rintro w62 hc; replace hc := Ctx.n3 hc; refine rn (qn (Wseq (Wreg ?_))); refine rM (.pointer (some ⟨b7, 0, none⟩)) rfl rfl ?_; refine rs (v := .pointer (some ⟨b1, 1, none⟩)) (fax 1 rfl Tryz.underlying30 rfl Tryz.sizeOf3 rfl rfl rfl) rfl ?_; refine rs (ld rfl Tryz.isAgg3 (Ctx.cell hc (k := 7) rfl rfl rfl)) rfl ?_; refine rs (v := .pointer (some ⟨b1, 1, none⟩)) (fax 1 rfl Tryz.underlying30 rfl Tryz.sizeOf3 rfl rfl rfl) rfl ?_; refine rs (ld rfl Tryz.isAgg3 (Ctx.cell hc (k := 7) rfl rfl rfl)) rfl ?_; replace hp := bind_some hp; obtain ⟨r63, hr63, hp⟩ := hp; replace hc := Ctx.p1 hc; refine rc (cl Tryz.call53 rfl rfl) rfl ?_; refine ref08_taker_mat_any hc hr63 ?_; clear hc; intro a64 n65 q66 w67 hc; obtain ⟨u68, _⟩ := Ctx.rdLen hc (k := 0) rfl rfl reads_ro; subst u68; refine rs (v := .pointer (some ⟨b45, 5, none⟩)) (fax 5 rfl Tryz.underlying47 rfl Tryz.sizeOf32 rfl rfl rfl) rfl ?_; refine ruE (Ctx.putAgg hc (k := 4) rfl rfl (vs := (S_api_Mat.cz r63.1 a64 q66)) (cs' := [.slice a50 r49.1.length q52, .slice none 0 0, .int .i64 r56.1.Rows, .int .i64 r56.1.Cols, .slice a57 r56.1.V.length q59, .int .i64 r63.1.Rows, .int .i64 r63.1.Cols, .slice a64 r63.1.V.length q66, .int .i64 0, .int .i64 0, .slice none 0 0, .int .i64 0, .int .i64 0, .slice none 0 0, .int .i64 0, .int .i64 0, .slice none 0 0, .int .i64 0, .int .i64 0, .slice none 0 0]) rfl rfl rfl Tryz.sizeOf32 rfl rfl rfl) rfl ?_; clear hc; rintro w69 hc; replace hc := Ctx.n4 hc; refine rn (qn (Wseq (Wreg ?_))); refine rM (.pointer (some ⟨b7, 0, none⟩)) rfl rfl ?_; refine rs (v := .pointer (some ⟨b1, 1, none⟩)) (fax 1 rfl Tryz.underlying30 rfl Tryz.sizeOf3 rfl rfl rfl) rfl ?_; refine rs (ld rfl Tryz.isAgg3 (Ctx.cell hc (k := 8) rfl rfl rfl)) rfl ?_; refine rs (v := .pointer (some ⟨b1, 1, none⟩)) (fax 1 rfl Tryz.underlying30 rfl Tryz.sizeOf3 rfl rfl rfl) rfl ?_; refine rs (ld rfl Tryz.isAgg3 (Ctx.cell hc (k := 8) rfl rfl rfl)) rfl ?_; replace hp := bind_some hp; obtain ⟨r70, hr70, hp⟩ := hp; replace hc := Ctx.p1 hc; refine rc (cl Tryz.call53 rfl rfl) rfl ?_; refine ref08_taker_mat_any hc hr70 ?_; clear hc; intro a71 n72 q73 w74 hc; obtain ⟨u75, _⟩ := Ctx.rdLen hc (k := 0) rfl rfl reads_ro; subst u75; refine rs (v := .pointer (some ⟨b45, 8, none⟩)) (fax 8 rfl Tryz.underlying47 rfl Tryz.sizeOf32 rfl rfl rfl) rfl ?_; refine ruE (Ctx.putAgg hc (k := 5) rfl rfl (vs := (S_api_Mat.cz r70.1 a71 q73)) (cs' := [.slice a50 r49.1.length q52, .slice none 0 0, .int .i64 r56.1.Rows, .int .i64 r56.1.Cols, .slice a57 r56.1.V.length q59, .int .i64 r63.1.Rows, .int .i64 r63.1.Cols, .slice a64 r63.1.V.length q66, .int .i64 r70.1.Rows, .int .i64 r70.1.Cols, .slice a71 r70.1.V.length q73, .int .i64 0, .int .i64 0, .slice none 0 0, .int .i64 0, .int .i64 0, .slice none 0 0, .int .i64 0, .int .i64 0, .slice none 0 0]) rfl rfl rfl Tryz.sizeOf32 rfl rfl rfl) rfl ?_; clear hc; rintro w76 hc; replace hc := Ctx.n5 hc; refine rn (qn (Wseq (Wreg ?_))); refine rM (.pointer (some ⟨b7, 0, none⟩)) rfl rfl ?_; refine rs (v := .pointer (some ⟨b1, 1, none⟩)) (fax 1 rfl Tryz.underlying30 rfl Tryz.sizeOf3 rfl rfl rfl) rfl ?_; refine rs (ld rfl Tryz.isAgg3 (Ctx.cell hc (k := 9) rfl rfl rfl)) rfl ?_; refine rs (v := .pointer (some ⟨b1, 1, none⟩)) (fax 1 rfl Tryz.underlying30 rfl Tryz.sizeOf3 rfl rfl rfl) rfl ?_; refine rs (ld rfl Tryz.isAgg3 (Ctx.cell hc (k := 9) rfl rfl rfl)) rfl ?_; replace hp := bind_some hp; obtain ⟨r77, hr77, hp⟩ := hp; replace hc := Ctx.p1 hc; refine rc (cl Tryz.call53 rfl rfl) rfl ?_; refine ref08_taker_mat_any hc hr77 ?_; clear hc; intro a78 n79 q80 w81 hc; obtain ⟨u82, _⟩ := Ctx.rdLen hc (k := 0) rfl rfl reads_ro; subst u82; refine rs (v := .pointer (some ⟨b45, 11, none⟩)) (fax 11 rfl Tryz.underlying47 rfl Tryz.sizeOf32 rfl rfl rfl) rfl ?_; refine ruE (Ctx.putAgg hc (k := 6) rfl rfl (vs := (S_api_Mat.cz r77.1 a78 q80)) (cs' := [.slice a50 r49.1.length q52, .slice none 0 0, .int .i64 r56.1.Rows, .int .i64 r56.1.Cols, .slice a57 r56.1.V.length q59, .int .i64 r63.1.Rows, .int .i64 r63.1.Cols, .slice a64 r63.1.V.length q66, .int .i64 r70.1.Rows, .int .i64 r70.1.Cols, .slice a71 r70.1.V.length q73, .int .i64 r77.1.Rows, .int .i64 r77.1.Cols, .slice a78 r77.1.V.length q80, .int .i64 0, .int .i64 0, .slice none 0 0, .int .i64 0, .int .i64 0, .slice none 0 0]) rfl rfl rfl Tryz.sizeOf32 rfl rfl rfl) rfl ?_; clear hc; rintro w83 hc; replace hc := Ctx.n6 hc; refine rn (qn (Wseq (Wreg ?_))); refine rM (.pointer (some ⟨b7, 0, none⟩)) rfl rfl ?_; refine rs (v := .pointer (some ⟨b1, 1, none⟩)) (fax 1 rfl Tryz.underlying30 rfl Tryz.sizeOf3 rfl rfl rfl) rfl ?_; refine rs (ld rfl Tryz.isAgg3 (Ctx.cell hc (k := 10) rfl rfl rfl)) rfl ?_; replace hp := bind_some hp; obtain ⟨r84, hr84, hp⟩ := hp; replace hc := Ctx.p1 hc; refine rc (cl Tryz.call54 rfl rfl) rfl ?_; refine ref08_taker_take_any hc hr84 ?_; clear hc; intro a85 n86 q87 w88 hc; obtain ⟨u89, _⟩ := Ctx.rdLen hc (k := 0) rfl rfl reads_own; subst u89; refine rs (v := .pointer (some ⟨b45, 1, none⟩)) (fax 1 rfl Tryz.underlying47 rfl Tryz.sizeOf24 rfl rfl rfl) rfl ?_; refine ruE (Ctx.putOp hc (k := 7) rfl rfl (v := .slice a85 r84.1.length q87) (cs' := [.slice a50 r49.1.length q52, .slice a85 r84.1.length q87, .int .i64 r56.1.Rows, .int .i64 r56.1.Cols, .slice a57 r56.1.V.length q59, .int .i64 r63.1.Rows, .int .i64 r63.1.Cols, .slice a64 r63.1.V.length q66, .int .i64 r70.1.Rows, .int .i64 r70.1.Cols, .slice a71 r70.1.V.length q73, .int .i64 r77.1.Rows, .int .i64 r77.1.Cols, .slice a78 r77.1.V.length q80, .int .i64 0, .int .i64 0, .slice none 0 0, .int .i64 0, .int .i64 0, .slice none 0 0]) rfl rfl rfl Tryz.sizeOf24 rfl rfl rfl) rfl ?_; clear hc; rintro w90 hc; replace hc := Ctx.n7 hc; refine rn (qn (Wseq (Wreg ?_))); refine rM (.pointer (some ⟨b7, 0, none⟩)) rfl rfl ?_; refine rs (v := .pointer (some ⟨b1, 3, none⟩)) (fax 3 rfl Tryz.underlying30 rfl Tryz.sizeOf3 rfl rfl rfl) rfl ?_; refine rs (ld rfl Tryz.isAgg3 (Ctx.cell hc (k := 11) rfl rfl rfl)) rfl ?_; refine rs (v := .pointer (some ⟨b1, 1, none⟩)) (fax 1 rfl Tryz.underlying30 rfl Tryz.sizeOf3 rfl rfl rfl) rfl ?_; refine rs (ld rfl Tryz.isAgg3 (Ctx.cell hc (k := 11) rfl rfl rfl)) rfl ?_; replace hp := bind_some hp; obtain ⟨r91, hr91, hp⟩ := hp; replace hc := Ctx.p1 hc; refine rc (cl Tryz.call53 rfl rfl) rfl ?_; refine ref08_taker_mat_any hc hr91 ?_; clear hc; intro a92 n93 q94 w95 hc; obtain ⟨u96, _⟩ := Ctx.rdLen hc (k := 0) rfl rfl reads_ro; subst u96; refine rs (v := .pointer (some ⟨b45, 14, none⟩)) (fax 14 rfl Tryz.underlying47 rfl Tryz.sizeOf32 rfl rfl rfl) rfl ?_; refine ruE (Ctx.putAgg hc (k := 8) rfl rfl (vs := (S_api_Mat.cz r91.1 a92 q94)) (cs' := [.slice a50 r49.1.length q52, .slice a85 r84.1.length q87, .int .i64 r56.1.Rows, .int .i64 r56.1.Cols, .slice a57 r56.1.V.length q59, .int .i64 r63.1.Rows, .int .i64 r63.1.Cols, .slice a64 r63.1.V.length q66, .int .i64 r70.1.Rows, .int .i64 r70.1.Cols, .slice a71 r70.1.V.length q73, .int .i64 r77.1.Rows, .int .i64 r77.1.Cols, .slice a78 r77.1.V.length q80, .int .i64 r91.1.Rows, .int .i64 r91.1.Cols, .slice a92 r91.1.V.length q94, .int .i64 0, .int .i64 0, .slice none 0 0]) rfl rfl rfl Tryz.sizeOf32 rfl rfl rfl) rfl ?_; clear hc; rintro w97 hc; replace hc := Ctx.n8 hc; refine rn (qn (Wseq (Wreg ?_))); refine rM (.pointer (some ⟨b7, 0, none⟩)) rfl rfl ?_; refine rs (v := .pointer (some ⟨b1, 1, none⟩)) (fax 1 rfl Tryz.underlying30 rfl Tryz.sizeOf3 rfl rfl rfl) rfl ?_; refine rs (ld rfl Tryz.isAgg3 (Ctx.cell hc (k := 12) rfl rfl rfl)) rfl ?_; refine rs (v := .pointer (some ⟨b1, 3, none⟩)) (fax 3 rfl Tryz.underlying30 rfl Tryz.sizeOf3 rfl rfl rfl) rfl ?_; refine rs (ld rfl Tryz.isAgg3 (Ctx.cell hc (k := 12) rfl rfl rfl)) rfl ?_; replace hp := bind_some hp; obtain ⟨r98, hr98, hp⟩ := hp; replace hc := Ctx.p1 hc; refine rc (cl Tryz.call53 rfl rfl) rfl ?_; refine ref08_taker_mat_any hc hr98 ?_; clear hc; intro a99 n100 q101 w102 hc; obtain ⟨u103, _⟩ := Ctx.rdLen hc (k := 0) rfl rfl reads_ro; subst u103; refine rs (v := .pointer (some ⟨b45, 17, none⟩)) (fax 17 rfl Tryz.underlying47 rfl Tryz.sizeOf32 rfl rfl rfl) rfl ?_; refine ruE (Ctx.putAgg hc (k := 9) rfl rfl (vs := (S_api_Mat.cz r98.1 a99 q101)) (cs' := [.slice a50 r49.1.length q52, .slice a85 r84.1.length q87, .int .i64 r56.1.Rows, .int .i64 r56.1.Cols, .slice a57 r56.1.V.length q59, .int .i64 r63.1.Rows, .int .i64 r63.1.Cols, .slice a64 r63.1.V.length q66, .int .i64 r70.1.Rows, .int .i64 r70.1.Cols, .slice a71 r70.1.V.length q73, .int .i64 r77.1.Rows, .int .i64 r77.1.Cols, .slice a78 r77.1.V.length q80, .int .i64 r91.1.Rows, .int .i64 r91.1.Cols, .slice a92 r91.1.V.length q94, .int .i64 r98.1.Rows, .int .i64 r98.1.Cols, .slice a99 r98.1.V.length q101]) rfl rfl rfl Tryz.sizeOf32 rfl rfl rfl) rfl ?_; clear hc; rintro w104 hc; replace hc := Ctx.n9 hc; refine rn (qn (Wreg ?_)); refine rs (v := .pointer (some ⟨b10, 9, none⟩)) (fax 9 rfl Tryz.underlying35 rfl Tryz.sizeOf33 rfl rfl rfl) rfl ?_; refine rs (ld rfl Tryz.isAgg33 (Ctx.cell hc (k := 11) rfl rfl rfl)) rfl ?_; refine rs (v := .agg #[.slice a50 r49.1.length q52, .slice a85 r84.1.length q87, .int .i64 r56.1.Rows, .int .i64 r56.1.Cols, .slice a57 r56.1.V.length q59, .int .i64 r63.1.Rows, .int .i64 r63.1.Cols, .slice a64 r63.1.V.length q66, .int .i64 r70.1.Rows, .int .i64 r70.1.Cols, .slice a71 r70.1.V.length q73, .int .i64 r77.1.Rows, .int .i64 r77.1.Cols, .slice a78 r77.1.V.length q80, .int .i64 r91.1.Rows, .int .i64 r91.1.Cols, .slice a92 r91.1.V.length q94, .int .i64 r98.1.Rows, .int .i64 r98.1.Cols, .slice a99 r98.1.V.length q101]) (ldg rfl Tryz.isAgg47 Tryz.sizeOf47 rfl (Ctx.cells hc (k := 9) rfl rfl 0 (vs := [.slice a50 r49.1.length q52, .slice a85 r84.1.length q87, .int .i64 r56.1.Rows, .int .i64 r56.1.Cols, .slice a57 r56.1.V.length q59, .int .i64 r63.1.Rows, .int .i64 r63.1.Cols, .slice a64 r63.1.V.length q66, .int .i64 r70.1.Rows, .int .i64 r70.1.Cols, .slice a71 r70.1.V.length q73, .int .i64 r77.1.Rows, .int .i64 r77.1.Cols, .slice a78 r77.1.V.length q80, .int .i64 r91.1.Rows, .int .i64 r91.1.Cols, .slice a92 r91.1.V.length q94, .int .i64 r98.1.Rows, .int .i64 r98.1.Cols, .slice a99 r98.1.V.length q101]) rfl)) rfl ?_; replace hc := hc.dup (k := 0) rfl rfl; replace hc := hc.dup (k := 3) rfl rfl; replace hc := hc.dup (k := 6) rfl rfl; replace hc := hc.dup (k := 8) rfl rfl; replace hc := hc.dup (k := 10) rfl rfl; replace hc := hc.dup (k := 12) rfl rfl; replace hc := hc.freeze (k := 9) rfl rfl rfl; replace hc := Ctx.n9 hc; replace hc := hc.dup (k := 9) rfl rfl; replace hc := hc.freeze (k := 15) rfl rfl rfl; replace hc := Ctx.n15 hc; replace hc := hc.dup (k := 15) rfl rfl; replace hc : Ctx w104 (Hold S_api_Block.pr [.slice a50 r49.1.length q52, .slice a85 r84.1.length q87, .int .i64 r56.1.Rows, .int .i64 r56.1.Cols, .slice a57 r56.1.V.length q59, .int .i64 r63.1.Rows, .int .i64 r63.1.Cols, .slice a64 r63.1.V.length q66, .int .i64 r70.1.Rows, .int .i64 r70.1.Cols, .slice a71 r70.1.V.length q73, .int .i64 r77.1.Rows, .int .i64 r77.1.Cols, .slice a78 r77.1.V.length q80, .int .i64 r91.1.Rows, .int .i64 r91.1.Cols, .slice a92 r91.1.V.length q94, .int .i64 r98.1.Rows, .int .i64 r98.1.Cols, .slice a99 r98.1.V.length q101] (⟨r49.1, r84.1, r56.1, r63.1, r70.1, r77.1, r91.1, r98.1⟩ : S_api_Block) :: Hold (pRo (pInt .i8)) [.slice a99 r98.1.V.length q101] r98.1.V :: S_ref08_taker.hp b7 r98.2 :: Hold (pRo (pInt .i8)) [.slice a92 r91.1.V.length q94] r91.1.V :: Hold (pRo (pInt .i8)) [.slice a85 r84.1.length q87] r84.1 :: Hold (pRo (pInt .i8)) [.slice a78 r77.1.V.length q80] r77.1.V :: Hold (pRo (pInt .i8)) [.slice a71 r70.1.V.length q73] r70.1.V :: Hold (pRo (pInt .i8)) [.slice a64 r63.1.V.length q66] r63.1.V :: Hold (pRo (pInt .i8)) [.slice a57 r56.1.V.length q59] r56.1.V :: Hold (pRo (pInt .i8)) [.slice a50 r49.1.length q52] r49.1 :: B b45 [.slice a50 r49.1.length q52, .slice a85 r84.1.length q87, .int .i64 r56.1.Rows, .int .i64 r56.1.Cols, .slice a57 r56.1.V.length q59, .int .i64 r63.1.Rows, .int .i64 r63.1.Cols, .slice a64 r63.1.V.length q66, .int .i64 r70.1.Rows, .int .i64 r70.1.Cols, .slice a71 r70.1.V.length q73, .int .i64 r77.1.Rows, .int .i64 r77.1.Cols, .slice a78 r77.1.V.length q80, .int .i64 r91.1.Rows, .int .i64 r91.1.Cols, .slice a92 r91.1.V.length q94, .int .i64 r98.1.Rows, .int .i64 r98.1.Cols, .slice a99 r98.1.V.length q101] 47 :: Hold (pRo (pInt .i8)) [.slice a15 r14.1.V.length q17] r14.1.V :: B b10 [.int .i64 x0.Layers, .int .i64 x0.Width, .int .i64 x0.Heads, .int .i64 x0.Inner, .int .i64 x0.Vocab, .int .i64 x0.Places, .int .i64 r14.1.Rows, .int .i64 r14.1.Cols, .slice a15 r14.1.V.length q17, .slice a23 j22.length q25, .slice none 0 0, .int .i64 0, .int .i64 0, .slice none 0 0] 35 :: B b4 [.int .i64 0, .int .i64 0, .int .i64 0, .int .i64 0, .int .i64 0, .int .i64 0, .int .i64 0, .int .i64 0, .slice none 0 0, .slice none 0 0, .slice none 0 0, .int .i64 0, .int .i64 0, .slice none 0 0] 35 :: B b1 (S_api_Shape.cz x0) 30 :: Own S_api_Block.pr 47 (.slice a23 j22.length q25) j22 :: Fr) := S_api_Block.cl hc; refine rsE (Ctx.builtOp (css := [[.slice a50 r49.1.length q52, .slice a85 r84.1.length q87, .int .i64 r56.1.Rows, .int .i64 r56.1.Cols, .slice a57 r56.1.V.length q59, .int .i64 r63.1.Rows, .int .i64 r63.1.Cols, .slice a64 r63.1.V.length q66, .int .i64 r70.1.Rows, .int .i64 r70.1.Cols, .slice a71 r70.1.V.length q73, .int .i64 r77.1.Rows, .int .i64 r77.1.Cols, .slice a78 r77.1.V.length q80, .int .i64 r91.1.Rows, .int .i64 r91.1.Cols, .slice a92 r91.1.V.length q94, .int .i64 r98.1.Rows, .int .i64 r98.1.Cols, .slice a99 r98.1.V.length q101]]) (xs := ([(⟨r49.1, r84.1, r56.1, r63.1, r70.1, r77.1, r91.1, r98.1⟩ : S_api_Block)] : List S_api_Block)) (E := S_api_Block.pr) hc Tryz.underlying33 Tryz.sizeOf47 Tryz.zeroValue47 rfl rfl rfl rfl rfl rfl rfl rfl) rfl ?_; clear hc; rintro _ w106 ⟨a105, rfl, hc⟩; replace hp := bind_some hp; obtain ⟨z107, hz107, hp⟩ := hp; obtain ⟨hg108, e109⟩ := app_some hz107; refine rsE (Ctx.append hc (k := 15) rfl rfl (k2 := 0) rfl rfl reads_own Tryz.underlying33 (i := Tryz.t47) rfl rfl rfl rfl rfl rfl rfl rfl hg108) rfl ?_; clear hc; rintro _ w112 ⟨a110, q111, rfl, hc⟩; rw [← e109] at hc ⊢; replace hc := Ctx.n15 hc; refine rs (v := .pointer (some ⟨b10, 9, none⟩)) (fax 9 rfl Tryz.underlying35 rfl Tryz.sizeOf33 rfl rfl rfl) rfl ?_; refine ruE (Ctx.putOp hc (k := 12) rfl rfl (v := .slice a110 z107.length q111) (cs' := [.int .i64 x0.Layers, .int .i64 x0.Width, .int .i64 x0.Heads, .int .i64 x0.Inner, .int .i64 x0.Vocab, .int .i64 x0.Places, .int .i64 r14.1.Rows, .int .i64 r14.1.Cols, .slice a15 r14.1.V.length q17, .slice a110 z107.length q111, .slice none 0 0, .int .i64 0, .int .i64 0, .slice none 0 0]) rfl rfl rfl Tryz.sizeOf33 rfl rfl rfl) rfl ?_; clear hc; rintro w113 hc; replace hc := Ctx.n12 hc; refine rn (bn (qn (Wreg ?_))); refine rM (.int .i64 j26) rfl rfl ?_; refine rs (adw rfl rfl) rfl ?_; refine rA (.int .i64 (IntKind.i64.wrap (j26 + 1))) rfl rfl ?_; refine rn (qn ?_); replace hc := Ctx.p5 (Ctx.p5 (Ctx.r0 (Ctx.r1 (Ctx.r3 (Ctx.r4 (Ctx.r5 (Ctx.r6 (Ctx.r7 (Ctx.r8 (Ctx.r9 (Ctx.r10 hc))))))))))); replace hc := Ctx.p5 (Ctx.p4 (Ctx.p5 (Ctx.p5 hc))); exact ⟨m1, Nat.lt_succ_self _, ⟨r98.2, z107, (IntKind.i64.wrap (j26 + 1)), a110, z107.length, q111, rfl, hp, hc⟩, (kl rfl k0)⟩

def rope_Angle (x0 : Int) (x1 : Int) : Option (Int) :=
  if x0 < 0 then
    some 0
  else
    if x0 > 1048576 then
      some 0
    else
      if x1 < 0 then
        some 0
      else
        chk (0 ≤ (min (IntKind.u64.wrap x1) 14)) <|
        (some (iand .i64 (IntKind.i64.wrap (x0 * (ishr .i64 8192 (min (IntKind.u64.wrap x1) 14)))) 65535)).bind fun e5 =>
        some e5

set_option maxHeartbeats 8000000 in
theorem rope_Angle_any {x0 : Int} {x1 : Int} {Fr : List HP} {w : World} {r : Int} {K : Value → World → Prop}  (hc : Ctx w (Fr)) (hp : rope_Angle x0 x1 = some r)
    (k : ∀ w', Ctx w' (Fr) → K (.int .i64 r) w') : Calls Tryz.prog 117 #[.int .i64 x0, .int .i64 x1] w (Ret K) := by
 unfold rope_Angle at hp; refine Center (args := [.int .i64 x0, .int .i64 x1]) (l := [(0, .int .i64 x0), (1, .int .i64 x1)]) Tryz.func117 Tryz.ntmps117 rfl rfl rfl ?_; refine Wseq (Wreg ?_); refine rA (.int .i64 0) rfl rfl ?_; refine rn (qn (Wseq (Wseq (Wreg ?_)))); refine rM (.int .i64 x0) rfl rfl ?_; refine rs (lt' rfl rfl) rfl ?_; refine rM (.bool (decide (x0 < 0))) rfl rfl ?_; cases hb1 : (decide (x0 < 0))
 · replace hp := gneg hp (of_decide_eq_false hb1); refine rM (.int .i64 x0) rfl rfl ?_; refine rs (gt' rfl rfl) rfl ?_; refine rs (v := .bool (decide (x0 > 1048576))) (pkf (v := .bool (decide (x0 > 1048576))) rfl rfl) rfl ?_; refine rM (.bool (decide (x0 > 1048576))) rfl rfl ?_; cases hb2 : (decide (x0 > 1048576))
   · replace hp := gneg hp (of_decide_eq_false hb2); refine rM (.int .i64 x1) rfl rfl ?_; refine rs (lt' rfl rfl) rfl ?_; refine rs (v := .bool (decide (x1 < 0))) (pkf (v := .bool (decide (x1 < 0))) rfl rfl) rfl ?_; refine rn (qn ?_); cases hb3 : (decide (x1 < 0))
     · replace hp := gneg hp (of_decide_eq_false hb3); refine Wcf rfl (Wskip (qn (Wseq (Wreg ?_)))); refine rM (.int .i64 x0) rfl rfl ?_; refine rM (.int .i64 x1) rfl rfl ?_; refine rs (cvi rfl Tryz.underlying3 Tryz.underlying138) rfl ?_; refine rs (v := .int .u64 (min (IntKind.u64.wrap x1) 14)) (bmn rfl rfl Tryz.underlying138) rfl ?_; replace hp := chk_some hp; obtain ⟨hg4, hp⟩ := hp; refine rs (shr_ rfl rfl hg4) rfl ?_; refine rs (mlw rfl rfl) rfl ?_; refine rs (and_ rfl rfl) rfl ?_; replace hp := bind_some hp; obtain ⟨e5, he5, hp⟩ := hp; injection he5 with he5; refine rs (v := .int .i64 e5) (av (v := .int .i64 e5) (by rw [← he5]; rfl)) rfl ?_; refine rn (qn (Wret ?_)); injection hp with hp; subst hp; refine f1 (v := .int .i64 e5) Tryz.results117 Tryz.ntmps117 rfl ?_; exact ⟨_, rfl, k _ hc⟩
     · replace hp := gpos hp (of_decide_eq_true hb3); refine Wct rfl (Wseq (Wreg ?_)); refine rA (.int .i64 0) rfl rfl ?_; refine rn (qn (Wret (qr ?_))); injection hp with hp; subst hp; refine f1 (v := .int .i64 0) Tryz.results117 Tryz.ntmps117 rfl ?_; exact ⟨_, rfl, k _ hc⟩
   · replace hp := gpos hp (of_decide_eq_true hb2); (iterate 2 refine r0 rfl ?_); refine rs (v := .bool true) (pkt (v := .bool true) rfl rfl) rfl ?_; refine rn (qn (Wct rfl (Wseq (Wreg ?_)))); refine rA (.int .i64 0) rfl rfl ?_; refine rn (qn (Wret (qr ?_))); injection hp with hp; subst hp; refine f1 (v := .int .i64 0) Tryz.results117 Tryz.ntmps117 rfl ?_; exact ⟨_, rfl, k _ hc⟩
 · replace hp := gpos hp (of_decide_eq_true hb1); (iterate 2 refine r0 rfl ?_); refine rs (v := .bool true) (pkt (v := .bool true) rfl rfl) rfl ?_; refine rM (.bool true) rfl rfl ?_; (iterate 2 refine r0 rfl ?_); refine rs (v := .bool true) (pkt (v := .bool true) rfl rfl) rfl ?_; refine rn (qn (Wct rfl (Wseq (Wreg ?_)))); refine rA (.int .i64 0) rfl rfl ?_; refine rn (qn (Wret (qr ?_))); injection hp with hp; subst hp; refine f1 (v := .int .i64 0) Tryz.results117 Tryz.ntmps117 rfl ?_; exact ⟨_, rfl, k _ hc⟩

def round_Shift.J1 (e2 : Int) (j7 : Bool) : Option (Int) :=
  if j7 = true then
    some (IntKind.i64.wrap (e2 + 1))
  else
    some e2

def round_Shift (x0 : Int) (x1 : Int) : Option (Int) :=
  chk (0 ≤ (min (max x1 0) 62)) <|
  (some (ishr .i64 x0 (min (max x1 0) 62))).bind fun e2 =>
  chk (0 ≤ (min (max x1 0) 62)) <|
  (some (iand .u64 (IntKind.u64.wrap x0) (IntKind.u64.wrap ((ishl .u64 1 (min (max x1 0) 62)) - 1)))).bind fun e4 =>
  chk (0 ≤ (min (max x1 0) 62)) <|
  (some (ishr .u64 (ishl .u64 1 (min (max x1 0) 62)) 1)).bind fun e6 =>
  if e4 > e6 then
    round_Shift.J1 e2 true
  else
    if e4 = e6 then
      if (min (max x1 0) 62) > 0 then
        round_Shift.J1 e2 (decide ((iand .i64 e2 1) = 1))
      else
        round_Shift.J1 e2 false
    else
      round_Shift.J1 e2 false

set_option maxHeartbeats 8000000 in
theorem round_Shift_any {x0 : Int} {x1 : Int} {Fr : List HP} {w : World} {r : Int} {K : Value → World → Prop}  (hc : Ctx w (Fr)) (hp : round_Shift x0 x1 = some r)
    (k : ∀ w', Ctx w' (Fr) → K (.int .i64 r) w') : Calls Tryz.prog 90 #[.int .i64 x0, .int .i64 x1] w (Ret K) := by
 unfold round_Shift at hp; refine Center (args := [.int .i64 x0, .int .i64 x1]) (l := [(0, .int .i64 x0), (1, .int .i64 x1)]) Tryz.func90 Tryz.ntmps90 rfl rfl rfl ?_; refine Wseq (Wreg ?_); refine rA (.int .i64 0) rfl rfl ?_; refine rn (qn (Wseq (Wreg ?_))); refine rM (.int .i64 x1) rfl rfl ?_; refine rs (v := .int .i64 (max x1 0)) (bmx rfl rfl Tryz.underlying3) rfl ?_; refine rs (v := .int .i64 (min (max x1 0) 62)) (bmn rfl rfl Tryz.underlying3) rfl ?_; refine rA (.int .i64 (min (max x1 0) 62)) rfl rfl ?_; refine rn (qn (Wseq (Wreg ?_))); refine rM (.int .i64 x0) rfl rfl ?_; refine rM (.int .i64 (min (max x1 0) 62)) rfl rfl ?_; replace hp := chk_some hp; obtain ⟨hg1, hp⟩ := hp; refine rs (shr_ rfl rfl hg1) rfl ?_; replace hp := bind_some hp; obtain ⟨e2, he2, hp⟩ := hp; injection he2 with he2; refine rs (v := .int .i64 e2) (av (v := .int .i64 e2) (by rw [← he2]; rfl)) rfl ?_; refine rn (qn (Wseq (Wreg ?_))); refine rM (.int .i64 x0) rfl rfl ?_; refine rs (cvi rfl Tryz.underlying2 Tryz.underlying23) rfl ?_; refine rM (.int .i64 (min (max x1 0) 62)) rfl rfl ?_; replace hp := chk_some hp; obtain ⟨hg3, hp⟩ := hp; refine rs (shl_ rfl rfl hg3) rfl ?_; refine rs (sbw rfl rfl) rfl ?_; refine rs (and_ rfl rfl) rfl ?_; replace hp := bind_some hp; obtain ⟨e4, he4, hp⟩ := hp; injection he4 with he4; refine rs (v := .int .u64 e4) (av (v := .int .u64 e4) (by rw [← he4]; rfl)) rfl ?_; refine rn (qn (Wseq (Wreg ?_))); refine rM (.int .i64 (min (max x1 0) 62)) rfl rfl ?_; replace hp := chk_some hp; obtain ⟨hg5, hp⟩ := hp; refine rs (shl_ rfl rfl hg5) rfl ?_; refine rs (shr_ rfl rfl (by decide)) rfl ?_; replace hp := bind_some hp; obtain ⟨e6, he6, hp⟩ := hp; injection he6 with he6; refine rs (v := .int .u64 e6) (av (v := .int .u64 e6) (by rw [← he6]; rfl)) rfl ?_; refine rn (qn (Wseq ?_)); refine Wseqm [23, 24, 25, 26, 27, 28, 29, 30, 31, 32, 33, 34, 35, 36, 37, 38, 39] [39] (fun vs w' => ∃ j7 : Bool, vs = [.bool j7] ∧ round_Shift.J1 e2 j7 = some r ∧ Ctx w' (Fr)) ?_ ?_
 · refine Wreg ?_; refine rM (.int .u64 e4) rfl rfl ?_; refine rM (.int .u64 e6) rfl rfl ?_; refine rs (gt' rfl rfl) rfl ?_; refine rM (.bool (decide (e4 > e6))) rfl rfl ?_; cases hb8 : (decide (e4 > e6))
   · replace hp := gneg hp (of_decide_eq_false hb8); refine rM (.int .u64 e4) rfl rfl ?_; refine rM (.int .u64 e6) rfl rfl ?_; refine rs (eqd rfl rfl) rfl ?_; refine rM (.bool (decide (e4 = e6))) rfl rfl ?_; cases hb9 : (decide (e4 = e6))
     · replace hp := gneg hp (of_decide_eq_false hb9); (iterate 2 refine r0 rfl ?_); refine rs (v := .bool false) (pkf (v := .bool false) rfl rfl) rfl ?_; refine rM (.bool false) rfl rfl ?_; (iterate 3 refine r0 rfl ?_); refine rs (v := .bool false) (pkf (v := .bool false) rfl rfl) rfl ?_; refine rs (v := .bool false) (pkf (v := .bool false) rfl rfl) rfl ?_; refine rn (qn ?_); exact ⟨⟨false, rfl, hp, hc⟩, (kl rfl kb)⟩
     · replace hp := gpos hp (of_decide_eq_true hb9); refine rM (.int .i64 (min (max x1 0) 62)) rfl rfl ?_; refine rs (gt' rfl rfl) rfl ?_; refine rs (v := .bool (decide ((min (max x1 0) 62) > 0))) (pkt (v := .bool (decide ((min (max x1 0) 62) > 0))) rfl rfl) rfl ?_; refine rM (.bool (decide ((min (max x1 0) 62) > 0))) rfl rfl ?_; cases hb10 : (decide ((min (max x1 0) 62) > 0))
       · replace hp := gneg hp (of_decide_eq_false hb10); (iterate 3 refine r0 rfl ?_); refine rs (v := .bool false) (pkf (v := .bool false) rfl rfl) rfl ?_; refine rs (v := .bool false) (pkf (v := .bool false) rfl rfl) rfl ?_; refine rn (qn ?_); exact ⟨⟨false, rfl, hp, hc⟩, (kl rfl kb)⟩
       · replace hp := gpos hp (of_decide_eq_true hb10); refine rM (.int .i64 e2) rfl rfl ?_; refine rs (and_ rfl rfl) rfl ?_; refine rs (eqd rfl rfl) rfl ?_; refine rs (v := .bool (decide ((iand .i64 e2 1) = 1))) (pkt (v := .bool (decide ((iand .i64 e2 1) = 1))) rfl rfl) rfl ?_; refine rs (v := .bool (decide ((iand .i64 e2 1) = 1))) (pkf (v := .bool (decide ((iand .i64 e2 1) = 1))) rfl rfl) rfl ?_; refine rn (qn ?_); exact ⟨⟨decide ((iand .i64 e2 1) = 1), rfl, hp, hc⟩, (kl rfl kb)⟩
   · replace hp := gpos hp (of_decide_eq_true hb8); (iterate 12 refine r0 rfl ?_); refine rs (v := .bool true) (pkt (v := .bool true) rfl rfl) rfl ?_; refine rn (qn ?_); exact ⟨⟨true, rfl, hp, hc⟩, (kl rfl kb)⟩
 · clear hp hc; intro vs u w11 hJ; obtain ⟨j7, rfl, hp, hc⟩ := hJ; unfold round_Shift.J1 at hp; cases hb12 : j7
   · replace hp := gneg hp (by rw [hb12]; exact Bool.false_ne_true); subst hb12; refine Wcf rfl (Wskip (qn (Wseq (Wreg ?_)))); refine rM (.int .i64 e2) rfl rfl ?_; refine rA (.int .i64 e2) rfl rfl ?_; refine rn (qn (Wret ?_)); injection hp with hp; subst hp; refine f1 (v := .int .i64 e2) Tryz.results90 Tryz.ntmps90 rfl ?_; exact ⟨_, rfl, k _ hc⟩
   · replace hp := gpos hp hb12; subst hb12; refine Wct rfl (Wreg ?_); refine rM (.int .i64 e2) rfl rfl ?_; refine rs (adw rfl rfl) rfl ?_; refine rA (.int .i64 (IntKind.i64.wrap (e2 + 1))) rfl rfl ?_; refine rn (qn (Wseq (Wreg ?_))); refine rM (.int .i64 (IntKind.i64.wrap (e2 + 1))) rfl rfl ?_; refine rA (.int .i64 (IntKind.i64.wrap (e2 + 1))) rfl rfl ?_; refine rn (qn (Wret ?_)); injection hp with hp; subst hp; refine f1 (v := .int .i64 (IntKind.i64.wrap (e2 + 1))) Tryz.results90 Tryz.ntmps90 rfl ?_; exact ⟨_, rfl, k _ hc⟩

def rope_Sin.J1 (e1 : Int) (j3 : Int) : Option (Int) :=
  (rope_step (ishr .i64 j3 9)).bind fun r7 =>
  (rope_step (IntKind.i64.wrap ((ishr .i64 j3 9) + 1))).bind fun r9 =>
  (rope_step (ishr .i64 j3 9)).bind fun r11 =>
  (round_Shift (IntKind.i64.wrap ((IntKind.i64.wrap (r9 - r11)) * (iand .i64 j3 511))) 9).bind fun r13 =>
  if e1 ≥ 2 then
    (some (IntKind.i64.wrap (0 - (IntKind.i64.wrap (r7 + r13))))).bind fun e17 =>
    some (IntKind.i32.wrap e17)
  else
    (some (IntKind.i32.wrap (IntKind.i64.wrap (r7 + r13)))).bind fun e16 =>
    some e16

def rope_Sin (x0 : Int) : Option (Int) :=
  (some (IntKind.i64.wrap (Int.tdiv (iand .i64 x0 65535) 16384))).bind fun e1 =>
  (some (Int.tmod (iand .i64 x0 65535) 16384)).bind fun e2 =>
  if (iand .i64 e1 1) = 1 then
    (some (IntKind.i64.wrap (16384 - e2))).bind fun e5 =>
    rope_Sin.J1 e1 e5
  else
    rope_Sin.J1 e1 e2

set_option maxHeartbeats 8000000 in
theorem rope_Sin_any {x0 : Int} {Fr : List HP} {w : World} {r : Int} {K : Value → World → Prop}  (hc : Ctx w (Fr)) (hp : rope_Sin x0 = some r)
    (k : ∀ w', Ctx w' (Fr) → K (.int .i32 r) w') : Calls Tryz.prog 120 #[.int .i64 x0] w (Ret K) := by
 unfold rope_Sin at hp; refine Center (args := [.int .i64 x0]) (l := [(0, .int .i64 x0)]) Tryz.func120 Tryz.ntmps120 rfl rfl rfl ?_; refine Wseq (Wreg ?_); refine rA (.int .i32 0) rfl rfl ?_; refine rn (qn (Wseq (Wreg ?_))); refine rM (.int .i64 x0) rfl rfl ?_; refine rs (and_ rfl rfl) rfl ?_; refine rA (.int .i64 (iand .i64 x0 65535)) rfl rfl ?_; refine rn (qn (Wseq (Wreg ?_))); refine rM (.int .i64 (iand .i64 x0 65535)) rfl rfl ?_; refine rs (quw rfl rfl (by decide)) rfl ?_; refine rM (.int .i64 (iand .i64 x0 65535)) rfl rfl ?_; refine rs (rm rfl rfl (by decide)) rfl ?_; replace hp := bind_some hp; obtain ⟨e1, he1, hp⟩ := hp; injection he1 with he1; refine rs (v := .int .i64 e1) (av (v := .int .i64 e1) (by rw [← he1]; rfl)) rfl ?_; replace hp := bind_some hp; obtain ⟨e2, he2, hp⟩ := hp; injection he2 with he2; refine rs (v := .int .i64 e2) (av (v := .int .i64 e2) (by rw [← he2]; rfl)) rfl ?_; refine rn (qn ?_); refine Wseqm [4, 14, 15, 16, 17, 18] [4] (fun vs w' => ∃ j3 : Int, vs = [.int .i64 j3] ∧ rope_Sin.J1 e1 j3 = some r ∧ Ctx w' (Fr)) ?_ ?_
 · refine Wseq (Wreg ?_); refine rM (.int .i64 e1) rfl rfl ?_; refine rs (and_ rfl rfl) rfl ?_; refine rs (eqd rfl rfl) rfl ?_; refine rn (qn ?_); cases hb4 : (decide ((iand .i64 e1 1) = 1))
   · replace hp := gneg hp (of_decide_eq_false hb4); refine Wcf rfl (Wskip (qn ?_)); exact ⟨⟨e2, rfl, hp, hc⟩, (kl rfl kb)⟩
   · replace hp := gpos hp (of_decide_eq_true hb4); refine Wct rfl (Wreg ?_); refine rM (.int .i64 e2) rfl rfl ?_; refine rs (sbw rfl rfl) rfl ?_; replace hp := bind_some hp; obtain ⟨e5, he5, hp⟩ := hp; injection he5 with he5; refine rs (v := .int .i64 e5) (av (v := .int .i64 e5) (by rw [← he5]; rfl)) rfl ?_; refine rn (qn ?_); exact ⟨⟨e5, rfl, hp, hc⟩, (kl rfl kb)⟩
 · clear hp hc; intro vs u w6 hJ; obtain ⟨j3, rfl, hp, hc⟩ := hJ; unfold rope_Sin.J1 at hp; refine Wseq (Wreg ?_); refine rM (.int .i64 j3) rfl rfl ?_; refine rs (shr_ rfl rfl (by decide)) rfl ?_; refine rM (.int .i64 j3) rfl rfl ?_; refine rs (and_ rfl rfl) rfl ?_; refine rA (.int .i64 (ishr .i64 j3 9)) rfl rfl ?_; refine rA (.int .i64 (iand .i64 j3 511)) rfl rfl ?_; refine rn (qn (Wseq (Wreg ?_))); refine rM (.int .i64 (ishr .i64 j3 9)) rfl rfl ?_; replace hp := bind_some hp; obtain ⟨r7, hr7, hp⟩ := hp; refine rc (cl Tryz.call128 rfl rfl) rfl ?_; refine rope_step_any hc hr7 ?_; clear hc; intro w8 hc; refine rM (.int .i64 (ishr .i64 j3 9)) rfl rfl ?_; refine rs (adw rfl rfl) rfl ?_; replace hp := bind_some hp; obtain ⟨r9, hr9, hp⟩ := hp; refine rc (cl Tryz.call128 rfl rfl) rfl ?_; refine rope_step_any hc hr9 ?_; clear hc; intro w10 hc; refine rM (.int .i64 (ishr .i64 j3 9)) rfl rfl ?_; replace hp := bind_some hp; obtain ⟨r11, hr11, hp⟩ := hp; refine rc (cl Tryz.call128 rfl rfl) rfl ?_; refine rope_step_any hc hr11 ?_; clear hc; intro w12 hc; refine rs (sbw rfl rfl) rfl ?_; refine rM (.int .i64 (iand .i64 j3 511)) rfl rfl ?_; refine rs (mlw rfl rfl) rfl ?_; replace hp := bind_some hp; obtain ⟨r13, hr13, hp⟩ := hp; refine rc (cl Tryz.call90 rfl rfl) rfl ?_; refine round_Shift_any hc hr13 ?_; clear hc; intro w14 hc; refine rs (adw rfl rfl) rfl ?_; refine rA (.int .i64 (IntKind.i64.wrap (r7 + r13))) rfl rfl ?_; refine rn (qn (Wseq (Wseq (Wreg ?_)))); refine rM (.int .i64 e1) rfl rfl ?_; refine rs (ge' rfl rfl) rfl ?_; refine rn (qn ?_); cases hb15 : (decide (e1 ≥ 2))
   · replace hp := gneg hp (of_decide_eq_false hb15); refine Wcf rfl (Wskip (qn (Wseq (Wreg ?_)))); refine rM (.int .i64 (IntKind.i64.wrap (r7 + r13))) rfl rfl ?_; refine rs (cvi rfl Tryz.underlying2 Tryz.underlying21) rfl ?_; replace hp := bind_some hp; obtain ⟨e16, he16, hp⟩ := hp; injection he16 with he16; refine rs (v := .int .i32 e16) (av (v := .int .i32 e16) (by rw [← he16]; rfl)) rfl ?_; refine rn (qn (Wret ?_)); injection hp with hp; subst hp; refine f1 (v := .int .i32 e16) Tryz.results120 Tryz.ntmps120 rfl ?_; exact ⟨_, rfl, k _ hc⟩
   · replace hp := gpos hp (of_decide_eq_true hb15); refine Wct rfl (Wreg ?_); refine rM (.int .i64 (IntKind.i64.wrap (r7 + r13))) rfl rfl ?_; refine rs (neg_ rfl) rfl ?_; replace hp := bind_some hp; obtain ⟨e17, he17, hp⟩ := hp; injection he17 with he17; refine rs (v := .int .i64 e17) (av (v := .int .i64 e17) (by rw [← he17]; rfl)) rfl ?_; refine rn (qn (Wseq (Wreg ?_))); refine rM (.int .i64 e17) rfl rfl ?_; refine rs (cvi rfl Tryz.underlying2 Tryz.underlying21) rfl ?_; refine rA (.int .i32 (IntKind.i32.wrap e17)) rfl rfl ?_; refine rn (qn (Wret ?_)); injection hp with hp; subst hp; refine f1 (v := .int .i32 (IntKind.i32.wrap e17)) Tryz.results120 Tryz.ntmps120 rfl ?_; exact ⟨_, rfl, k _ hc⟩

def rope_Cos (x0 : Int) : Option (Int) :=
  (rope_Sin (IntKind.i64.wrap ((iand .i64 x0 65535) + 16384))).bind fun r1 =>
  some r1

set_option maxHeartbeats 8000000 in
theorem rope_Cos_any {x0 : Int} {Fr : List HP} {w : World} {r : Int} {K : Value → World → Prop}  (hc : Ctx w (Fr)) (hp : rope_Cos x0 = some r)
    (k : ∀ w', Ctx w' (Fr) → K (.int .i32 r) w') : Calls Tryz.prog 119 #[.int .i64 x0] w (Ret K) := by
 unfold rope_Cos at hp; refine Center (args := [.int .i64 x0]) (l := [(0, .int .i64 x0)]) Tryz.func119 Tryz.ntmps119 rfl rfl rfl ?_; refine Wseq (Wreg ?_); refine rA (.int .i32 0) rfl rfl ?_; refine rn (qn (Wseq (Wreg ?_))); refine rM (.int .i64 x0) rfl rfl ?_; refine rs (and_ rfl rfl) rfl ?_; refine rs (adw rfl rfl) rfl ?_; replace hp := bind_some hp; obtain ⟨r1, hr1, hp⟩ := hp; refine rc (cl Tryz.call120 rfl rfl) rfl ?_; refine rope_Sin_any hc hr1 ?_; clear hc; intro w2 hc; refine rA (.int .i32 r1) rfl rfl ?_; refine rn (qn (Wret ?_)); injection hp with hp; subst hp; refine f1 (v := .int .i32 r1) Tryz.results119 Tryz.ntmps119 rfl ?_; exact ⟨_, rfl, k _ hc⟩

def round_near_int8 (x0 : Int) (x1 : Int) (x2 : Int) : Option (Int) :=
  (some (IntKind.i8.wrap (min (max x0 x1) x2))).bind fun e1 =>
  some e1

set_option maxHeartbeats 8000000 in
theorem round_near_int8_any {x0 : Int} {x1 : Int} {x2 : Int} {Fr : List HP} {w : World} {r : Int} {K : Value → World → Prop}  (hc : Ctx w (Fr)) (hp : round_near_int8 x0 x1 x2 = some r)
    (k : ∀ w', Ctx w' (Fr) → K (.int .i8 r) w') : Calls Tryz.prog 110 #[.int .i64 x0, .int .i64 x1, .int .i64 x2] w (Ret K) := by
 unfold round_near_int8 at hp; refine Center (args := [.int .i64 x0, .int .i64 x1, .int .i64 x2]) (l := [(0, .int .i64 x0), (1, .int .i64 x1), (2, .int .i64 x2)]) Tryz.func110 Tryz.ntmps110 rfl rfl rfl ?_; refine Wseq (Wreg ?_); refine rA (.int .i8 0) rfl rfl ?_; refine rn (qn (Wseq (Wreg ?_))); refine rM (.int .i64 x0) rfl rfl ?_; refine rM (.int .i64 x1) rfl rfl ?_; refine rs (v := .int .i64 (max x0 x1)) (bmx rfl rfl Tryz.underlying2) rfl ?_; refine rM (.int .i64 x2) rfl rfl ?_; refine rs (v := .int .i64 (min (max x0 x1) x2)) (bmn rfl rfl Tryz.underlying2) rfl ?_; refine rs (cvi rfl Tryz.underlying2 Tryz.underlying45) rfl ?_; replace hp := bind_some hp; obtain ⟨e1, he1, hp⟩ := hp; injection he1 with he1; refine rs (v := .int .i8 e1) (av (v := .int .i8 e1) (by rw [← he1]; rfl)) rfl ?_; refine rn (qn (Wret ?_)); injection hp with hp; subst hp; refine f1 (v := .int .i8 e1) Tryz.results110 Tryz.ntmps110 rfl ?_; exact ⟨_, rfl, k _ hc⟩

def round_Sat8 (x0 : Int) : Option (Int) :=
  (round_near_int8 x0 (-128) 127).bind fun r1 =>
  some r1

set_option maxHeartbeats 8000000 in
theorem round_Sat8_any {x0 : Int} {Fr : List HP} {w : World} {r : Int} {K : Value → World → Prop}  (hc : Ctx w (Fr)) (hp : round_Sat8 x0 = some r)
    (k : ∀ w', Ctx w' (Fr) → K (.int .i8 r) w') : Calls Tryz.prog 89 #[.int .i64 x0] w (Ret K) := by
 unfold round_Sat8 at hp; refine Center (args := [.int .i64 x0]) (l := [(0, .int .i64 x0)]) Tryz.func89 Tryz.ntmps89 rfl rfl rfl ?_; refine Wseq (Wreg ?_); refine rA (.int .i8 0) rfl rfl ?_; refine rn (qn (Wseq (Wreg ?_))); refine rM (.int .i64 x0) rfl rfl ?_; replace hp := bind_some hp; obtain ⟨r1, hr1, hp⟩ := hp; refine rc (cl Tryz.call110 rfl rfl) rfl ?_; refine round_near_int8_any hc hr1 ?_; clear hc; intro w2 hc; refine rA (.int .i8 r1) rfl rfl ?_; refine rn (qn (Wret ?_)); injection hp with hp; subst hp; refine f1 (v := .int .i8 r1) Tryz.results89 Tryz.ntmps89 rfl ?_; exact ⟨_, rfl, k _ hc⟩

def rope_pairOf (x0 : Int) (x1 : Int) (x2 : A2_i32) : Option (Int × Int) :=
  (round_Shift (IntKind.i64.wrap ((IntKind.i64.wrap ((IntKind.i64.wrap x0) * (IntKind.i64.wrap x2.c0))) - (IntKind.i64.wrap ((IntKind.i64.wrap x1) * (IntKind.i64.wrap x2.c1))))) 14).bind fun r5 =>
  (round_Sat8 r5).bind fun r7 =>
  (round_Shift (IntKind.i64.wrap ((IntKind.i64.wrap ((IntKind.i64.wrap x0) * (IntKind.i64.wrap x2.c1))) + (IntKind.i64.wrap ((IntKind.i64.wrap x1) * (IntKind.i64.wrap x2.c0))))) 14).bind fun r9 =>
  (round_Sat8 r9).bind fun r11 =>
  some (r7, r11)

set_option maxHeartbeats 8000000 in
theorem rope_pairOf_any {x0 : Int} {x1 : Int} {x2 : A2_i32} {Fr : List HP} {w : World} {r : Int × Int} {K : Value → World → Prop}  (hc : Ctx w (Fr)) (hp : rope_pairOf x0 x1 x2 = some r)
    (k : ∀ w', Ctx w' (Fr) → K (.tuple #[.int .i8 r.1, .int .i8 r.2]) w') : Calls Tryz.prog 118 #[.int .i8 x0, .int .i8 x1, .agg #[.int .i32 x2.c0, .int .i32 x2.c1]] w (Ret K) := by
 unfold rope_pairOf at hp; refine Center (args := [.int .i8 x0, .int .i8 x1, .agg #[.int .i32 x2.c0, .int .i32 x2.c1]]) (l := [(0, .int .i8 x0), (1, .int .i8 x1), (2, .agg #[.int .i32 x2.c0, .int .i32 x2.c1])]) Tryz.func118 Tryz.ntmps118 rfl rfl rfl ?_; refine Wseq (Wreg ?_); refine rsE (Ctx.boxOp (cs := [.int .i32 x2.c0, .int .i32 x2.c1]) (v := .agg #[.int .i32 x2.c0, .int .i32 x2.c1]) hc rfl rfl) rfl ?_; clear hc; rintro _ w3 ⟨b1, rfl, hc⟩; refine rA (.int .i8 0) rfl rfl ?_; refine rA (.int .i8 0) rfl rfl ?_; refine rn (qn (Wseq ?_)); replace hc := hc.drew; refine Wdrw (fun _ w' => w' = World.drew w3) [0, 1, 0, 4, 0, 16, 48, 0, 128, 384, 3, 1039, 3199, 8191] 0 0 rfl (by kernel_rfl) (fun _ _ => rfl) ?_; generalize hw : World.drew w3 = w4 at *; clear hw; refine dM (.int .i8 x0) rfl rfl rfl ?_; refine dE (cvi rfl Tryz.underlying45 Tryz.underlying2) rfl rfl ?_; refine dM (.int .i8 x1) rfl rfl rfl ?_; refine dE (cvi rfl Tryz.underlying45 Tryz.underlying2) rfl rfl ?_; refine dE (v := .pointer (some ⟨b1, 0, none⟩)) (ixa (i := 0) rfl rfl Tryz.underlying186 Tryz.sizeOf21 (by decide) (by decide) (by decide) (by decide) rfl) rfl rfl ?_; refine dE (ld rfl Tryz.isAgg21 (Ctx.cell hc (k := 0) rfl rfl rfl)) rfl rfl ?_; refine dE (cvi rfl Tryz.underlying21 Tryz.underlying2) rfl rfl ?_; refine dE (v := .pointer (some ⟨b1, 1, none⟩)) (ixa (i := 1) rfl rfl Tryz.underlying186 Tryz.sizeOf21 (by decide) (by decide) (by decide) (by decide) rfl) rfl rfl ?_; refine dE (ld rfl Tryz.isAgg21 (Ctx.cell hc (k := 0) rfl rfl rfl)) rfl rfl ?_; refine dE (cvi rfl Tryz.underlying21 Tryz.underlying2) rfl rfl ?_; refine dA (.int .i64 (IntKind.i64.wrap x0)) rfl rfl rfl ?_; refine dA (.int .i64 (IntKind.i64.wrap x1)) rfl rfl rfl ?_; refine dA (.int .i64 (IntKind.i64.wrap x2.c0)) rfl rfl rfl ?_; refine dA (.int .i64 (IntKind.i64.wrap x2.c1)) rfl rfl rfl ?_; refine dn (qn (Wseq (Wreg ?_))); refine rM (.int .i64 (IntKind.i64.wrap x0)) rfl rfl ?_; refine rM (.int .i64 (IntKind.i64.wrap x2.c0)) rfl rfl ?_; refine rs (mlw rfl rfl) rfl ?_; refine rM (.int .i64 (IntKind.i64.wrap x1)) rfl rfl ?_; refine rM (.int .i64 (IntKind.i64.wrap x2.c1)) rfl rfl ?_; refine rs (mlw rfl rfl) rfl ?_; refine rs (sbw rfl rfl) rfl ?_; replace hp := bind_some hp; obtain ⟨r5, hr5, hp⟩ := hp; refine rc (cl Tryz.call90 rfl rfl) rfl ?_; refine round_Shift_any hc hr5 ?_; clear hc; intro w6 hc; replace hp := bind_some hp; obtain ⟨r7, hr7, hp⟩ := hp; refine rc (cl Tryz.call89 rfl rfl) rfl ?_; refine round_Sat8_any hc hr7 ?_; clear hc; intro w8 hc; refine rM (.int .i64 (IntKind.i64.wrap x0)) rfl rfl ?_; refine rM (.int .i64 (IntKind.i64.wrap x2.c1)) rfl rfl ?_; refine rs (mlw rfl rfl) rfl ?_; refine rM (.int .i64 (IntKind.i64.wrap x1)) rfl rfl ?_; refine rM (.int .i64 (IntKind.i64.wrap x2.c0)) rfl rfl ?_; refine rs (mlw rfl rfl) rfl ?_; refine rs (adw rfl rfl) rfl ?_; replace hp := bind_some hp; obtain ⟨r9, hr9, hp⟩ := hp; refine rc (cl Tryz.call90 rfl rfl) rfl ?_; refine round_Shift_any hc hr9 ?_; clear hc; intro w10 hc; replace hp := bind_some hp; obtain ⟨r11, hr11, hp⟩ := hp; refine rc (cl Tryz.call89 rfl rfl) rfl ?_; refine round_Sat8_any hc hr11 ?_; clear hc; intro w12 hc; refine rA (.int .i8 r7) rfl rfl ?_; refine rA (.int .i8 r11) rfl rfl ?_; refine rn (qn (Wret ?_)); replace hc := Ctx.r0 hc; injection hp with hp; subst hp; refine f2 (v := .int .i8 r7) (u := .int .i8 r11) Tryz.results118 Tryz.ntmps118 rfl rfl ?_; exact ⟨_, rfl, k _ hc⟩

theorem bd_186_0_1 {ρ : Operand → Value} {w : World} {dst : Option Nat} {ty : TypeId} {pos : String} {after : Array Edge} {g : Option (Nat × Bool)} {x0 x1 : Operand} {k0 : IntKind} {a0 : Int} {k1 : IntKind} {a1 : Int} (h0 : ρ x0 = (.int k0 a0)) (h1 : ρ x1 = (.int k1 a1)) :
    (execOp ρ ⟨dst, .build 186 #[(0, x0), (1, x1)], ty, pos, after, g⟩).run Tryz.prog w = .ok (.value (.agg #[(.int k0 a0), (.int k1 a1)])) w := by
  simp [execOp, Instr.build, Instr.fill, Tryz.zeroValue186, Tryz.runUnderlying186, Tryz.sizeOf21, h0, h1, Value.cells]

def rope_Turn.L1 (x0 : Int) (x1 : (List Int)) : Nat → (List Int) → Int → Option ((List Int) × Int)
  | 0, _, _ => none
  | m1 + 1, j9, j13 =>
    if j13 < ((x1.length : Nat) : Int) then
      (rope_Angle x0 (IntKind.i64.wrap (Int.tdiv j13 2))).bind fun r16 =>
      (idx x1 j13).bind fun y19 =>
      (idx x1 (IntKind.i64.wrap (j13 + 1))).bind fun y28 =>
      (rope_Cos r16).bind fun r37 =>
      (rope_Sin r16).bind fun r39 =>
      (rope_pairOf y19 y28 (⟨r37, r39⟩ : A2_i32)).bind fun r41 =>
      (idx j9 j13).bind fun y43 =>
      (idx (j9.set (j13).toNat r41.1) (IntKind.i64.wrap (j13 + 1))).bind fun y50 =>
      (rope_Turn.L1 x0 x1 m1) ((j9.set (j13).toNat r41.1).set ((IntKind.i64.wrap (j13 + 1))).toNat r41.2) (IntKind.i64.wrap (j13 + 2))
    else
      some (j9, 0)

def rope_Turn (N : Nat) (x0 : Int) (x1 : (List Int)) : Option ((List Int) × Int) :=
  if (Int.tmod ((x1.length : Nat) : Int) 2) ≠ 0 then
    some ([], 30)
  else
    if x0 < 0 then
      some ([], 2)
    else
      if x0 > 1048576 then
        some ([], 2)
      else
        chk (0 ≤ ((x1.length : Nat) : Int) ∧ ((x1.length : Nat) : Int) ≤ 4294967296) <|
        rope_Turn.L1 x0 x1 N (List.replicate (((x1.length : Nat) : Int)).toNat 0) 0

set_option maxHeartbeats 8000000 in
theorem rope_Turn_any {N : Nat} {x0 : Int} {x1 : (List Int)} {ax1 : Option Addr} {nx1 : Nat} {qx1 : Nat} {P1 : HP} {Fr : List HP} {w : World} {r : (List Int) × Int} {K : Value → World → Prop} (hrd1 : Reads P1 (pInt .i8) (.slice ax1 nx1 qx1) x1) (hc : Ctx w (P1 :: Fr)) (hp : rope_Turn N x0 x1 = some r)
    (k : ∀ (a57 : Option Addr) (n58 : Nat) (q59 : Nat) w', Ctx w' (Own (pInt .i8) 45 (.slice a57 n58 q59) r.1 :: P1 :: Fr) → K (.tuple #[.slice a57 n58 q59, .int .i64 r.2]) w') : Calls Tryz.prog 103 #[.int .i64 x0, .slice ax1 nx1 qx1] w (Ret K) := by
 unfold rope_Turn at hp; refine Center (args := [.int .i64 x0, .slice ax1 nx1 qx1]) (l := [(0, .int .i64 x0), (1, .slice ax1 nx1 qx1)]) Tryz.func103 Tryz.ntmps103 rfl rfl rfl ?_; obtain ⟨hn1, _⟩ := Ctx.rdLen hc (k := 0) rfl rfl hrd1; subst hn1; refine Wseq (Wreg ?_); refine rA (.slice none 0 0) rfl rfl ?_; refine rA (.int .i64 0) rfl rfl ?_; refine rn (qn (Wseq (Wblk (Wseq (Wreg ?_))))); refine rM (.slice ax1 x1.length qx1) rfl rfl ?_; refine rs (ln rfl Tryz.underlying24) rfl ?_; refine rs (rm rfl rfl (by decide)) rfl ?_; refine rs (ned rfl rfl) rfl ?_; refine rA (.bool (decide ((Int.tmod ((x1.length : Nat) : Int) 2) ≠ 0))) rfl rfl ?_; refine rn (qn ?_); cases hb1 : (decide ((Int.tmod ((x1.length : Nat) : Int) 2) ≠ 0))
 · replace hp := gneg hp (of_decide_eq_false hb1); refine Wcf rfl (Wseq (Wreg ?_)); refine rM (.int .i64 x0) rfl rfl ?_; refine rs (lt' rfl rfl) rfl ?_; refine rM (.bool (decide (x0 < 0))) rfl rfl ?_; cases hb2 : (decide (x0 < 0))
   · replace hp := gneg hp (of_decide_eq_false hb2); refine rM (.int .i64 x0) rfl rfl ?_; refine rs (gt' rfl rfl) rfl ?_; refine rs (v := .bool (decide (x0 > 1048576))) (pkf (v := .bool (decide (x0 > 1048576))) rfl rfl) rfl ?_; refine rA (.bool (decide (x0 > 1048576))) rfl rfl ?_; refine rn (qn ?_); cases hb3 : (decide (x0 > 1048576))
     · replace hp := gneg hp (of_decide_eq_false hb3); refine Wcf rfl (Wskip (bn (qn (Wseq (Wreg ?_))))); refine rM (.slice ax1 x1.length qx1) rfl rfl ?_; refine rs (ln rfl Tryz.underlying24) rfl ?_; replace hp := chk_some hp; obtain ⟨hg4, hp⟩ := hp; have hm6 : ((((x1.length : Nat) : Int)).toNat : Int) = ((x1.length : Nat) : Int) := Int.toNat_of_nonneg hg4.1; refine rsE (Ctx.make (n := (((x1.length : Nat) : Int)).toNat) (E := (pInt .i8)) (x0 := 0) hc (by rw [hm6]; rfl) (by rw [hm6]; rfl) Tryz.underlying24 (i := Tryz.t45) rfl rfl rfl rfl rfl rfl (fun _ _ => rfl) (by omega)) rfl ?_; clear hc; rintro _ w8 ⟨a5, rfl, hc⟩; refine rA (.slice a5 ((((x1.length : Nat) : Int)).toNat) ((((x1.length : Nat) : Int)).toNat)) rfl rfl ?_; refine rn (qn (Wseq (Wseq (Wreg ?_)))); refine rA (.int .i64 0) rfl rfl ?_; refine rn (qn (Wblk ?_)); refine Wloop (7 :: 8 :: 24 :: 25 :: 26 :: 27 :: 28 :: 29 :: 30 :: 31 :: 32 :: 33 :: 34 :: 35 :: 36 :: 37 :: 38 :: 39 :: 40 :: 41 :: 42 :: 43 :: 44 :: 45 :: 46 :: 47 :: 48 :: 49 :: 50 :: 51 :: 52 :: 53 :: 54 :: 55 :: 56 :: 57 :: 58 :: []) [7] (fun m vs w' => ∃ j9 : (List Int), ∃ j13 : Int, vs = [.int .i64 j13] ∧ rope_Turn.L1 x0 x1 m j9 j13 = some r ∧ Ctx w' (Own (pInt .i8) 45 (.slice a5 ((((x1.length : Nat) : Int)).toNat) ((((x1.length : Nat) : Int)).toNat)) j9 :: P1 :: Fr)) N ?_ ?_
       · exact ⟨(List.replicate (((x1.length : Nat) : Int)).toNat 0), 0, rfl, hp, hc⟩
       · clear hp hc; intro m vs u w14 hJ; obtain ⟨j9, j13, rfl, hp, hc⟩ := hJ; rcases m with _ | m1
         · cases (show none = some r from hp)
         rw [rope_Turn.L1] at hp; refine Wseq (Wseq (Wreg ?_)); refine rM (.int .i64 j13) rfl rfl ?_; refine rM (.slice ax1 x1.length qx1) rfl rfl ?_; refine rs (ln rfl Tryz.underlying24) rfl ?_; refine rs (lt' rfl rfl) rfl ?_; refine rn (qn ?_); cases hb15 : (decide (j13 < ((x1.length : Nat) : Int)))
         · replace hp := gneg hp (of_decide_eq_false hb15); refine Wcf rfl (Wexit (qx (qx (be (qn (Wseq (Wreg ?_))))))); refine rM (.slice a5 ((((x1.length : Nat) : Int)).toNat) ((((x1.length : Nat) : Int)).toNat)) rfl rfl ?_; refine rA (.slice a5 ((((x1.length : Nat) : Int)).toNat) ((((x1.length : Nat) : Int)).toNat)) rfl rfl ?_; refine rA (.int .i64 0) rfl rfl ?_; refine rn (qn (Wret ?_)); injection hp with hp; subst hp; refine f2 (v := .slice a5 ((((x1.length : Nat) : Int)).toNat) ((((x1.length : Nat) : Int)).toNat)) (u := .int .i64 0) Tryz.results103 Tryz.ntmps103 rfl rfl ?_; exact ⟨_, rfl, k _ _ _ _ hc⟩
         · replace hp := gpos hp (of_decide_eq_true hb15); refine Wct rfl (Wskip (qn (Wseq (Wblk (Wseq (Wreg ?_)))))); refine rM (.int .i64 x0) rfl rfl ?_; refine rM (.int .i64 j13) rfl rfl ?_; refine rs (quw rfl rfl (by decide)) rfl ?_; replace hp := bind_some hp; obtain ⟨r16, hr16, hp⟩ := hp; refine rc (cl Tryz.call117 rfl rfl) rfl ?_; refine rope_Angle_any hc hr16 ?_; clear hc; intro w17 hc; refine rA (.int .i64 r16) rfl rfl ?_; refine rn (qn ?_); replace hc := hc.drew; have hF : ∀ j, free [0, 0, 0, 0, 8, 0, 0, 96, 224, 0, 0, 1024, 3584, 7680, 0, 16384, 0, 114688, 245760, 524256, 1048544, 2097120, 2097120, 4194275, 12582883, 33554431, 67108863] 0 j = true → (fun j w' => (j = 8 → PinRow (pInt .i8) ax1 x1 w') ∧ (j = 13 → PinRow (pInt .i8) ax1 x1 w') ∧ True) j (World.drew w17) := fun j hj => ⟨fun _ => PinRow.of hc (k := 1) rfl rfl hrd1 (fun _ _ _ _ _ _ _ h1 h2 => h1.trans h2.symm), fun _ => PinRow.of hc (k := 1) rfl rfl hrd1 (fun _ _ _ _ _ _ _ h1 h2 => h1.trans h2.symm), trivial⟩; refine Wdrw (fun j w' => (j = 8 → PinRow (pInt .i8) ax1 x1 w') ∧ (j = 13 → PinRow (pInt .i8) ax1 x1 w') ∧ True) [0, 0, 0, 0, 8, 0, 0, 96, 224, 0, 0, 1024, 3584, 7680, 0, 16384, 0, 114688, 245760, 524256, 1048544, 2097120, 2097120, 4194275, 12582883, 33554431, 67108863] 0 0 rfl (by kernel_rfl) (hF) ?_; generalize hw : World.drew w17 = w18 at *; clear hw; refine dM (.slice a5 ((((x1.length : Nat) : Int)).toNat) ((((x1.length : Nat) : Int)).toNat)) rfl rfl rfl ?_; refine dM (.int .i64 j13) rfl rfl rfl ?_; refine dM (.slice a5 ((((x1.length : Nat) : Int)).toNat) ((((x1.length : Nat) : Int)).toNat)) rfl rfl rfl ?_; refine dM (.int .i64 j13) rfl rfl rfl ?_; refine ds rfl (fun w' hF => adw rfl rfl) rfl ?_; refine dM (.slice ax1 x1.length qx1) rfl rfl rfl ?_; refine dM (.int .i64 j13) rfl rfl rfl ?_; replace hp := bind_some hp; obtain ⟨y19, hy19, hp⟩ := hp; obtain ⟨b22, o23, u24, hi20, hi21⟩ := Ctx.rdAt hc (k := 1) rfl rfl hrd1 hy19; subst u24; refine ds rfl (fun w' hF => ixx rfl rfl Tryz.underlying24 Tryz.sizeOf45 hi20 hi21 rfl) rfl ?_; replace hc := Ctx.rdCell hc (k := 1) rfl rfl hrd1 hy19; obtain ⟨cs25, hc, hcell26⟩ := hc; replace hc := Ctx.holdC hc; obtain ⟨u27, hc⟩ := hc; subst u27; refine ds rfl (fun w' hF => ld rfl Tryz.isAgg45 ((hF.1 rfl) _ _ _ _ hy19 rfl w' (fun _ => True) _ rfl 0 _ rfl)) rfl ?_; refine dM (.slice (some ⟨b22, o23, none⟩) x1.length qx1) rfl rfl rfl ?_; refine dM (.int .i64 j13) rfl rfl rfl ?_; refine ds rfl (fun w' hF => adw rfl rfl) rfl ?_; replace hp := bind_some hp; obtain ⟨y28, hy28, hp⟩ := hp; obtain ⟨b31, o32, u33, hi29, hi30⟩ := Ctx.rdAt hc (k := 1) rfl rfl hrd1 hy28; clear u33; refine ds rfl (fun w' hF => ixx rfl rfl Tryz.underlying24 Tryz.sizeOf45 hi29 hi30 rfl) rfl ?_; replace hc := Ctx.rdCell hc (k := 1) rfl rfl hrd1 hy28; obtain ⟨cs34, hc, hcell35⟩ := hc; replace hc := Ctx.holdC hc; obtain ⟨u36, hc⟩ := hc; subst u36; refine ds rfl (fun w' hF => ld rfl Tryz.isAgg45 ((hF.2.1 rfl) _ _ _ _ hy28 rfl w' (fun _ => True) _ rfl 0 _ rfl)) rfl ?_; refine dM (.int .i64 r16) rfl rfl rfl ?_; replace hp := bind_some hp; obtain ⟨r37, hr37, hp⟩ := hp; refine dc (cl Tryz.call119 rfl rfl) rfl rfl ?_; refine rope_Cos_any hc hr37 ?_; clear hc; intro w38 hc; refine ⟨fun j hj hb => ⟨fun _ => PinRow.of hc (k := 1) rfl rfl hrd1 (fun _ _ _ _ _ _ _ h1 h2 => h1.trans h2.symm), fun _ => PinRow.of hc (k := 1) rfl rfl hrd1 (fun _ _ _ _ _ _ _ h1 h2 => h1.trans h2.symm), trivial⟩, ?_⟩; refine dM (.int .i64 r16) rfl rfl rfl ?_; replace hp := bind_some hp; obtain ⟨r39, hr39, hp⟩ := hp; refine dc (cl Tryz.call120 rfl rfl) rfl rfl ?_; refine rope_Sin_any hc hr39 ?_; clear hc; intro w40 hc; refine ⟨fun j hj hb => ⟨fun _ => PinRow.of hc (k := 1) rfl rfl hrd1 (fun _ _ _ _ _ _ _ h1 h2 => h1.trans h2.symm), fun _ => PinRow.of hc (k := 1) rfl rfl hrd1 (fun _ _ _ _ _ _ _ h1 h2 => h1.trans h2.symm), trivial⟩, ?_⟩; refine ds (v := .agg #[.int .i32 r37, .int .i32 r39]) rfl (fun w' hF => bd_186_0_1 rfl rfl) rfl ?_; replace hp := bind_some hp; obtain ⟨r41, hr41, hp⟩ := hp; refine dc (cl Tryz.call118 rfl rfl) rfl rfl ?_; refine rope_pairOf_any (x2 := (⟨r37, r39⟩ : A2_i32)) hc hr41 ?_; clear hc; intro w42 hc; refine ⟨fun j hj hb => ⟨fun e => (by subst e; exact absurd hj (by decide)), fun e => (by subst e; exact absurd hj (by decide)), trivial⟩, ?_⟩; refine dM (.tuple #[.int .i8 r41.1, .int .i8 r41.2]) rfl rfl rfl ?_; refine ds rfl (fun w' hF => ext (v := .int .i8 r41.1) rfl rfl) rfl ?_; refine ds rfl (fun w' hF => ext (v := .int .i8 r41.2) rfl rfl) rfl ?_; replace hp := bind_some hp; obtain ⟨y43, hy43, hp⟩ := hp; obtain ⟨b46, o47, u48, hi44, hi45⟩ := Ctx.rdAt hc (k := 0) rfl rfl reads_own hy43; subst u48; refine ds rfl (fun w' hF => ixx rfl rfl Tryz.underlying24 Tryz.sizeOf45 hi44 hi45 rfl) rfl ?_; refine duE (Ctx.ownPutOp hc (k := 0) rfl rfl (z := y43) (z' := r41.1) hy43 0 rfl (u := .int .i8 r41.1) rfl rfl rfl Tryz.sizeOf45 (fun _ _ _ h => by cases h; rfl) rfl) rfl rfl ?_; clear hc; rintro w49 hc; replace hc := Ctx.n0 hc; refine ⟨fun j hj hb => ⟨fun e => (by subst e; exact absurd hj (by decide)), fun e => (by subst e; exact absurd hj (by decide)), trivial⟩, ?_⟩; replace hp := bind_some hp; obtain ⟨y50, hy50, hp⟩ := hp; obtain ⟨b53, o54, u55, hi51, hi52⟩ := Ctx.rdAt hc (k := 0) rfl rfl reads_own hy50; clear u55; refine ds rfl (fun w' hF => ixx rfl rfl Tryz.underlying24 Tryz.sizeOf45 hi51 hi52 rfl) rfl ?_; refine duE (Ctx.ownPutOp hc (k := 0) rfl rfl (z := y50) (z' := r41.2) hy50 0 rfl (u := .int .i8 r41.2) rfl rfl rfl Tryz.sizeOf45 (fun _ _ _ h => by cases h; rfl) rfl) rfl rfl ?_; clear hc; rintro w56 hc; replace hc := Ctx.n0 hc; refine ⟨fun j hj hb => ⟨fun e => (by subst e; exact absurd hj (by decide)), fun e => (by subst e; exact absurd hj (by decide)), trivial⟩, ?_⟩; refine dn (bn (qn (Wreg ?_))); refine rM (.int .i64 j13) rfl rfl ?_; refine rs (adw rfl rfl) rfl ?_; refine rA (.int .i64 (IntKind.i64.wrap (j13 + 2))) rfl rfl ?_; refine rn (qn ?_); exact ⟨m1, Nat.lt_succ_self _, ⟨((j9.set (j13).toNat r41.1).set ((IntKind.i64.wrap (j13 + 1))).toNat r41.2), (IntKind.i64.wrap (j13 + 2)), rfl, hp, hc⟩, (kl rfl k0)⟩
     · replace hp := gpos hp (of_decide_eq_true hb3); refine Wct rfl (Wseq (Wreg ?_)); refine rA (.slice none 0 0) rfl rfl ?_; refine rA (.int .i64 2) rfl rfl ?_; refine rn (qn (Wret (br (qr ?_)))); replace hc := hc.nilOwn (pInt .i8) 45; injection hp with hp; subst hp; refine f2 (v := .slice none 0 0) (u := .int .i64 2) Tryz.results103 Tryz.ntmps103 rfl rfl ?_; exact ⟨_, rfl, k _ _ _ _ hc⟩
   · replace hp := gpos hp (of_decide_eq_true hb2); (iterate 2 refine r0 rfl ?_); refine rs (v := .bool true) (pkt (v := .bool true) rfl rfl) rfl ?_; refine rA (.bool true) rfl rfl ?_; refine rn (qn (Wct rfl (Wseq (Wreg ?_)))); refine rA (.slice none 0 0) rfl rfl ?_; refine rA (.int .i64 2) rfl rfl ?_; refine rn (qn (Wret (br (qr ?_)))); replace hc := hc.nilOwn (pInt .i8) 45; injection hp with hp; subst hp; refine f2 (v := .slice none 0 0) (u := .int .i64 2) Tryz.results103 Tryz.ntmps103 rfl rfl ?_; exact ⟨_, rfl, k _ _ _ _ hc⟩
 · replace hp := gpos hp (of_decide_eq_true hb1); refine Wct rfl (Wseq (Wreg ?_)); refine rA (.slice none 0 0) rfl rfl ?_; refine rA (.int .i64 30) rfl rfl ?_; refine rn (qn (Wret (br (qr ?_)))); replace hc := hc.nilOwn (pInt .i8) 45; injection hp with hp; subst hp; refine f2 (v := .slice none 0 0) (u := .int .i64 30) Tryz.results103 Tryz.ntmps103 rfl rfl ?_; exact ⟨_, rfl, k _ _ _ _ hc⟩

def model_turned.L (N : Nat) (x0 : Int) (wd : Nat) (x2 : List Int) : Nat → List Int → Nat → Option (List Int)
  | 0, _, _ => none
  | m + 1, out, i => if i < x2.length then (rope_Turn N x0 ((x2.take (i + min wd (x2.length - i))).drop i)).bind fun r => chk (out.length + r.1.length ≤ 4294967296) <| model_turned.L N x0 wd x2 m (out ++ r.1) (i + wd) else some out
def model_turned (N : Nat) (x0 : Int) (x1 : Int) (x2 : (List Int)) : Option (List Int) :=
  chk (1 ≤ x1 ∧ x1 < 4611686018427387904 ∧ x2.length < 4611686018427387904) <| model_turned.L N x0 x1.toNat x2 N [] 0
theorem model_turned_any {N : Nat} {x0 : Int} {x1 : Int} {x2 : (List Int)} {ax2 : Option Addr} {nx2 : Nat} {qx2 : Nat} {P2 : HP} {Fr : List HP} {w : World} {rr : (List Int)} {K : Value → World → Prop} (hrd2 : Reads P2 (pInt .i8) (.slice ax2 nx2 qx2) x2) (hc : Ctx w (P2 :: Fr)) (hp : model_turned N x0 x1 x2 = some rr)
    (k : ∀ (a : Option Addr) (n : Nat) (q : Nat) w', Ctx w' (Own (pInt .i8) 45 (.slice a n q) rr :: P2 :: Fr) → K (.slice a n q) w') : Calls Tryz.prog 82 #[.int .i64 x0, .int .i64 x1, .slice ax2 nx2 qx2] w (Ret K) := by
  unfold model_turned at hp
  replace hp := chk_some hp
  obtain ⟨⟨hw1, hw2, hw3⟩, hp⟩ := hp
  refine CenterMC (args := [.int .i64 x0, .int .i64 x1, .slice ax2 nx2 qx2]) (l := [(0, .int .i64 x0), (1, .int .i64 x1), (2, .slice ax2 nx2 qx2)]) Tryz.func82 Tryz.ntmps82 rfl rfl rfl ?_
  obtain ⟨hn1, hq⟩ := Ctx.rdLen hc (k := 0) rfl rfl hrd2
  subst hn1
  obtain ⟨wd, rfl⟩ : ∃ wd : Nat, x1 = (wd : Int) := ⟨x1.toNat, by omega⟩
  rw [Int.toNat_natCast] at hp
  refine WiSeq (Wi_of (Wreg ?_)); refine rsE (Ctx.boxOp (cs := [.int .i64 x0]) (v := .int .i64 x0) hc rfl rfl) rfl ?_; clear hc; rintro _ w1 ⟨b3, rfl, hc⟩; refine rA (.slice none 0 0) rfl rfl ?_; refine rn (qn ?_)
  refine WiSeq (Wi_of (Wreg ?_)); refine rsE (Ctx.allocOp (cs := [.slice none 0 0]) hc Tryz.zeroValue24 rfl) rfl ?_; clear hc; rintro _ w2 ⟨b7, rfl, hc⟩; refine rn (qn ?_)
  refine WiSeq (WiSeq (Wi_of (Wreg ?_))); refine rM (.slice ax2 x2.length qx2) rfl rfl ?_; refine rM (.int .i64 (wd : Int)) rfl rfl ?_
  refine rc (cl Tryz.call102 rfl rfl) rfl ?_; refine chunk_any hw1 hc ?_; clear hc; intro b1 b2 w3 hc; refine rn (qn (WiBlk ?_))
  refine WiRange (caps := [.pointer (some ⟨b1, 0, none⟩), .pointer (some ⟨b2, 0, none⟩)]) rfl Tryz.call116 hc ?_
  clear hc; intro D r rc w4 hst hpd htm hps has hbd hc
  have hD : ∀ (w : World) (out : List Int) (a7 : Option Addr) (q7 : Nat), Ctx w (Ob r (.loop rc) :: P2 :: Own (pInt .i8) 45 (.slice a7 out.length q7) out :: B b7 [.slice a7 out.length q7] 24 :: B b3 [.int .i64 x0] 3 :: B b2 [.int .i64 (wd : Int)] 3 :: B b1 [.slice ax2 x2.length qx2] 24 :: Ob D (.deferred (some [])) :: Fr) →
      Ctx w (Ob r (.loop rc) :: Ob D (.deferred (some [])) :: P2 :: Own (pInt .i8) 45 (.slice a7 out.length q7) out :: B b7 [.slice a7 out.length q7] 24 :: B b3 [.int .i64 x0] 3 :: B b2 [.int .i64 (wd : Int)] 3 :: B b1 [.slice ax2 x2.length qx2] 24 :: Fr) := fun w out a7 q7 h => (h.pull 7 rfl rfl).swap
  refine (chunk_it (a := ax2) (q := qx2) (n := x2.length) (wd := wd) (rc := rc) (by omega) hw3 (by omega) hq (by rw [hps]; rfl) (fun i w => ∃ (out : List Int) (a7 : Option Addr) (q7 : Nat) (m : Nat), model_turned.L N x0 wd x2 m out i = some rr ∧
      Ctx w (Ob r (.loop rc) :: P2 :: Own (pInt .i8) 45 (.slice a7 out.length q7) out :: B b7 [.slice a7 out.length q7] 24 :: B b3 [.int .i64 x0] 3 :: B b2 [.int .i64 (wd : Int)] 3 :: B b1 [.slice ax2 x2.length qx2] 24 :: Ob D (.deferred (some [])) :: Fr)) ?_ ?_ ?_ ?_).mono ?_
  · rintro i w ⟨out, a7, q7, m, h, hc⟩
    exact ⟨out, a7, q7, m, h, hc.drew⟩
  · rintro i w ⟨out, a7, q7, m, h, hc⟩
    exact ⟨Ctx.cell hc (k := 6) rfl rfl (i := 0) rfl, Ctx.cell hc (k := 5) rfl rfl (i := 0) rfl, hc.obGet (k := 0) rfl rfl⟩
  · rintro i w hi ⟨out, a7, q7, m, h, hc⟩
    cases m with
    | zero => cases h
    | succ m =>
      rw [model_turned.L, if_pos hi] at h
      replace h := bind_some h
      obtain ⟨r1, hr1, h⟩ := h
      replace h := chk_some h
      obtain ⟨hg, h⟩ := h
      generalize hv : (Value.slice (if i + min wd (x2.length - i) = i then ax2 else ax2.map (·.add (i * 1))) (i + min wd (x2.length - i) - i) (i + min wd (x2.length - i) - i)) = v
      have hrd : Reads P2 (pInt .i8) v ((x2.take (i + min wd (x2.length - i))).drop i) := hv ▸ reads_sub3 hrd2 (by omega) (by omega) (Nat.le_refl _)
      refine round_1 (l := [(13, .func (.func 116) #[] #[.pointer (some ⟨b1, 0, none⟩), .pointer (some ⟨b2, 0, none⟩)]), (12, .int .i64 (wd : Int)), (11, .slice ax2 x2.length qx2), (7, .pointer (some ⟨b7, 0, none⟩)), (6, .slice none 0 0), (3, .pointer (some ⟨b3, 0, none⟩)), (0, .int .i64 x0), (1, .int .i64 (wd : Int)), (2, .slice ax2 x2.length qx2)]) (b := fun _ => undef) hst hpd htm hps ?_
      rw [has]
      refine WiReg ?_
      refine riS (v := v) (free_round r) (fun _ h => by cases h) (av rfl) rfl ?_
      refine riN ⟨_, hc, ?_⟩
      clear hc; intro w6 hc
      replace hc := hc.swap
      rw [hbd]
      refine WiBlk (WiSeq (WiReg ?_))
      refine riS (free_round r) (fun _ h => by cases h) (ld rfl Tryz.isAgg3 (Ctx.cell hc (k := 4) rfl rfl (i := 0) rfl)) rfl ?_
      refine riS (v := v) (free_round r) (fun _ h => by cases h) (mv rfl) rfl ?_
      subst hv
      refine riC (free_round r) (fun _ h => by cases h) (cl Tryz.call103 rfl rfl) rfl ?_
      refine rope_Turn_any hrd hc hr1 ?_
      clear hc; intro a8 n8 q8 w7 hc
      obtain ⟨u8, _⟩ := Ctx.rdLen hc (k := 0) rfl rfl reads_own
      subst u8
      refine riS (v := .tuple #[.slice a8 r1.1.length q8, .int .i64 r1.2]) (free_round r) (fun _ h => by cases h) (mv rfl) rfl ?_
      refine riS (v := .slice a8 r1.1.length q8) (free_round r) (fun _ h => by cases h) (ext (vs := [.slice a8 r1.1.length q8, .int .i64 r1.2]) rfl rfl) rfl ?_
      refine riS (v := .int .i64 r1.2) (free_round r) (fun _ h => by cases h) (ext (vs := [.slice a8 r1.1.length q8, .int .i64 r1.2]) rfl rfl) rfl ?_
      refine riS (v := .slice a8 r1.1.length q8) (free_round r) (fun _ h => by cases h) (av rfl) rfl ?_
      refine riS (v := .int .i64 r1.2) (free_round r) (fun _ h => by cases h) (av rfl) rfl ?_
      refine riN ?_
      refine (show Wi _ _ _ _ _ _ _ _ _ from WiReg ?_)
      refine riS (free_round r) (fun _ h => by cases h) (ld rfl Tryz.isAgg24 (Ctx.cell hc (k := 4) rfl rfl (i := 0) rfl)) rfl ?_
      refine riS (v := .slice a8 r1.1.length q8) (free_round r) (fun _ h => by cases h) (mv rfl) rfl ?_
      refine riSE (free_round r) (fun _ h => by cases h) (Ctx.append hc (k := 3) rfl rfl (k2 := 0) rfl rfl reads_own Tryz.underlying24 (i := Tryz.t45) rfl rfl rfl rfl rfl rfl rfl rfl hg) rfl ?_
      clear hc; rintro _ w8 ⟨a9, q9, rfl, hc⟩
      replace hc := Ctx.n3 hc
      refine riUE (free_round r) (fun _ h => by cases h) (Ctx.putOp hc (k := 4) rfl rfl (v := .slice a9 (out ++ r1.1).length q9) (cs' := [.slice a9 (out ++ r1.1).length q9]) rfl rfl rfl Tryz.sizeOf24 rfl rfl rfl) rfl ?_
      clear hc; rintro w9 hc
      replace hc := Ctx.n4 hc
      refine riN ⟨_, hc.pull 2 rfl rfl, ?_⟩
      intro w10 hc
      exact ⟨out ++ r1.1, a9, q9, m, h, (hc.pull 1 rfl rfl).drop⟩
  · exact ⟨[], none, 0, N, hp, ((((((((Ctx.nilOwn (pInt .i8) 45 hc).pull 2 rfl rfl).pull 4 rfl rfl).pull 4 rfl rfl).pull 6 rfl rfl).pull 6 rfl rfl).pull 5 rfl rfl).pull 7 rfl rfl).pull 7 rfl rfl⟩
  · rintro e w5 ⟨rfl, i, hi, out, a7, q7, m, h, hc⟩
    refine ⟨⟨_, rfl⟩, _, hD _ _ _ _ hc, ?_⟩
    clear hc; intro w6 hc
    refine bn (qn (WiSeq (WiReg ?_)))
    refine riS free_wide (fun _ h => by cases h) (ld rfl Tryz.isAgg24 (Ctx.cell hc (k := 3) rfl rfl (i := 0) rfl)) rfl ?_
    refine riS (v := .slice a7 out.length q7) free_wide (fun _ h => by cases h) (av rfl) rfl ?_
    refine riN (qn (WiRet ?_))
    refine m1r Tryz.results82 Tryz.ntmps82 rfl (hc.obGet (k := 0) rfl rfl) ?_
    have hc' := (hc.obPut (k := 0) rfl rfl (.deferred none) rfl).drop.swap
    cases m with
    | zero => cases h
    | succ m =>
      rw [model_turned.L, if_neg (by omega)] at h
      injection h with h
      subst h
      exact ⟨_, rfl, k _ _ _ _ ((((hc'.pull 2 rfl rfl).drop.pull 2 rfl rfl).drop.pull 2 rfl rfl).drop.pull 2 rfl rfl).drop⟩

def model_Model_Shape (x0 : (Option S_model_Model)) : Option (S_api_Shape) :=
  (x0).bind fun y4 =>
  some (⟨y4.w.Shape.Layers, y4.w.Shape.Width, y4.w.Shape.Heads, y4.w.Shape.Inner, y4.w.Shape.Vocab, y4.w.Shape.Places⟩ : S_api_Shape)

set_option maxHeartbeats 8000000 in
theorem model_Model_Shape_any {vx0 : Value} {x0 : (Option S_model_Model)} {Fr : List HP} {w : World} {r : S_api_Shape} {K : Value → World → Prop}  (hc : Ctx w (Hold (pPo S_model_Model.pr) [vx0] x0 :: Fr)) (hp : model_Model_Shape x0 = some r)
    (k : ∀ w', Ctx w' (Fr) → K (.agg (S_api_Shape.cz r).toArray) w') : Calls Tryz.prog 13 #[vx0] w (Ret K) := by
 unfold model_Model_Shape at hp; refine Center (args := [vx0]) (l := [(0, vx0)]) Tryz.func13 Tryz.ntmps13 rfl rfl rfl ?_; refine Wseq (Wreg ?_); refine rsE (Ctx.allocOp (cs := [.int .i64 0, .int .i64 0, .int .i64 0, .int .i64 0, .int .i64 0, .int .i64 0]) hc Tryz.zeroValue30 rfl) rfl ?_; clear hc; rintro _ w3 ⟨b1, rfl, hc⟩; refine rn (qn (Wseq (Wreg ?_))); refine rM (vx0) rfl rfl ?_; replace hp := bind_some hp; obtain ⟨y4, hy4, hp⟩ := hp; replace hc := Ctx.p1 hc; replace hc := Ctx.poF hc hy4; obtain ⟨b5, cs6, u7, hc⟩ := hc; subst u7; replace hc := S_model_Model.op hc; obtain ⟨a9, q10, a11, q12, a13, q14, a15, q16, u8, hc⟩ := hc; subst u8; refine rs (nl rfl) rfl ?_; refine rs (v := .pointer (some ⟨b5, 0, none⟩)) (fax 0 rfl Tryz.underlying95 rfl Tryz.sizeOf35 rfl rfl rfl) rfl ?_; refine rs (v := .pointer (some ⟨b5, 0, none⟩)) (fax 0 rfl Tryz.underlying35 rfl Tryz.sizeOf30 rfl rfl rfl) rfl ?_; refine rs (v := .agg #[.int .i64 y4.w.Shape.Layers, .int .i64 y4.w.Shape.Width, .int .i64 y4.w.Shape.Heads, .int .i64 y4.w.Shape.Inner, .int .i64 y4.w.Shape.Vocab, .int .i64 y4.w.Shape.Places]) (ldg rfl Tryz.isAgg30 Tryz.sizeOf30 rfl (Ctx.frCells hc (k := 4) rfl rfl 0 (vs := [.int .i64 y4.w.Shape.Layers, .int .i64 y4.w.Shape.Width, .int .i64 y4.w.Shape.Heads, .int .i64 y4.w.Shape.Inner, .int .i64 y4.w.Shape.Vocab, .int .i64 y4.w.Shape.Places]) rfl)) rfl ?_; refine ruE (Ctx.putAgg hc (k := 6) rfl rfl (vs := [.int .i64 y4.w.Shape.Layers, .int .i64 y4.w.Shape.Width, .int .i64 y4.w.Shape.Heads, .int .i64 y4.w.Shape.Inner, .int .i64 y4.w.Shape.Vocab, .int .i64 y4.w.Shape.Places]) (cs' := [.int .i64 y4.w.Shape.Layers, .int .i64 y4.w.Shape.Width, .int .i64 y4.w.Shape.Heads, .int .i64 y4.w.Shape.Inner, .int .i64 y4.w.Shape.Vocab, .int .i64 y4.w.Shape.Places]) rfl rfl rfl Tryz.sizeOf30 rfl rfl rfl) rfl ?_; clear hc; rintro w17 hc; replace hc := Ctx.n6 hc; refine rn (qn (Wret ?_)); have hres := Ctx.cells hc (k := 6) rfl rfl 0 (vs := [.int .i64 y4.w.Shape.Layers, .int .i64 y4.w.Shape.Width, .int .i64 y4.w.Shape.Heads, .int .i64 y4.w.Shape.Inner, .int .i64 y4.w.Shape.Vocab, .int .i64 y4.w.Shape.Places]) rfl; replace hc := Ctx.r0 (Ctx.r1 (Ctx.r2 (Ctx.r3 (Ctx.r4 (Ctx.r5 (Ctx.r6 hc)))))); injection hp with hp; subst hp; refine f1c (cs := [.int .i64 y4.w.Shape.Layers, .int .i64 y4.w.Shape.Width, .int .i64 y4.w.Shape.Heads, .int .i64 y4.w.Shape.Inner, .int .i64 y4.w.Shape.Vocab, .int .i64 y4.w.Shape.Places]) Tryz.results13 Tryz.ntmps13 rfl Tryz.isAgg30 Tryz.sizeOf30 rfl hres ?_; exact ⟨_, rfl, k _ hc⟩

def slices_IndexFunc_s_int_int.L1 (x0 : (List Int)) (x1 : (Int → Option Bool)) : Nat → Int → Option (Int)
  | 0, _ => none
  | m1 + 1, j1 =>
    if j1 < ((x0.length : Nat) : Int) then
      (idx x0 j1).bind fun y4 =>
      (x1 y4).bind fun r13 =>
      if r13 = true then
        some j1
      else
        (slices_IndexFunc_s_int_int.L1 x0 x1 m1) (IntKind.i64.wrap (j1 + 1))
    else
      some (-1)

def slices_IndexFunc_s_int_int (N : Nat) (x0 : (List Int)) (x1 : (Int → Option Bool)) : Option (Int) :=
  slices_IndexFunc_s_int_int.L1 x0 x1 N 0

set_option maxHeartbeats 8000000 in
theorem slices_IndexFunc_s_int_int_any {N : Nat} {x0 : (List Int)} {ax0 : Option Addr} {nx0 : Nat} {qx0 : Nat} {P0 : HP} {x1 : (Int → Option Bool)} {fid1 : FuncId} {cap1 : List Value} {Fr : List HP} {w : World} {r : Int} {K : Value → World → Prop} (hrd0 : Reads P0 (pInt .i64) (.slice ax0 nx0 qx0) x0) (hcl1 : ∀ a w, (callFunc fid1 a).run Tryz.prog w = .ok (.enter fid1 a) w) (hf1 : ∀ (y0 : Int) (Qs : List HP) (w : World) (r : Bool) (K : Value → World → Prop), Ctx w ((Qs ++ Fr)) → x1 y0 = some r → (∀ w', Ctx w' (Qs ++ Fr) → K (.bool r) w') → Calls Tryz.prog fid1 (([.int .i64 y0] : List Value) ++ cap1).toArray w (Ret K)) (hc : Ctx w (P0 :: Fr)) (hp : slices_IndexFunc_s_int_int N x0 x1 = some r)
    (k : ∀ w', Ctx w' (P0 :: Fr) → K (.int .i64 r) w') : Calls Tryz.prog 100 #[.slice ax0 nx0 qx0, .func (.func fid1) #[] cap1.toArray] w (Ret K) := by
 unfold slices_IndexFunc_s_int_int at hp; refine Center (args := [.slice ax0 nx0 qx0, .func (.func fid1) #[] cap1.toArray]) (l := [(0, .slice ax0 nx0 qx0), (1, .func (.func fid1) #[] cap1.toArray)]) Tryz.func100 Tryz.ntmps100 rfl rfl rfl ?_; obtain ⟨hn0, _⟩ := Ctx.rdLen hc (k := 0) rfl rfl hrd0; subst hn0; refine Wseq (Wreg ?_); refine rA (.int .i64 0) rfl rfl ?_; refine rn (qn (Wseq (Wseq (Wreg ?_)))); refine rM (.slice ax0 x0.length qx0) rfl rfl ?_; refine rs (ln rfl Tryz.underlying27) rfl ?_; refine rM (.int .i64 0) rfl rfl ?_; refine rn (qn (Wblk ?_)); refine Wloop [4, 5, 8, 9, 10, 11, 12, 13, 14, 15, 16, 17, 18] [8] (fun m vs w' => ∃ j1 : Int, vs = [.int .i64 j1] ∧ slices_IndexFunc_s_int_int.L1 x0 x1 m j1 = some r ∧ Ctx w' (P0 :: Fr)) N ?_ ?_
 · exact ⟨0, rfl, hp, hc⟩
 · clear hp hc; intro m vs u w2 hJ; obtain ⟨j1, rfl, hp, hc⟩ := hJ; rcases m with _ | m1
   · cases (show none = some r from hp)
   rw [slices_IndexFunc_s_int_int.L1] at hp; refine Wseq (Wreg ?_); refine rs (lt' rfl rfl) rfl ?_; refine rn (qn (Wseq ?_)); cases hb3 : (decide (j1 < ((x0.length : Nat) : Int)))
   · replace hp := gneg hp (of_decide_eq_false hb3); refine Wcf rfl (Wexit (qx (qx (be (qn (Wseq (Wreg ?_))))))); refine rA (.int .i64 (-1)) rfl rfl ?_; refine rn (qn (Wret ?_)); injection hp with hp; subst hp; refine f1 (v := .int .i64 (-1)) Tryz.results100 Tryz.ntmps100 rfl ?_; exact ⟨_, rfl, k _ hc⟩
   · replace hp := gpos hp (of_decide_eq_true hb3); refine Wct rfl (Wskip (qn (Wseq (Wblk (Wseq (Wreg ?_)))))); refine rM (.int .i64 j1) rfl rfl ?_; refine rA (.int .i64 j1) rfl rfl ?_; refine rn (qn (Wseq (Wreg ?_))); refine rM (.func (.func fid1) #[] cap1.toArray) rfl rfl ?_; refine rM (.slice ax0 x0.length qx0) rfl rfl ?_; refine rM (.int .i64 j1) rfl rfl ?_; replace hp := bind_some hp; obtain ⟨y4, hy4, hp⟩ := hp; obtain ⟨b7, o8, u9, hi5, hi6⟩ := Ctx.rdAt hc (k := 0) rfl rfl hrd0 hy4; subst u9; refine rs (ixx rfl rfl Tryz.underlying27 Tryz.sizeOf3 hi5 hi6 rfl) rfl ?_; replace hc := Ctx.rdCell hc (k := 0) rfl rfl hrd0 hy4; obtain ⟨cs10, hc, hcell11⟩ := hc; replace hc := Ctx.holdC hc; obtain ⟨u12, hc⟩ := hc; subst u12; refine rs (ld rfl Tryz.isAgg3 (hcell11 0 _ rfl)) rfl ?_; replace hp := bind_some hp; obtain ⟨r13, hr13, hp⟩ := hp; refine rc (cv (fi := []) (ca := cap1) (vs := ([.int .i64 y4] : List Value) ++ cap1) hcl1 rfl rfl) rfl ?_; refine hf1 _ [P0] _ _ _ hc hr13 ?_; clear hc; intro w14 hc; replace hc : Ctx w14 (P0 :: Fr) := hc; refine rn (qn ?_); cases hb15 : r13
     · replace hp := gneg hp (by rw [hb15]; exact Bool.false_ne_true); subst hb15; refine Wcf rfl (Wskip (bn (qn (Wreg ?_)))); refine rs (adw rfl rfl) rfl ?_; refine rM (.int .i64 (IntKind.i64.wrap (j1 + 1))) rfl rfl ?_; refine rn (qn ?_); exact ⟨m1, Nat.lt_succ_self _, ⟨(IntKind.i64.wrap (j1 + 1)), rfl, hp, hc⟩, (kl rfl k0)⟩
     · replace hp := gpos hp hb15; subst hb15; refine Wct rfl (Wseq (Wreg ?_)); refine rM (.int .i64 j1) rfl rfl ?_; refine rA (.int .i64 j1) rfl rfl ?_; refine rn (qn (Wret (br (qr (qr (br (qr ?_))))))); injection hp with hp; subst hp; refine f1 (v := .int .i64 j1) Tryz.results100 Tryz.ntmps100 rfl ?_; exact ⟨_, rfl, k _ hc⟩

def slices_ContainsFunc_s_int_int (N : Nat) (x0 : (List Int)) (x1 : (Int → Option Bool)) : Option (Bool) :=
  (slices_IndexFunc_s_int_int N x0 x1).bind fun r2 =>
  some (decide (r2 ≥ 0))

set_option maxHeartbeats 8000000 in
theorem slices_ContainsFunc_s_int_int_any {N : Nat} {x0 : (List Int)} {ax0 : Option Addr} {nx0 : Nat} {qx0 : Nat} {P0 : HP} {x1 : (Int → Option Bool)} {fid1 : FuncId} {cap1 : List Value} {Fr : List HP} {w : World} {r : Bool} {K : Value → World → Prop} (hrd0 : Reads P0 (pInt .i64) (.slice ax0 nx0 qx0) x0) (hcl1 : ∀ a w, (callFunc fid1 a).run Tryz.prog w = .ok (.enter fid1 a) w) (hf1 : ∀ (y0 : Int) (Qs : List HP) (w : World) (r : Bool) (K : Value → World → Prop), Ctx w ((Qs ++ Fr)) → x1 y0 = some r → (∀ w', Ctx w' (Qs ++ Fr) → K (.bool r) w') → Calls Tryz.prog fid1 (([.int .i64 y0] : List Value) ++ cap1).toArray w (Ret K)) (hc : Ctx w (P0 :: Fr)) (hp : slices_ContainsFunc_s_int_int N x0 x1 = some r)
    (k : ∀ w', Ctx w' (P0 :: Fr) → K (.bool r) w') : Calls Tryz.prog 77 #[.slice ax0 nx0 qx0, .func (.func fid1) #[] cap1.toArray] w (Ret K) := by
 unfold slices_ContainsFunc_s_int_int at hp; refine Center (args := [.slice ax0 nx0 qx0, .func (.func fid1) #[] cap1.toArray]) (l := [(0, .slice ax0 nx0 qx0), (1, .func (.func fid1) #[] cap1.toArray)]) Tryz.func77 Tryz.ntmps77 rfl rfl rfl ?_; obtain ⟨hn0, _⟩ := Ctx.rdLen hc (k := 0) rfl rfl hrd0; subst hn0; refine Wseq (Wreg ?_); refine rA (.bool false) rfl rfl ?_; refine rn (qn (Wseq (Wreg ?_))); refine rM (.slice ax0 x0.length qx0) rfl rfl ?_; refine rM (.func (.func fid1) #[] cap1.toArray) rfl rfl ?_; have hf1 : ∀ (y0 : Int) (Qs : List HP) (w : World) (r : Bool) (K : Value → World → Prop), Ctx w ((Qs ++ (Fr))) → x1 y0 = some r → (∀ w', Ctx w' (Qs ++ (Fr)) → K (.bool r) w') → Calls Tryz.prog fid1 (([.int .i64 y0] : List Value) ++ cap1).toArray w (Ret K) := by
   intro z0 Qs w r K hc hp k; refine hf1 z0 (Qs ++ []) w r K (by rw [List.append_assoc]; exact hc) hp (fun w' hc' => k w' (by rw [List.append_assoc] at hc'; exact hc'))
 replace hp := bind_some hp; obtain ⟨r2, hr2, hp⟩ := hp; refine rc (cl Tryz.call100 rfl rfl) rfl ?_; refine slices_IndexFunc_s_int_int_any hrd0 hcl1 hf1 hc hr2 ?_; clear hc; intro w3 hc; refine rs (ge' rfl rfl) rfl ?_; refine rA (.bool (decide (r2 ≥ 0))) rfl rfl ?_; refine rn (qn (Wret ?_)); injection hp with hp; subst hp; refine f1 (v := .bool (decide (r2 ≥ 0))) Tryz.results77 Tryz.ntmps77 rfl ?_; exact ⟨_, rfl, k _ hc⟩

def gen_Check (N : Nat) (x0 : S_api_Shape) (x1 : (List Int)) (x2 : Int) : Option (Int) :=
  if ((x1.length : Nat) : Int) = 0 then
    some 90
  else
    (slices_ContainsFunc_s_int_int N x1 (fun (y6_ : Int) =>
      if y6_ < 0 then
        some true
      else
        some (decide (y6_ ≥ x0.Vocab)))).bind fun r8 =>
    if r8 = true then
      some 2
    else
      if x2 < 1 then
        some 2
      else
        if ((x1.length : Nat) : Int) > x0.Places then
          some 80
        else
          if (IntKind.i64.wrap (x2 - 1)) > (IntKind.i64.wrap (x0.Places - ((x1.length : Nat) : Int))) then
            some 80
          else
            some 0

set_option maxHeartbeats 8000000 in
theorem gen_Check_any {N : Nat} {x0 : S_api_Shape} {x1 : (List Int)} {ax1 : Option Addr} {nx1 : Nat} {qx1 : Nat} {P1 : HP} {x2 : Int} {Fr : List HP} {w : World} {r : Int} {K : Value → World → Prop} (hrd1 : Reads P1 (pInt .i64) (.slice ax1 nx1 qx1) x1) (hc : Ctx w (P1 :: Fr)) (hp : gen_Check N x0 x1 x2 = some r)
    (k : ∀ w', Ctx w' (P1 :: Fr) → K (.int .i64 r) w') : Calls Tryz.prog 49 #[.agg (S_api_Shape.cz x0).toArray, .slice ax1 nx1 qx1, .int .i64 x2] w (Ret K) := by
 unfold gen_Check at hp; refine Center (args := [.agg (S_api_Shape.cz x0).toArray, .slice ax1 nx1 qx1, .int .i64 x2]) (l := [(0, .agg (S_api_Shape.cz x0).toArray), (1, .slice ax1 nx1 qx1), (2, .int .i64 x2)]) Tryz.func49 Tryz.ntmps49 rfl rfl rfl ?_; obtain ⟨hn1, _⟩ := Ctx.rdLen hc (k := 0) rfl rfl hrd1; subst hn1; refine Wseq (Wreg ?_); refine rsE (Ctx.boxOp (cs := (S_api_Shape.cz x0)) (v := .agg (S_api_Shape.cz x0).toArray) hc rfl rfl) rfl ?_; clear hc; rintro _ w3 ⟨b1, rfl, hc⟩; refine rA (.int .i64 0) rfl rfl ?_; refine rn (qn (Wseq (Wreg ?_))); refine rs (v := .func (.func 76) #[] #[.pointer (some ⟨b1, 0, none⟩)]) (mkf rfl rfl) rfl ?_; refine rA (.func (.func 76) #[] #[.pointer (some ⟨b1, 0, none⟩)]) rfl rfl ?_; refine rn (qn (Wseq (Wblk (Wseq (Wreg ?_))))); refine rM (.slice ax1 x1.length qx1) rfl rfl ?_; refine rs (ln rfl Tryz.underlying27) rfl ?_; refine rs (eqd rfl rfl) rfl ?_; refine rA (.bool (decide (((x1.length : Nat) : Int) = 0))) rfl rfl ?_; refine rn (qn ?_); cases hb4 : (decide (((x1.length : Nat) : Int) = 0))
 · replace hp := gneg hp (of_decide_eq_false hb4); refine Wcf rfl (Wseq (Wreg ?_)); refine rM (.slice ax1 x1.length qx1) rfl rfl ?_; refine rM (.func (.func 76) #[] #[.pointer (some ⟨b1, 0, none⟩)]) rfl rfl ?_; replace hc := Ctx.p1 hc; have hf5 : ∀ (y0 : Int) (Qs : List HP) (w : World) (r : Bool) (K : Value → World → Prop), Ctx w ((Qs ++ (B b1 (S_api_Shape.cz x0) 30 :: Fr))) → (fun (y6_ : Int) =>
        if y6_ < 0 then
          some true
        else
          some (decide (y6_ ≥ x0.Vocab))) y0 = some r → (∀ w', Ctx w' (Qs ++ (B b1 (S_api_Shape.cz x0) 30 :: Fr)) → K (.bool r) w') → Calls Tryz.prog 76 (([.int .i64 y0] : List Value) ++ ([.pointer (some ⟨b1, 0, none⟩)] : List Value)).toArray w (Ret K) := by
    intro y6 Qs w r K hc hp k; replace hc : Ctx w (B b1 (S_api_Shape.cz x0) 30 :: (Qs ++ Fr)) := Ctx.front (As := [B b1 (S_api_Shape.cz x0) 30]) (Qs := Qs) hc; refine Center (args := [.int .i64 y6, .pointer (some ⟨b1, 0, none⟩)]) (l := [(0, .int .i64 y6), (1, .pointer (some ⟨b1, 0, none⟩))]) Tryz.func76 Tryz.ntmps76 rfl rfl rfl ?_; refine Wseq (Wreg ?_); refine rA (.bool false) rfl rfl ?_; refine rn (qn (Wseq (Wreg ?_))); refine rM (.int .i64 y6) rfl rfl ?_; refine rs (lt' rfl rfl) rfl ?_; refine rM (.bool (decide (y6 < 0))) rfl rfl ?_; cases hb7 : (decide (y6 < 0))
    · replace hp := gneg hp (of_decide_eq_false hb7); refine rM (.int .i64 y6) rfl rfl ?_; refine rs (v := .pointer (some ⟨b1, 4, none⟩)) (fax 4 rfl Tryz.underlying30 rfl Tryz.sizeOf3 rfl rfl rfl) rfl ?_; refine rs (ld rfl Tryz.isAgg3 (Ctx.cell hc (k := 0) rfl rfl rfl)) rfl ?_; refine rs (ge' rfl rfl) rfl ?_; refine rs (v := .bool (decide (y6 ≥ x0.Vocab))) (pkf (v := .bool (decide (y6 ≥ x0.Vocab))) rfl rfl) rfl ?_; refine rA (.bool (decide (y6 ≥ x0.Vocab))) rfl rfl ?_; refine rn (qn (Wret ?_)); injection hp with hp; subst hp; replace hc : Ctx w (Qs ++ (B b1 (S_api_Shape.cz x0) 30 :: Fr)) := Ctx.front (Qs := [B b1 (S_api_Shape.cz x0) 30]) (As := Qs) hc; refine f1 (v := .bool (decide (y6 ≥ x0.Vocab))) Tryz.results76 Tryz.ntmps76 rfl ?_; exact ⟨_, rfl, k _ hc⟩
    · replace hp := gpos hp (of_decide_eq_true hb7); (iterate 4 refine r0 rfl ?_); refine rs (v := .bool true) (pkt (v := .bool true) rfl rfl) rfl ?_; refine rA (.bool true) rfl rfl ?_; refine rn (qn (Wret ?_)); injection hp with hp; subst hp; replace hc : Ctx w (Qs ++ (B b1 (S_api_Shape.cz x0) 30 :: Fr)) := Ctx.front (Qs := [B b1 (S_api_Shape.cz x0) 30]) (As := Qs) hc; refine f1 (v := .bool true) Tryz.results76 Tryz.ntmps76 rfl ?_; exact ⟨_, rfl, k _ hc⟩
   replace hp := bind_some hp; obtain ⟨r8, hr8, hp⟩ := hp; refine rc (cl Tryz.call77 rfl rfl) rfl ?_; refine slices_ContainsFunc_s_int_int_any hrd1 Tryz.call76 hf5 hc hr8 ?_; clear hc; intro w9 hc; refine rM (.bool r8) rfl rfl ?_; cases hb10 : r8
   · replace hp := gneg hp (by rw [hb10]; exact Bool.false_ne_true); subst hb10; refine rM (.int .i64 x2) rfl rfl ?_; refine rs (lt' rfl rfl) rfl ?_; refine rs (v := .bool (decide (x2 < 1))) (pkf (v := .bool (decide (x2 < 1))) rfl rfl) rfl ?_; refine rA (.bool (decide (x2 < 1))) rfl rfl ?_; refine rn (qn ?_); cases hb11 : (decide (x2 < 1))
     · replace hp := gneg hp (of_decide_eq_false hb11); refine Wcf rfl (Wseq (Wreg ?_)); refine rM (.slice ax1 x1.length qx1) rfl rfl ?_; refine rs (ln rfl Tryz.underlying27) rfl ?_; refine rs (v := .pointer (some ⟨b1, 5, none⟩)) (fax 5 rfl Tryz.underlying30 rfl Tryz.sizeOf3 rfl rfl rfl) rfl ?_; refine rs (ld rfl Tryz.isAgg3 (Ctx.cell hc (k := 1) rfl rfl rfl)) rfl ?_; refine rs (gt' rfl rfl) rfl ?_; refine rM (.bool (decide (((x1.length : Nat) : Int) > x0.Places))) rfl rfl ?_; cases hb12 : (decide (((x1.length : Nat) : Int) > x0.Places))
       · replace hp := gneg hp (of_decide_eq_false hb12); refine rM (.int .i64 x2) rfl rfl ?_; refine rs (sbw rfl rfl) rfl ?_; refine rs (v := .pointer (some ⟨b1, 5, none⟩)) (fax 5 rfl Tryz.underlying30 rfl Tryz.sizeOf3 rfl rfl rfl) rfl ?_; refine rs (ld rfl Tryz.isAgg3 (Ctx.cell hc (k := 1) rfl rfl rfl)) rfl ?_; refine rM (.slice ax1 x1.length qx1) rfl rfl ?_; refine rs (ln rfl Tryz.underlying27) rfl ?_; refine rs (sbw rfl rfl) rfl ?_; refine rs (gt' rfl rfl) rfl ?_; refine rs (v := .bool (decide ((IntKind.i64.wrap (x2 - 1)) > (IntKind.i64.wrap (x0.Places - ((x1.length : Nat) : Int)))))) (pkf (v := .bool (decide ((IntKind.i64.wrap (x2 - 1)) > (IntKind.i64.wrap (x0.Places - ((x1.length : Nat) : Int)))))) rfl rfl) rfl ?_; refine rA (.bool (decide ((IntKind.i64.wrap (x2 - 1)) > (IntKind.i64.wrap (x0.Places - ((x1.length : Nat) : Int)))))) rfl rfl ?_; refine rn (qn ?_); cases hb13 : (decide ((IntKind.i64.wrap (x2 - 1)) > (IntKind.i64.wrap (x0.Places - ((x1.length : Nat) : Int)))))
         · replace hp := gneg hp (of_decide_eq_false hb13); refine Wcf rfl (Wskip (bn (qn (Wseq (Wreg ?_))))); refine rA (.int .i64 0) rfl rfl ?_; refine rn (qn (Wret ?_)); replace hc := Ctx.r1 hc; injection hp with hp; subst hp; refine f1 (v := .int .i64 0) Tryz.results49 Tryz.ntmps49 rfl ?_; exact ⟨_, rfl, k _ hc⟩
         · replace hp := gpos hp (of_decide_eq_true hb13); refine Wct rfl (Wseq (Wreg ?_)); refine rA (.int .i64 80) rfl rfl ?_; refine rn (qn (Wret (br (qr ?_)))); replace hc := Ctx.r1 hc; injection hp with hp; subst hp; refine f1 (v := .int .i64 80) Tryz.results49 Tryz.ntmps49 rfl ?_; exact ⟨_, rfl, k _ hc⟩
       · replace hp := gpos hp (of_decide_eq_true hb12); (iterate 8 refine r0 rfl ?_); refine rs (v := .bool true) (pkt (v := .bool true) rfl rfl) rfl ?_; refine rA (.bool true) rfl rfl ?_; refine rn (qn (Wct rfl (Wseq (Wreg ?_)))); refine rA (.int .i64 80) rfl rfl ?_; refine rn (qn (Wret (br (qr ?_)))); replace hc := Ctx.r1 hc; injection hp with hp; subst hp; refine f1 (v := .int .i64 80) Tryz.results49 Tryz.ntmps49 rfl ?_; exact ⟨_, rfl, k _ hc⟩
     · replace hp := gpos hp (of_decide_eq_true hb11); refine Wct rfl (Wseq (Wreg ?_)); refine rA (.int .i64 2) rfl rfl ?_; refine rn (qn (Wret (br (qr ?_)))); replace hc := Ctx.r1 hc; injection hp with hp; subst hp; refine f1 (v := .int .i64 2) Tryz.results49 Tryz.ntmps49 rfl ?_; exact ⟨_, rfl, k _ hc⟩
   · replace hp := gpos hp hb10; subst hb10; (iterate 2 refine r0 rfl ?_); refine rs (v := .bool true) (pkt (v := .bool true) rfl rfl) rfl ?_; refine rA (.bool true) rfl rfl ?_; refine rn (qn (Wct rfl (Wseq (Wreg ?_)))); refine rA (.int .i64 2) rfl rfl ?_; refine rn (qn (Wret (br (qr ?_)))); replace hc := Ctx.r1 hc; injection hp with hp; subst hp; refine f1 (v := .int .i64 2) Tryz.results49 Tryz.ntmps49 rfl ?_; exact ⟨_, rfl, k _ hc⟩
 · replace hp := gpos hp (of_decide_eq_true hb4); refine Wct rfl (Wseq (Wreg ?_)); refine rA (.int .i64 90) rfl rfl ?_; refine rn (qn (Wret (br (qr ?_)))); replace hc := Ctx.r0 hc; injection hp with hp; subst hp; refine f1 (v := .int .i64 90) Tryz.results49 Tryz.ntmps49 rfl ?_; exact ⟨_, rfl, k _ hc⟩

theorem bd_98_0_2 {ρ : Operand → Value} {w : World} {dst : Option Nat} {ty : TypeId} {pos : String} {after : Array Edge} {g : Option (Nat × Bool)} {x0 x2 : Operand} {a0 : Option Addr} {a2 : Option Nat} (h0 : ρ x0 = (.pointer a0)) (h2 : ρ x2 = (.map a2)) :
    (execOp ρ ⟨dst, .build 98 #[(0, x0), (2, x2)], ty, pos, after, g⟩).run Tryz.prog w = .ok (.value (.agg #[(.pointer a0), (.int .i64 0), (.map a2)])) w := by
  simp [execOp, Instr.build, Instr.fill, Tryz.zeroValue98, Tryz.runUnderlying98, Tryz.sizeOf3, Tryz.sizeOf37, Tryz.sizeOf96, h0, h2, Value.cells]

def model_Model_Run (x0 : (Option S_model_Model)) : Option (S_model_Run) :=
  some (⟨x0, 0, []⟩ : S_model_Run)

set_option maxHeartbeats 8000000 in
theorem model_Model_Run_any {vx0 : Value} {x0 : (Option S_model_Model)} {Fr : List HP} {w : World} {r : S_model_Run} {K : Value → World → Prop}  (hc : Ctx w (Hold (pPo S_model_Model.pr) [vx0] x0 :: Fr)) (hp : model_Model_Run x0 = some r)
    (k : ∀ (b8 : Nat) w', Ctx w' (S_model_Run.hp b8 r :: Fr) → K (.pointer (some ⟨b8, 0, none⟩)) w') : Calls Tryz.prog 11 #[vx0] w (Ret K) := by
 unfold model_Model_Run at hp; refine Center (args := [vx0]) (l := [(0, vx0)]) Tryz.func11 Tryz.ntmps11 rfl rfl rfl ?_; refine Wseq (Wreg ?_); refine rA (.pointer none) rfl rfl ?_; refine rn (qn (Wseq (Wreg ?_))); refine rM (vx0) rfl rfl ?_; refine rsE (Ctx.mpMake S_model_spot.ek (HV vfA S_model_kept.pr) hc) rfl ?_; clear hc; rintro _ w2 ⟨b1, rfl, hc⟩; replace hc := Ctx.p1 hc; obtain ⟨a3, u4⟩ := Ctx.poP hc; subst u4; refine rs (v := .agg #[(.pointer a3), .int .i64 0, .map (some b1)]) (bd_98_0_2 rfl rfl) rfl ?_; refine rsE (Ctx.boxOp (cs := [(.pointer a3), .int .i64 0, .map (some b1)]) (v := .agg #[(.pointer a3), .int .i64 0, .map (some b1)]) hc rfl rfl) rfl ?_; clear hc; rintro _ w7 ⟨b5, rfl, hc⟩; refine rA (.pointer (some ⟨b5, 0, none⟩)) rfl rfl ?_; refine rn (qn (Wret ?_)); replace hc := hc.dup (k := 1) rfl rfl; replace hc := Ctx.p2 (Ctx.p1 (Ctx.p3 hc)); replace hc := S_model_Run.fd (x := (⟨x0, 0, []⟩ : S_model_Run)) hc; replace hc := Ctx.r1 hc; injection hp with hp; subst hp; refine f1 (v := .pointer (some ⟨b5, 0, none⟩)) Tryz.results11 Tryz.ntmps11 rfl ?_; exact ⟨_, rfl, k _ _ hc⟩

def slices_Clone_s_int_int (x0 : (List Int)) : Option ((List Int)) :=
  (app ([]) x0).bind fun z3 =>
  some z3

set_option maxHeartbeats 8000000 in
theorem slices_Clone_s_int_int_any {x0 : (List Int)} {ax0 : Option Addr} {nx0 : Nat} {qx0 : Nat} {P0 : HP} {Fr : List HP} {w : World} {r : (List Int)} {K : Value → World → Prop} (hrd0 : Reads P0 (pInt .i64) (.slice ax0 nx0 qx0) x0) (hc : Ctx w (P0 :: Fr)) (hp : slices_Clone_s_int_int x0 = some r)
    (k : ∀ (a9 : Option Addr) (n10 : Nat) (q11 : Nat) w', Ctx w' (Own (pInt .i64) 3 (.slice a9 n10 q11) r :: P0 :: Fr) → K (.slice a9 n10 q11) w') : Calls Tryz.prog 51 #[.slice ax0 nx0 qx0] w (Ret K) := by
 unfold slices_Clone_s_int_int at hp; refine Center (args := [.slice ax0 nx0 qx0]) (l := [(0, .slice ax0 nx0 qx0)]) Tryz.func51 Tryz.ntmps51 rfl rfl rfl ?_; obtain ⟨hn0, _⟩ := Ctx.rdLen hc (k := 0) rfl rfl hrd0; subst hn0; rcases ax0 with _ | ax0
 · have hx := Ctx.nilRows hc (k := 0) rfl rfl hrd0; subst hx; replace hp := bind_some hp; obtain ⟨z, hz, hp⟩ := hp; injection hp with hp; subst hp; obtain ⟨_, hz⟩ := app_some hz; subst hz; refine Wseq (Wreg ?_); refine rA (.slice none 0 0) rfl rfl ?_; refine rn (qn (Wseq (Wseq (Wreg ?_)))); refine rM (.slice none (([] : List Int).length) qx0) rfl rfl ?_; refine rs (v := .bool true) (esnT Tryz.underlying27 rfl rfl) rfl ?_; refine rn (qn (Wct rfl (Wseq (Wreg ?_)))); refine rA (.slice none 0 0) rfl rfl ?_; refine rn (qn (Wret (qr ?_))); replace hc := hc.nilOwn (pInt .i64) 3; refine f1 (v := .slice none 0 0) Tryz.results51 Tryz.ntmps51 rfl ?_; exact ⟨_, rfl, k _ _ _ _ hc⟩
 · refine Wseq (Wreg ?_); refine rA (.slice none 0 0) rfl rfl ?_; refine rn (qn (Wseq (Wseq (Wreg ?_)))); refine rM (.slice (some ax0) x0.length qx0) rfl rfl ?_; refine rs (v := .bool false) (esnF Tryz.underlying27 rfl rfl) rfl ?_; refine rn (qn (Wcf rfl (Wskip (qn (Wseq (Wreg ?_)))))); refine rsE (Ctx.builtOp (css := []) (xs := ([] : List Int)) (E := (pInt .i64)) hc Tryz.underlying27 Tryz.sizeOf3 Tryz.zeroValue3 rfl rfl rfl rfl rfl rfl rfl rfl) rfl ?_; clear hc; rintro _ w2 ⟨a1, rfl, hc⟩; refine rM (.slice (some ax0) x0.length qx0) rfl rfl ?_; replace hp := bind_some hp; obtain ⟨z3, hz3, hp⟩ := hp; obtain ⟨hg4, e5⟩ := app_some hz3; refine rsE (Ctx.append hc (k := 0) rfl rfl (k2 := 1) rfl rfl hrd0 Tryz.underlying27 (i := Tryz.t3) rfl rfl rfl rfl rfl rfl rfl rfl hg4) rfl ?_; clear hc; rintro _ w8 ⟨a6, q7, rfl, hc⟩; rw [← e5] at hc ⊢; replace hc := Ctx.n0 hc; refine rA (.slice a6 z3.length q7) rfl rfl ?_; refine rn (qn (Wret ?_)); injection hp with hp; subst hp; refine f1 (v := .slice a6 z3.length q7) Tryz.results51 Tryz.ntmps51 rfl ?_; exact ⟨_, rfl, k _ _ _ _ hc⟩

theorem bd_117_0_1 {ρ : Operand → Value} {w : World} {dst : Option Nat} {ty : TypeId} {pos : String} {after : Array Edge} {g : Option (Nat × Bool)} {x0 x1 : Operand} {a0 : Option Addr} {a1 : Option Addr} {l1 c1 : Nat} (h0 : ρ x0 = (.pointer a0)) (h1 : ρ x1 = (.slice a1 l1 c1)) :
    (execOp ρ ⟨dst, .build 117 #[(0, x0), (1, x1)], ty, pos, after, g⟩).run Tryz.prog w = .ok (.value (.agg #[(.pointer a0), (.slice a1 l1 c1), (.slice none 0 0)])) w := by
  simp [execOp, Instr.build, Instr.fill, Tryz.zeroValue117, Tryz.runUnderlying117, Tryz.sizeOf27, Tryz.sizeOf48, h0, h1, Value.cells]

def gen_Begin (N : Nat) (x0 : (Option S_model_Model)) (x1 : (List Int)) : Option ((Option S_gen_Talk) × Int) :=
  optc x0 (
    some (none, 1)) fun y2 =>
    (model_Model_Shape x0).bind fun r16 =>
    (gen_Check N r16 x1 1).bind fun r18 =>
    if r18 ≠ 0 then
      some (none, r18)
    else
      (model_Model_Run x0).bind fun r21 =>
      (slices_Clone_s_int_int x1).bind fun r24 =>
      some ((some (⟨(some r21), r24, []⟩ : S_gen_Talk)), 0)

set_option maxHeartbeats 8000000 in
theorem gen_Begin_any {N : Nat} {vx0 : Value} {x0 : (Option S_model_Model)} {x1 : (List Int)} {ax1 : Option Addr} {nx1 : Nat} {qx1 : Nat} {P1 : HP} {Fr : List HP} {w : World} {r : (Option S_gen_Talk) × Int} {K : Value → World → Prop} (hrd1 : Reads P1 (pInt .i64) (.slice ax1 nx1 qx1) x1) (hc : Ctx w (Hold (pPo S_model_Model.pr) [vx0] x0 :: P1 :: Fr)) (hp : gen_Begin N x0 x1 = some r)
    (k : ∀ (v33 : Value) w', Ctx w' (PtO S_gen_Talk.hp v33 r.1 :: P1 :: Fr) → K (.tuple #[v33, .int .i64 r.2]) w') : Calls Tryz.prog 30 #[vx0, .slice ax1 nx1 qx1] w (Ret K) := by
 unfold gen_Begin at hp; refine Center (args := [vx0, .slice ax1 nx1 qx1]) (l := [(0, vx0), (1, .slice ax1 nx1 qx1)]) Tryz.func30 Tryz.ntmps30 rfl rfl rfl ?_; obtain ⟨hn1, _⟩ := Ctx.rdLen hc (k := 1) rfl rfl hrd1; subst hn1; refine Wseq (Wreg ?_); refine rA (.pointer none) rfl rfl ?_; refine rA (.int .i64 0) rfl rfl ?_; refine rn (qn (Wseq (Wseq (Wreg ?_)))); refine rM (vx0) rfl rfl ?_; cases hb1 : x0
 · replace hp := optN hp hb1; rw [hb1] at hc; replace hc := Ctx.poE hc; obtain ⟨u3, hc⟩ := hc; subst u3; refine rs (v := .bool true) (ept Tryz.underlying37 rfl rfl) rfl ?_; refine rn (qn (Wct rfl (Wseq (Wreg ?_)))); refine rA (.pointer none) rfl rfl ?_; refine rA (.int .i64 1) rfl rfl ?_; refine rn (qn (Wret (qr ?_))); replace hc := Ctx.ptoNB S_gen_Talk.hp hc; injection hp with hp; subst hp; refine f2 (v := .pointer none) (u := .int .i64 1) Tryz.results30 Tryz.ntmps30 rfl rfl ?_; exact ⟨_, rfl, k _ _ hc⟩
 · rename_i y2; replace hp := optS hp hb1; replace hc := Ctx.poF hc hb1; obtain ⟨b4, cs5, u6, hc⟩ := hc; subst u6; replace hc := S_model_Model.op hc; obtain ⟨a8, q9, a10, q11, a12, q13, a14, q15, u7, hc⟩ := hc; subst u7; refine rs (v := .bool false) (epf Tryz.underlying37 rfl rfl) rfl ?_; refine rn (qn (Wcf rfl (Wskip (qn (Wseq (Wseq (Wreg ?_))))))); refine rM (.pointer (some ⟨b4, 0, none⟩)) rfl rfl ?_; replace hc := hc.dup (k := 5) rfl rfl; replace hp := bind_some hp; obtain ⟨r16, hr16, hp⟩ := hp; refine rc (cl Tryz.call13 rfl rfl) rfl ?_; refine model_Model_Shape_any hc hr16 ?_; clear hc; intro w17 hc; refine rM (.slice ax1 x1.length qx1) rfl rfl ?_; replace hp := bind_some hp; obtain ⟨r18, hr18, hp⟩ := hp; replace hc := Ctx.p6 hc; refine rc (cl Tryz.call49 rfl rfl) rfl ?_; refine gen_Check_any hrd1 hc hr18 ?_; clear hc; intro w19 hc; refine rA (.int .i64 r18) rfl rfl ?_; refine rn (qn (Wseq (Wreg ?_))); refine rM (.int .i64 r18) rfl rfl ?_; refine rs (ned rfl rfl) rfl ?_; refine rn (qn ?_); cases hb20 : (decide (r18 ≠ 0))
   · replace hp := gneg hp (of_decide_eq_false hb20); refine Wcf rfl (Wskip (qn (Wseq (Wreg ?_)))); refine rM (.pointer (some ⟨b4, 0, none⟩)) rfl rfl ?_; replace hc := hc.dup (k := 6) rfl rfl; replace hp := bind_some hp; obtain ⟨r21, hr21, hp⟩ := hp; refine rc (cl Tryz.call11 rfl rfl) rfl ?_; refine model_Model_Run_any hc hr21 ?_; clear hc; intro b22 w23 hc; refine rM (.slice ax1 x1.length qx1) rfl rfl ?_; replace hp := bind_some hp; obtain ⟨r24, hr24, hp⟩ := hp; replace hc := Ctx.p1 hc; refine rc (cl Tryz.call51 rfl rfl) rfl ?_; refine slices_Clone_s_int_int_any hrd1 hc hr24 ?_; clear hc; intro a25 n26 q27 w28 hc; obtain ⟨u29, _⟩ := Ctx.rdLen hc (k := 0) rfl rfl reads_own; subst u29; refine rs (v := .agg #[.pointer (some ⟨b22, 0, none⟩), .slice a25 r24.length q27, .slice none 0 0]) (bd_117_0_1 rfl rfl) rfl ?_; refine rsE (Ctx.boxOp (cs := [.pointer (some ⟨b22, 0, none⟩), .slice a25 r24.length q27, .slice none 0 0]) (v := .agg #[.pointer (some ⟨b22, 0, none⟩), .slice a25 r24.length q27, .slice none 0 0]) hc rfl rfl) rfl ?_; clear hc; rintro _ w32 ⟨b30, rfl, hc⟩; refine rA (.pointer (some ⟨b30, 0, none⟩)) rfl rfl ?_; refine rA (.int .i64 0) rfl rfl ?_; refine rn (qn (Wret ?_)); replace hc := Ctx.p3 hc; replace hc := Ctx.ptoSB S_model_Run.hp hc; replace hc := hc.nilOwn (pInt .i64) 3; replace hc := Ctx.p3 (Ctx.p2 (Ctx.p3 hc)); replace hc := S_gen_Talk.fd (x := (⟨(some r21), r24, []⟩ : S_gen_Talk)) hc; replace hc := Ctx.ptoSB S_gen_Talk.hp hc; replace hc := Ctx.r2 (Ctx.r3 (Ctx.r4 (Ctx.r5 (Ctx.r6 (Ctx.r7 hc))))); injection hp with hp; subst hp; refine f2 (v := .pointer (some ⟨b30, 0, none⟩)) (u := .int .i64 0) Tryz.results30 Tryz.ntmps30 rfl rfl ?_; exact ⟨_, rfl, k _ _ hc⟩
   · replace hp := gpos hp (of_decide_eq_true hb20); refine Wct rfl (Wseq (Wreg ?_)); refine rM (.int .i64 r18) rfl rfl ?_; refine rA (.pointer none) rfl rfl ?_; refine rA (.int .i64 r18) rfl rfl ?_; refine rn (qn (Wret (qr ?_))); replace hc := Ctx.ptoNB S_gen_Talk.hp hc; replace hc := Ctx.r2 (Ctx.r3 (Ctx.r4 (Ctx.r5 (Ctx.r6 (Ctx.r7 hc))))); injection hp with hp; subst hp; refine f2 (v := .pointer none) (u := .int .i64 r18) Tryz.results30 Tryz.ntmps30 rfl rfl ?_; exact ⟨_, rfl, k _ _ hc⟩

def norm_tame (x0 : Int) : Option (Int) :=
  (some (min (max (IntKind.i64.wrap x0) (-8388608)) 8388607)).bind fun e1 =>
  some e1

set_option maxHeartbeats 8000000 in
theorem norm_tame_any {x0 : Int} {Fr : List HP} {w : World} {r : Int} {K : Value → World → Prop}  (hc : Ctx w (Fr)) (hp : norm_tame x0 = some r)
    (k : ∀ w', Ctx w' (Fr) → K (.int .i64 r) w') : Calls Tryz.prog 91 #[.int .i32 x0] w (Ret K) := by
 unfold norm_tame at hp; refine Center (args := [.int .i32 x0]) (l := [(0, .int .i32 x0)]) Tryz.func91 Tryz.ntmps91 rfl rfl rfl ?_; refine Wseq (Wreg ?_); refine rA (.int .i64 0) rfl rfl ?_; refine rn (qn (Wseq (Wreg ?_))); refine rM (.int .i32 x0) rfl rfl ?_; refine rs (cvi rfl Tryz.underlying21 Tryz.underlying2) rfl ?_; refine rs (v := .int .i64 (max (IntKind.i64.wrap x0) (-8388608))) (bmx rfl rfl Tryz.underlying2) rfl ?_; refine rs (v := .int .i64 (min (max (IntKind.i64.wrap x0) (-8388608)) 8388607)) (bmn rfl rfl Tryz.underlying2) rfl ?_; replace hp := bind_some hp; obtain ⟨e1, he1, hp⟩ := hp; injection he1 with he1; refine rs (v := .int .i64 e1) (av (v := .int .i64 e1) (by rw [← he1]; rfl)) rfl ?_; refine rn (qn (Wret ?_)); injection hp with hp; subst hp; refine f1 (v := .int .i64 e1) Tryz.results91 Tryz.ntmps91 rfl ?_; exact ⟨_, rfl, k _ hc⟩

def norm_square.L1 (x0 : (List Int)) : Nat → Int → Int → Option (Int)
  | 0, _, _ => none
  | m1 + 1, j1, j2 =>
    if j2 < ((x0.length : Nat) : Int) then
      (idx x0 j2).bind fun y7 =>
      (norm_tame y7).bind fun r16 =>
      (norm_tame y7).bind fun r18 =>
      (some (IntKind.u64.wrap (j1 + (IntKind.u64.wrap (IntKind.i64.wrap (r16 * r18)))))).bind fun e20 =>
      (norm_square.L1 x0 m1) e20 (IntKind.i64.wrap (j2 + 1))
    else
      chk ((IntKind.u64.wrap ((x0.length : Nat) : Int)) ≠ 0) <|
      (some (IntKind.u64.wrap (Int.tdiv j1 (IntKind.u64.wrap ((x0.length : Nat) : Int))))).bind fun e6 =>
      some e6

def norm_square (N : Nat) (x0 : (List Int)) : Option (Int) :=
  norm_square.L1 x0 N 0 0

set_option maxHeartbeats 8000000 in
theorem norm_square_any {N : Nat} {x0 : (List Int)} {ax0 : Option Addr} {nx0 : Nat} {qx0 : Nat} {P0 : HP} {Fr : List HP} {w : World} {r : Int} {K : Value → World → Prop} (hrd0 : Reads P0 (pInt .i32) (.slice ax0 nx0 qx0) x0) (hc : Ctx w (P0 :: Fr)) (hp : norm_square N x0 = some r)
    (k : ∀ w', Ctx w' (P0 :: Fr) → K (.int .u64 r) w') : Calls Tryz.prog 88 #[.slice ax0 nx0 qx0] w (Ret K) := by
 unfold norm_square at hp; refine Center (args := [.slice ax0 nx0 qx0]) (l := [(0, .slice ax0 nx0 qx0)]) Tryz.func88 Tryz.ntmps88 rfl rfl rfl ?_; obtain ⟨hn0, _⟩ := Ctx.rdLen hc (k := 0) rfl rfl hrd0; subst hn0; refine Wseq (Wreg ?_); refine rA (.int .u64 0) rfl rfl ?_; refine rn (qn (Wseq (Wreg ?_))); refine rA (.int .u64 0) rfl rfl ?_; refine rn (qn (Wseq (Wseq (Wreg ?_)))); refine rM (.slice ax0 x0.length qx0) rfl rfl ?_; refine rs (ln rfl Tryz.underlying52) rfl ?_; refine rM (.int .i64 0) rfl rfl ?_; refine rn (qn (Wblk ?_)); refine Wloop [3, 5, 8, 9, 10, 11, 12, 13, 14, 15, 16, 17, 18, 19, 20] [3, 8] (fun m vs w' => ∃ j1 : Int, ∃ j2 : Int, vs = [.int .u64 j1, .int .i64 j2] ∧ norm_square.L1 x0 m j1 j2 = some r ∧ Ctx w' (P0 :: Fr)) N ?_ ?_
 · exact ⟨0, 0, rfl, hp, hc⟩
 · clear hp hc; intro m vs u w3 hJ; obtain ⟨j1, j2, rfl, hp, hc⟩ := hJ; rcases m with _ | m1
   · cases (show none = some r from hp)
   rw [norm_square.L1] at hp; refine Wseq (Wreg ?_); refine rs (lt' rfl rfl) rfl ?_; refine rn (qn (Wseq ?_)); cases hb4 : (decide (j2 < ((x0.length : Nat) : Int)))
   · replace hp := gneg hp (of_decide_eq_false hb4); refine Wcf rfl (Wexit (qx (qx (be (qn (Wseq (Wreg ?_))))))); refine rM (.int .u64 j1) rfl rfl ?_; refine rM (.slice ax0 x0.length qx0) rfl rfl ?_; refine rs (ln rfl Tryz.underlying52) rfl ?_; refine rs (cvi rfl Tryz.underlying3 Tryz.underlying23) rfl ?_; replace hp := chk_some hp; obtain ⟨hg5, hp⟩ := hp; refine rs (quw rfl rfl hg5) rfl ?_; replace hp := bind_some hp; obtain ⟨e6, he6, hp⟩ := hp; injection he6 with he6; refine rs (v := .int .u64 e6) (av (v := .int .u64 e6) (by rw [← he6]; rfl)) rfl ?_; refine rn (qn (Wret ?_)); injection hp with hp; subst hp; refine f1 (v := .int .u64 e6) Tryz.results88 Tryz.ntmps88 rfl ?_; exact ⟨_, rfl, k _ hc⟩
   · replace hp := gpos hp (of_decide_eq_true hb4); refine Wct rfl (Wskip (qn (Wseq (Wblk (Wseq (Wreg ?_)))))); replace hp := bind_some hp; obtain ⟨y7, hy7, hp⟩ := hp; obtain ⟨b10, o11, u12, hi8, hi9⟩ := Ctx.rdAt hc (k := 0) rfl rfl hrd0 hy7; subst u12; refine rs (ixx rfl rfl Tryz.underlying52 Tryz.sizeOf21 hi8 hi9 rfl) rfl ?_; replace hc := Ctx.rdCell hc (k := 0) rfl rfl hrd0 hy7; obtain ⟨cs13, hc, hcell14⟩ := hc; replace hc := Ctx.holdC hc; obtain ⟨u15, hc⟩ := hc; subst u15; refine rs (ld rfl Tryz.isAgg21 (hcell14 0 _ rfl)) rfl ?_; refine rA (.int .i32 y7) rfl rfl ?_; refine rn (qn (Wreg ?_)); refine rM (.int .u64 j1) rfl rfl ?_; refine rM (.int .i32 y7) rfl rfl ?_; replace hp := bind_some hp; obtain ⟨r16, hr16, hp⟩ := hp; refine rc (cl Tryz.call91 rfl rfl) rfl ?_; refine norm_tame_any hc hr16 ?_; clear hc; intro w17 hc; refine rM (.int .i32 y7) rfl rfl ?_; replace hp := bind_some hp; obtain ⟨r18, hr18, hp⟩ := hp; refine rc (cl Tryz.call91 rfl rfl) rfl ?_; refine norm_tame_any hc hr18 ?_; clear hc; intro w19 hc; refine rs (mlw rfl rfl) rfl ?_; refine rs (cvi rfl Tryz.underlying2 Tryz.underlying23) rfl ?_; refine rs (adw rfl rfl) rfl ?_; replace hp := bind_some hp; obtain ⟨e20, he20, hp⟩ := hp; injection he20 with he20; refine rs (v := .int .u64 e20) (av (v := .int .u64 e20) (by rw [← he20]; rfl)) rfl ?_; refine rn (bn (qn (Wreg ?_))); refine rs (adw rfl rfl) rfl ?_; refine rM (.int .i64 (IntKind.i64.wrap (j2 + 1))) rfl rfl ?_; refine rn (qn ?_); exact ⟨m1, Nat.lt_succ_self _, ⟨e20, (IntKind.i64.wrap (j2 + 1)), rfl, hp, hc⟩, (kl rfl k0)⟩

def bits_Mul64 (x0 : Int) (x1 : Int) : Option (Int × Int) :=
  (some (IntKind.u64.wrap ((iand .u64 x0 4294967295) * (iand .u64 x1 4294967295)))).bind fun e1 =>
  (some (IntKind.u64.wrap ((IntKind.u64.wrap ((ishr .u64 x0 32) * (iand .u64 x1 4294967295))) + (ishr .u64 e1 32)))).bind fun e2 =>
  (some (IntKind.u64.wrap ((iand .u64 e2 4294967295) + (IntKind.u64.wrap ((iand .u64 x0 4294967295) * (ishr .u64 x1 32)))))).bind fun e3 =>
  (some (IntKind.u64.wrap ((IntKind.u64.wrap ((IntKind.u64.wrap ((ishr .u64 x0 32) * (ishr .u64 x1 32))) + (ishr .u64 e2 32))) + (ishr .u64 e3 32)))).bind fun e4 =>
  some (e4, (IntKind.u64.wrap (x0 * x1)))

set_option maxHeartbeats 8000000 in
theorem bits_Mul64_any {x0 : Int} {x1 : Int} {Fr : List HP} {w : World} {r : Int × Int} {K : Value → World → Prop}  (hc : Ctx w (Fr)) (hp : bits_Mul64 x0 x1 = some r)
    (k : ∀ w', Ctx w' (Fr) → K (.tuple #[.int .u64 r.1, .int .u64 r.2]) w') : Calls Tryz.prog 127 #[.int .u64 x0, .int .u64 x1] w (Ret K) := by
 unfold bits_Mul64 at hp; refine Center (args := [.int .u64 x0, .int .u64 x1]) (l := [(0, .int .u64 x0), (1, .int .u64 x1)]) Tryz.func127 Tryz.ntmps127 rfl rfl rfl ?_; refine Wseq (Wreg ?_); refine rA (.int .u64 0) rfl rfl ?_; refine rA (.int .u64 0) rfl rfl ?_; refine rn (qn (Wseq (Wreg ?_))); refine rM (.int .u64 x0) rfl rfl ?_; refine rs (and_ rfl rfl) rfl ?_; refine rA (.int .u64 (iand .u64 x0 4294967295)) rfl rfl ?_; refine rn (qn (Wseq (Wreg ?_))); refine rM (.int .u64 x0) rfl rfl ?_; refine rs (shr_ rfl rfl (by decide)) rfl ?_; refine rA (.int .u64 (ishr .u64 x0 32)) rfl rfl ?_; refine rn (qn (Wseq (Wreg ?_))); refine rM (.int .u64 x1) rfl rfl ?_; refine rs (and_ rfl rfl) rfl ?_; refine rA (.int .u64 (iand .u64 x1 4294967295)) rfl rfl ?_; refine rn (qn (Wseq (Wreg ?_))); refine rM (.int .u64 x1) rfl rfl ?_; refine rs (shr_ rfl rfl (by decide)) rfl ?_; refine rA (.int .u64 (ishr .u64 x1 32)) rfl rfl ?_; refine rn (qn (Wseq (Wreg ?_))); refine rM (.int .u64 (iand .u64 x0 4294967295)) rfl rfl ?_; refine rM (.int .u64 (iand .u64 x1 4294967295)) rfl rfl ?_; refine rs (mlw rfl rfl) rfl ?_; replace hp := bind_some hp; obtain ⟨e1, he1, hp⟩ := hp; injection he1 with he1; refine rs (v := .int .u64 e1) (av (v := .int .u64 e1) (by rw [← he1]; rfl)) rfl ?_; refine rn (qn (Wseq (Wreg ?_))); refine rM (.int .u64 (ishr .u64 x0 32)) rfl rfl ?_; refine rM (.int .u64 (iand .u64 x1 4294967295)) rfl rfl ?_; refine rs (mlw rfl rfl) rfl ?_; refine rM (.int .u64 e1) rfl rfl ?_; refine rs (shr_ rfl rfl (by decide)) rfl ?_; refine rs (adw rfl rfl) rfl ?_; replace hp := bind_some hp; obtain ⟨e2, he2, hp⟩ := hp; injection he2 with he2; refine rs (v := .int .u64 e2) (av (v := .int .u64 e2) (by rw [← he2]; rfl)) rfl ?_; refine rn (qn (Wseq (Wreg ?_))); refine rM (.int .u64 e2) rfl rfl ?_; refine rs (and_ rfl rfl) rfl ?_; refine rA (.int .u64 (iand .u64 e2 4294967295)) rfl rfl ?_; refine rn (qn (Wseq (Wreg ?_))); refine rM (.int .u64 e2) rfl rfl ?_; refine rs (shr_ rfl rfl (by decide)) rfl ?_; refine rA (.int .u64 (ishr .u64 e2 32)) rfl rfl ?_; refine rn (qn (Wseq (Wreg ?_))); refine rM (.int .u64 (iand .u64 e2 4294967295)) rfl rfl ?_; refine rM (.int .u64 (iand .u64 x0 4294967295)) rfl rfl ?_; refine rM (.int .u64 (ishr .u64 x1 32)) rfl rfl ?_; refine rs (mlw rfl rfl) rfl ?_; refine rs (adw rfl rfl) rfl ?_; replace hp := bind_some hp; obtain ⟨e3, he3, hp⟩ := hp; injection he3 with he3; refine rs (v := .int .u64 e3) (av (v := .int .u64 e3) (by rw [← he3]; rfl)) rfl ?_; refine rn (qn (Wseq (Wreg ?_))); refine rM (.int .u64 (ishr .u64 x0 32)) rfl rfl ?_; refine rM (.int .u64 (ishr .u64 x1 32)) rfl rfl ?_; refine rs (mlw rfl rfl) rfl ?_; refine rM (.int .u64 (ishr .u64 e2 32)) rfl rfl ?_; refine rs (adw rfl rfl) rfl ?_; refine rM (.int .u64 e3) rfl rfl ?_; refine rs (shr_ rfl rfl (by decide)) rfl ?_; refine rs (adw rfl rfl) rfl ?_; replace hp := bind_some hp; obtain ⟨e4, he4, hp⟩ := hp; injection he4 with he4; refine rs (v := .int .u64 e4) (av (v := .int .u64 e4) (by rw [← he4]; rfl)) rfl ?_; refine rn (qn (Wseq (Wreg ?_))); refine rM (.int .u64 x0) rfl rfl ?_; refine rM (.int .u64 x1) rfl rfl ?_; refine rs (mlw rfl rfl) rfl ?_; refine rA (.int .u64 (IntKind.u64.wrap (x0 * x1))) rfl rfl ?_; refine rn (qn (Wret ?_)); injection hp with hp; subst hp; refine f2 (v := .int .u64 e4) (u := .int .u64 (IntKind.u64.wrap (x0 * x1))) Tryz.results127 Tryz.ntmps127 rfl rfl ?_; exact ⟨_, rfl, k _ hc⟩

def curve_Root.J2 (j5 : Int) (k1 : Int → Int → Option (Int)) (j8 : Int) : Option (Int) :=
  k1 j8 (IntKind.u64.wrap (j5 - 1))

def curve_Root.J3 (j4 : Int) (j5 : Int) (e10 : Int) (k1 : Int → Int → Option (Int)) (j13 : Bool) : Option (Int) :=
  if j13 = true then
    curve_Root.J2 j5 k1 e10
  else
    curve_Root.J2 j5 k1 j4

def curve_Root.L1 (x0 : Int) : Nat → Int → Int → Option (Int)
  | 0, _, _ => none
  | m1 + 1, j4, j5 =>
    if j5 > 0 then
      chk (0 ≤ (IntKind.u64.wrap (j5 - 1))) <|
      (some (ior .u64 j4 (ishl .u64 1 (IntKind.u64.wrap (j5 - 1))))).bind fun e10 =>
      (bits_Mul64 e10 e10).bind fun r11 =>
      if r11.1 = 0 then
        curve_Root.J3 j4 j5 e10 (curve_Root.L1 x0 m1) (decide (r11.2 ≤ x0))
      else
        curve_Root.J3 j4 j5 e10 (curve_Root.L1 x0 m1) false
    else
      some j4

def curve_Root (N : Nat) (x0 : Int) : Option (Int) :=
  (bits_Len64 x0).bind fun r1 =>
  (some (IntKind.u64.wrap (Int.tdiv (IntKind.u64.wrap (IntKind.i64.wrap (r1 + 1))) 2))).bind fun e3 =>
  curve_Root.L1 x0 N 0 e3

set_option maxHeartbeats 8000000 in
theorem curve_Root_any {N : Nat} {x0 : Int} {Fr : List HP} {w : World} {r : Int} {K : Value → World → Prop}  (hc : Ctx w (Fr)) (hp : curve_Root N x0 = some r)
    (k : ∀ w', Ctx w' (Fr) → K (.int .u64 r) w') : Calls Tryz.prog 109 #[.int .u64 x0] w (Ret K) := by
 unfold curve_Root at hp; refine Center (args := [.int .u64 x0]) (l := [(0, .int .u64 x0)]) Tryz.func109 Tryz.ntmps109 rfl rfl rfl ?_; refine Wseq (Wreg ?_); refine rA (.int .u64 0) rfl rfl ?_; refine rn (qn (Wseq (Wreg ?_))); refine rA (.int .u64 0) rfl rfl ?_; refine rn (qn (Wseq (Wseq (Wreg ?_)))); refine rM (.int .u64 x0) rfl rfl ?_; replace hp := bind_some hp; obtain ⟨r1, hr1, hp⟩ := hp; refine rc (cl Tryz.call126 rfl rfl) rfl ?_; refine bits_Len64_any hc hr1 ?_; clear hc; intro w2 hc; refine rs (adw rfl rfl) rfl ?_; refine rs (cvi rfl Tryz.underlying3 Tryz.underlying138) rfl ?_; refine rs (quw rfl rfl (by decide)) rfl ?_; replace hp := bind_some hp; obtain ⟨e3, he3, hp⟩ := hp; injection he3 with he3; refine rs (v := .int .u64 e3) (av (v := .int .u64 e3) (by rw [← he3]; rfl)) rfl ?_; refine rn (qn (Wblk ?_)); refine Wloop [3, 4, 5, 6, 7, 13, 14, 15, 16, 17, 18, 19, 20, 21, 22, 23, 24, 25, 26, 27, 28, 29, 30, 31, 32, 33, 34, 35] [3, 4] (fun m vs w' => ∃ j4 : Int, ∃ j5 : Int, vs = [.int .u64 j4, .int .u64 j5] ∧ curve_Root.L1 x0 m j4 j5 = some r ∧ Ctx w' (Fr)) N ?_ ?_
 · exact ⟨0, e3, rfl, hp, hc⟩
 · clear hp hc; intro m vs u w6 hJ; obtain ⟨j4, j5, rfl, hp, hc⟩ := hJ; rcases m with _ | m1
   · cases (show none = some r from hp)
   rw [curve_Root.L1] at hp; refine Wseq (Wseq (Wreg ?_)); refine rM (.int .u64 j5) rfl rfl ?_; refine rs (gt' rfl rfl) rfl ?_; refine rn (qn ?_); cases hb7 : (decide (j5 > 0))
   · replace hp := gneg hp (of_decide_eq_false hb7); refine Wcf rfl (Wexit (qx (qx (be (qn (Wseq (Wreg ?_))))))); refine rM (.int .u64 j4) rfl rfl ?_; refine rA (.int .u64 j4) rfl rfl ?_; refine rn (qn (Wret ?_)); injection hp with hp; subst hp; refine f1 (v := .int .u64 j4) Tryz.results109 Tryz.ntmps109 rfl ?_; exact ⟨_, rfl, k _ hc⟩
   · replace hp := gpos hp (of_decide_eq_true hb7); refine Wct rfl (Wskip (qn ?_)); refine Wseqm [3, 5, 6, 7, 17, 18, 19, 20, 21, 22, 23, 24, 25, 26, 27, 28, 29, 30, 31, 32, 33, 34, 35] [3] (fun vs w' => ∃ j8 : Int, vs = [.int .u64 j8] ∧ curve_Root.J2 j5 (curve_Root.L1 x0 m1) j8 = some r ∧ Ctx w' (Fr)) ?_ ?_
     · refine Wblk (Wseq (Wreg ?_)); refine rM (.int .u64 j4) rfl rfl ?_; refine rM (.int .u64 j5) rfl rfl ?_; refine rs (sbw rfl rfl) rfl ?_; replace hp := chk_some hp; obtain ⟨hg9, hp⟩ := hp; refine rs (shl_ rfl rfl hg9) rfl ?_; refine rs (or_ rfl rfl) rfl ?_; replace hp := bind_some hp; obtain ⟨e10, he10, hp⟩ := hp; injection he10 with he10; refine rs (v := .int .u64 e10) (av (v := .int .u64 e10) (by rw [← he10]; rfl)) rfl ?_; refine rn (qn (Wseq (Wreg ?_))); refine rM (.int .u64 e10) rfl rfl ?_; refine rM (.int .u64 e10) rfl rfl ?_; replace hp := bind_some hp; obtain ⟨r11, hr11, hp⟩ := hp; refine rc (cl Tryz.call127 rfl rfl) rfl ?_; refine bits_Mul64_any hc hr11 ?_; clear hc; intro w12 hc; refine rM (.tuple #[.int .u64 r11.1, .int .u64 r11.2]) rfl rfl ?_; refine rs (ext (v := .int .u64 r11.1) rfl rfl) rfl ?_; refine rs (ext (v := .int .u64 r11.2) rfl rfl) rfl ?_; refine rA (.int .u64 r11.1) rfl rfl ?_; refine rA (.int .u64 r11.2) rfl rfl ?_; refine rn (qn ?_); refine Wseqm [28, 29, 30, 31, 32, 33, 34] [34] (fun vs w' => ∃ j13 : Bool, vs = [.bool j13] ∧ curve_Root.J3 j4 j5 e10 (curve_Root.L1 x0 m1) j13 = some r ∧ Ctx w' (Fr)) ?_ ?_
       · refine Wreg ?_; refine rM (.int .u64 r11.1) rfl rfl ?_; refine rs (eqd rfl rfl) rfl ?_; refine rM (.bool (decide (r11.1 = 0))) rfl rfl ?_; cases hb14 : (decide (r11.1 = 0))
         · replace hp := gneg hp (of_decide_eq_false hb14); (iterate 3 refine r0 rfl ?_); refine rs (v := .bool false) (pkf (v := .bool false) rfl rfl) rfl ?_; refine rn (qn ?_); exact ⟨⟨false, rfl, hp, hc⟩, (kl rfl kb)⟩
         · replace hp := gpos hp (of_decide_eq_true hb14); refine rM (.int .u64 r11.2) rfl rfl ?_; refine rM (.int .u64 x0) rfl rfl ?_; refine rs (le' rfl rfl) rfl ?_; refine rs (v := .bool (decide (r11.2 ≤ x0))) (pkt (v := .bool (decide (r11.2 ≤ x0))) rfl rfl) rfl ?_; refine rn (qn ?_); exact ⟨⟨decide (r11.2 ≤ x0), rfl, hp, hc⟩, (kl rfl kb)⟩
       · clear hp hc; intro vs u w15 hJ; obtain ⟨j13, rfl, hp, hc⟩ := hJ; unfold curve_Root.J3 at hp; cases hb16 : j13
         · replace hp := gneg hp (by rw [hb16]; exact Bool.false_ne_true); subst hb16; refine Wcf rfl (Wskip (bn (qn ?_))); exact ⟨⟨j4, rfl, hp, hc⟩, (kl rfl (km rfl (kl rfl kb)))⟩
         · replace hp := gpos hp hb16; subst hb16; refine Wct rfl (Wreg ?_); refine rM (.int .u64 e10) rfl rfl ?_; refine rA (.int .u64 e10) rfl rfl ?_; refine rn (bn (qn ?_)); exact ⟨⟨e10, rfl, hp, hc⟩, (kl rfl (km rfl (kl rfl kb)))⟩
     · clear hp hc; intro vs u w17 hJ; obtain ⟨j8, rfl, hp, hc⟩ := hJ; unfold curve_Root.J2 at hp; refine Wreg ?_; refine rM (.int .u64 j5) rfl rfl ?_; refine rs (sbw rfl rfl) rfl ?_; refine rA (.int .u64 (IntKind.u64.wrap (j5 - 1))) rfl rfl ?_; refine rn (qn ?_); exact ⟨m1, Nat.lt_succ_self _, ⟨j8, (IntKind.u64.wrap (j5 - 1)), rfl, hp, hc⟩, (kl rfl (km rfl (kl rfl k0)))⟩

def curve_Inverse (N : Nat) (x0 : Int) : Option (Int) :=
  if x0 = 0 then
    some 16777216
  else
    chk (x0 ≠ 0) <|
    (curve_Root N (IntKind.u64.wrap (Int.tdiv 281474976710656 x0))).bind fun r3 =>
    some r3

set_option maxHeartbeats 8000000 in
theorem curve_Inverse_any {N : Nat} {x0 : Int} {Fr : List HP} {w : World} {r : Int} {K : Value → World → Prop}  (hc : Ctx w (Fr)) (hp : curve_Inverse N x0 = some r)
    (k : ∀ w', Ctx w' (Fr) → K (.int .u64 r) w') : Calls Tryz.prog 87 #[.int .u64 x0] w (Ret K) := by
 unfold curve_Inverse at hp; refine Center (args := [.int .u64 x0]) (l := [(0, .int .u64 x0)]) Tryz.func87 Tryz.ntmps87 rfl rfl rfl ?_; refine Wseq (Wreg ?_); refine rA (.int .u64 0) rfl rfl ?_; refine rn (qn (Wseq (Wseq (Wreg ?_)))); refine rM (.int .u64 x0) rfl rfl ?_; refine rs (eqd rfl rfl) rfl ?_; refine rn (qn ?_); cases hb1 : (decide (x0 = 0))
 · replace hp := gneg hp (of_decide_eq_false hb1); refine Wcf rfl (Wskip (qn (Wseq (Wreg ?_)))); refine rM (.int .u64 x0) rfl rfl ?_; replace hp := chk_some hp; obtain ⟨hg2, hp⟩ := hp; refine rs (quw rfl rfl hg2) rfl ?_; replace hp := bind_some hp; obtain ⟨r3, hr3, hp⟩ := hp; refine rc (cl Tryz.call109 rfl rfl) rfl ?_; refine curve_Root_any hc hr3 ?_; clear hc; intro w4 hc; refine rA (.int .u64 r3) rfl rfl ?_; refine rn (qn (Wret ?_)); injection hp with hp; subst hp; refine f1 (v := .int .u64 r3) Tryz.results87 Tryz.ntmps87 rfl ?_; exact ⟨_, rfl, k _ hc⟩
 · replace hp := gpos hp (of_decide_eq_true hb1); refine Wct rfl (Wseq (Wreg ?_)); refine rA (.int .u64 16777216) rfl rfl ?_; refine rn (qn (Wret (qr ?_))); injection hp with hp; subst hp; refine f1 (v := .int .u64 16777216) Tryz.results87 Tryz.ntmps87 rfl ?_; exact ⟨_, rfl, k _ hc⟩

def norm_Norm.L1 (x0 : (List Int)) (x1 : (List Int)) (r6 : (Int)) : Nat → (List Int) → Int → Option ((List Int) × Int)
  | 0, _, _ => none
  | m1 + 1, j13, j17 =>
    if j17 < ((x1.length : Nat) : Int) then
      (idx x1 j17).bind fun y20 =>
      (norm_tame y20).bind fun r30 =>
      (idx x0 j17).bind fun y32 =>
      (round_Shift (IntKind.i64.wrap ((IntKind.i64.wrap (r30 * (IntKind.i64.wrap r6))) * (IntKind.i64.wrap y32))) 23).bind fun r41 =>
      (round_Sat8 r41).bind fun r43 =>
      (idx j13 j17).bind fun y45 =>
      (norm_Norm.L1 x0 x1 r6 m1) (j13.set (j17).toNat r43) (IntKind.i64.wrap (j17 + 1))
    else
      some (j13, 0)

def norm_Norm (N : Nat) (x0 : (List Int)) (x1 : (List Int)) : Option ((List Int) × Int) :=
  if ((x0.length : Nat) : Int) ≠ ((x1.length : Nat) : Int) then
    some ([], 30)
  else
    if ((x1.length : Nat) : Int) > 4096 then
      some ([], 30)
    else
      if ((x1.length : Nat) : Int) = 0 then
        some ([], 0)
      else
        (norm_square N x1).bind fun r4 =>
        (curve_Inverse N r4).bind fun r6 =>
        chk (0 ≤ ((x1.length : Nat) : Int) ∧ ((x1.length : Nat) : Int) ≤ 4294967296) <|
        norm_Norm.L1 x0 x1 r6 N (List.replicate (((x1.length : Nat) : Int)).toNat 0) 0

set_option maxHeartbeats 8000000 in
theorem norm_Norm_any {N : Nat} {x0 : (List Int)} {ax0 : Option Addr} {nx0 : Nat} {qx0 : Nat} {P0 : HP} {x1 : (List Int)} {ax1 : Option Addr} {nx1 : Nat} {qx1 : Nat} {P1 : HP} {Fr : List HP} {w : World} {r : (List Int) × Int} {K : Value → World → Prop} (hrd0 : Reads P0 (pInt .i8) (.slice ax0 nx0 qx0) x0) (hrd1 : Reads P1 (pInt .i32) (.slice ax1 nx1 qx1) x1) (hc : Ctx w (P0 :: P1 :: Fr)) (hp : norm_Norm N x0 x1 = some r)
    (k : ∀ (a52 : Option Addr) (n53 : Nat) (q54 : Nat) w', Ctx w' (Own (pInt .i8) 45 (.slice a52 n53 q54) r.1 :: P0 :: P1 :: Fr) → K (.tuple #[.slice a52 n53 q54, .int .i64 r.2]) w') : Calls Tryz.prog 64 #[.slice ax0 nx0 qx0, .slice ax1 nx1 qx1] w (Ret K) := by
 unfold norm_Norm at hp; refine Center (args := [.slice ax0 nx0 qx0, .slice ax1 nx1 qx1]) (l := [(0, .slice ax0 nx0 qx0), (1, .slice ax1 nx1 qx1)]) Tryz.func64 Tryz.ntmps64 rfl rfl rfl ?_; obtain ⟨hn0, _⟩ := Ctx.rdLen hc (k := 0) rfl rfl hrd0; subst hn0; obtain ⟨hn1, _⟩ := Ctx.rdLen hc (k := 1) rfl rfl hrd1; subst hn1; refine Wseq (Wreg ?_); refine rA (.slice none 0 0) rfl rfl ?_; refine rA (.int .i64 0) rfl rfl ?_; refine rn (qn (Wseq (Wseq (Wreg ?_)))); refine rM (.slice ax0 x0.length qx0) rfl rfl ?_; refine rs (ln rfl Tryz.underlying24) rfl ?_; refine rM (.slice ax1 x1.length qx1) rfl rfl ?_; refine rs (ln rfl Tryz.underlying52) rfl ?_; refine rs (ned rfl rfl) rfl ?_; refine rM (.bool (decide (((x0.length : Nat) : Int) ≠ ((x1.length : Nat) : Int)))) rfl rfl ?_; cases hb1 : (decide (((x0.length : Nat) : Int) ≠ ((x1.length : Nat) : Int)))
 · replace hp := gneg hp (of_decide_eq_false hb1); refine rM (.slice ax1 x1.length qx1) rfl rfl ?_; refine rs (ln rfl Tryz.underlying52) rfl ?_; refine rs (gt' rfl rfl) rfl ?_; refine rs (v := .bool (decide (((x1.length : Nat) : Int) > 4096))) (pkf (v := .bool (decide (((x1.length : Nat) : Int) > 4096))) rfl rfl) rfl ?_; refine rn (qn ?_); cases hb2 : (decide (((x1.length : Nat) : Int) > 4096))
   · replace hp := gneg hp (of_decide_eq_false hb2); refine Wcf rfl (Wskip (qn (Wseq (Wseq (Wreg ?_))))); refine rM (.slice ax1 x1.length qx1) rfl rfl ?_; refine rs (ln rfl Tryz.underlying52) rfl ?_; refine rs (eqd rfl rfl) rfl ?_; refine rn (qn ?_); cases hb3 : (decide (((x1.length : Nat) : Int) = 0))
     · replace hp := gneg hp (of_decide_eq_false hb3); refine Wcf rfl (Wskip (qn (Wseq (Wreg ?_)))); refine rM (.slice ax1 x1.length qx1) rfl rfl ?_; replace hp := bind_some hp; obtain ⟨r4, hr4, hp⟩ := hp; replace hc := Ctx.p1 hc; refine rc (cl Tryz.call88 rfl rfl) rfl ?_; refine norm_square_any hrd1 hc hr4 ?_; clear hc; intro w5 hc; replace hp := bind_some hp; obtain ⟨r6, hr6, hp⟩ := hp; refine rc (cl Tryz.call87 rfl rfl) rfl ?_; refine curve_Inverse_any hc hr6 ?_; clear hc; intro w7 hc; refine rs (cvi rfl Tryz.underlying23 Tryz.underlying2) rfl ?_; refine rA (.int .i64 (IntKind.i64.wrap r6)) rfl rfl ?_; refine rn (qn (Wseq (Wreg ?_))); refine rM (.slice ax1 x1.length qx1) rfl rfl ?_; refine rs (ln rfl Tryz.underlying52) rfl ?_; replace hp := chk_some hp; obtain ⟨hg8, hp⟩ := hp; have hm10 : ((((x1.length : Nat) : Int)).toNat : Int) = ((x1.length : Nat) : Int) := Int.toNat_of_nonneg hg8.1; refine rsE (Ctx.make (n := (((x1.length : Nat) : Int)).toNat) (E := (pInt .i8)) (x0 := 0) hc (by rw [hm10]; rfl) (by rw [hm10]; rfl) Tryz.underlying24 (i := Tryz.t45) rfl rfl rfl rfl rfl rfl (fun _ _ => rfl) (by omega)) rfl ?_; clear hc; rintro _ w12 ⟨a9, rfl, hc⟩; refine rA (.slice a9 ((((x1.length : Nat) : Int)).toNat) ((((x1.length : Nat) : Int)).toNat)) rfl rfl ?_; refine rn (qn (Wseq (Wseq (Wreg ?_)))); refine rM (.slice ax1 x1.length qx1) rfl rfl ?_; refine rs (ln rfl Tryz.underlying52) rfl ?_; refine rM (.int .i64 0) rfl rfl ?_; refine rn (qn (Wblk ?_)); refine Wloop [8, 9, 32, 33, 34, 35, 36, 37, 38, 39, 40, 41, 42, 43, 44, 45, 46, 47, 48, 49, 50, 51, 52] [32] (fun m vs w' => ∃ j13 : (List Int), ∃ j17 : Int, vs = [.int .i64 j17] ∧ norm_Norm.L1 x0 x1 r6 m j13 j17 = some r ∧ Ctx w' (Own (pInt .i8) 45 (.slice a9 ((((x1.length : Nat) : Int)).toNat) ((((x1.length : Nat) : Int)).toNat)) j13 :: P1 :: P0 :: Fr)) N ?_ ?_
       · exact ⟨(List.replicate (((x1.length : Nat) : Int)).toNat 0), 0, rfl, hp, hc⟩
       · clear hp hc; intro m vs u w18 hJ; obtain ⟨j13, j17, rfl, hp, hc⟩ := hJ; rcases m with _ | m1
         · cases (show none = some r from hp)
         rw [norm_Norm.L1] at hp; refine Wseq (Wreg ?_); refine rs (lt' rfl rfl) rfl ?_; refine rn (qn (Wseq ?_)); cases hb19 : (decide (j17 < ((x1.length : Nat) : Int)))
         · replace hp := gneg hp (of_decide_eq_false hb19); refine Wcf rfl (Wexit (qx (qx (be (qn (Wseq (Wreg ?_))))))); refine rM (.slice a9 ((((x1.length : Nat) : Int)).toNat) ((((x1.length : Nat) : Int)).toNat)) rfl rfl ?_; refine rA (.slice a9 ((((x1.length : Nat) : Int)).toNat) ((((x1.length : Nat) : Int)).toNat)) rfl rfl ?_; refine rA (.int .i64 0) rfl rfl ?_; refine rn (qn (Wret ?_)); replace hc := Ctx.p2 (Ctx.p2 (Ctx.p1 hc)); injection hp with hp; subst hp; refine f2 (v := .slice a9 ((((x1.length : Nat) : Int)).toNat) ((((x1.length : Nat) : Int)).toNat)) (u := .int .i64 0) Tryz.results64 Tryz.ntmps64 rfl rfl ?_; exact ⟨_, rfl, k _ _ _ _ hc⟩
         · replace hp := gpos hp (of_decide_eq_true hb19); refine Wct rfl (Wskip (qn (Wseq (Wblk (Wseq (Wreg ?_)))))); refine rM (.int .i64 j17) rfl rfl ?_; replace hp := bind_some hp; obtain ⟨y20, hy20, hp⟩ := hp; obtain ⟨b23, o24, u25, hi21, hi22⟩ := Ctx.rdAt hc (k := 1) rfl rfl hrd1 hy20; subst u25; refine rs (ixx rfl rfl Tryz.underlying52 Tryz.sizeOf21 hi21 hi22 rfl) rfl ?_; replace hc := Ctx.rdCell hc (k := 1) rfl rfl hrd1 hy20; obtain ⟨cs26, hc, hcell27⟩ := hc; replace hc := Ctx.holdC hc; obtain ⟨u28, hc⟩ := hc; subst u28; refine rs (ld rfl Tryz.isAgg21 (hcell27 0 _ rfl)) rfl ?_; refine rA (.int .i64 j17) rfl rfl ?_; refine rA (.int .i32 y20) rfl rfl ?_; refine rn (qn ?_); replace hc := hc.drew; have hF : ∀ j, free [0, 0, 0, 4, 0, 28, 0, 0, 192, 448, 960, 2044, 4092, 8188, 16383, 32767] 0 j = true → (fun j w' => (j = 9 → PinRow (pInt .i8) ax0 x0 w') ∧ True) j (World.drew w18) := fun j hj => ⟨fun _ => PinRow.of hc (k := 2) rfl rfl hrd0 (fun _ _ _ _ _ _ _ h1 h2 => h1.trans h2.symm), trivial⟩; refine Wdrw (fun j w' => (j = 9 → PinRow (pInt .i8) ax0 x0 w') ∧ True) [0, 0, 0, 4, 0, 28, 0, 0, 192, 448, 960, 2044, 4092, 8188, 16383, 32767] 0 0 rfl (by kernel_rfl) (hF) ?_; generalize hw : World.drew w18 = w29 at *; clear hw; refine dM (.slice a9 ((((x1.length : Nat) : Int)).toNat) ((((x1.length : Nat) : Int)).toNat)) rfl rfl rfl ?_; refine dM (.int .i64 j17) rfl rfl rfl ?_; refine dM (.int .i32 y20) rfl rfl rfl ?_; replace hp := bind_some hp; obtain ⟨r30, hr30, hp⟩ := hp; refine dc (cl Tryz.call91 rfl rfl) rfl rfl ?_; refine norm_tame_any hc hr30 ?_; clear hc; intro w31 hc; refine ⟨fun j hj hb => ⟨fun _ => PinRow.of hc (k := 2) rfl rfl hrd0 (fun _ _ _ _ _ _ _ h1 h2 => h1.trans h2.symm), trivial⟩, ?_⟩; refine dM (.int .i64 (IntKind.i64.wrap r6)) rfl rfl rfl ?_; refine ds rfl (fun w' hF => mlw rfl rfl) rfl ?_; refine dM (.slice ax0 x0.length qx0) rfl rfl rfl ?_; refine dM (.int .i64 j17) rfl rfl rfl ?_; replace hp := bind_some hp; obtain ⟨y32, hy32, hp⟩ := hp; obtain ⟨b35, o36, u37, hi33, hi34⟩ := Ctx.rdAt hc (k := 2) rfl rfl hrd0 hy32; subst u37; refine ds rfl (fun w' hF => ixx rfl rfl Tryz.underlying24 Tryz.sizeOf45 hi33 hi34 rfl) rfl ?_; replace hc := Ctx.rdCell hc (k := 2) rfl rfl hrd0 hy32; obtain ⟨cs38, hc, hcell39⟩ := hc; replace hc := Ctx.holdC hc; obtain ⟨u40, hc⟩ := hc; subst u40; refine ds rfl (fun w' hF => ld rfl Tryz.isAgg45 ((hF.1 rfl) _ _ _ _ hy32 rfl w' (fun _ => True) _ rfl 0 _ rfl)) rfl ?_; refine ds rfl (fun w' hF => cvi rfl Tryz.underlying45 Tryz.underlying2) rfl ?_; refine ds rfl (fun w' hF => mlw rfl rfl) rfl ?_; replace hp := bind_some hp; obtain ⟨r41, hr41, hp⟩ := hp; refine dc (cl Tryz.call90 rfl rfl) rfl rfl ?_; refine round_Shift_any hc hr41 ?_; clear hc; intro w42 hc; refine ⟨fun j hj hb => ⟨fun e => (by subst e; exact absurd hj (by decide)), trivial⟩, ?_⟩; replace hp := bind_some hp; obtain ⟨r43, hr43, hp⟩ := hp; refine dc (cl Tryz.call89 rfl rfl) rfl rfl ?_; refine round_Sat8_any hc hr43 ?_; clear hc; intro w44 hc; refine ⟨fun j hj hb => ⟨fun e => (by subst e; exact absurd hj (by decide)), trivial⟩, ?_⟩; replace hp := bind_some hp; obtain ⟨y45, hy45, hp⟩ := hp; obtain ⟨b48, o49, u50, hi46, hi47⟩ := Ctx.rdAt hc (k := 0) rfl rfl reads_own hy45; subst u50; refine ds rfl (fun w' hF => ixx rfl rfl Tryz.underlying24 Tryz.sizeOf45 hi46 hi47 rfl) rfl ?_; refine duE (Ctx.ownPutOp hc (k := 0) rfl rfl (z := y45) (z' := r43) hy45 0 rfl (u := .int .i8 r43) rfl rfl rfl Tryz.sizeOf45 (fun _ _ _ h => by cases h; rfl) rfl) rfl rfl ?_; clear hc; rintro w51 hc; replace hc := Ctx.n0 hc; refine ⟨fun j hj hb => ⟨fun e => (by subst e; exact absurd hj (by decide)), trivial⟩, ?_⟩; refine dn (bn (qn (Wreg ?_))); refine rs (adw rfl rfl) rfl ?_; refine rM (.int .i64 (IntKind.i64.wrap (j17 + 1))) rfl rfl ?_; refine rn (qn ?_); exact ⟨m1, Nat.lt_succ_self _, ⟨(j13.set (j17).toNat r43), (IntKind.i64.wrap (j17 + 1)), rfl, hp, hc⟩, (kl rfl k0)⟩
     · replace hp := gpos hp (of_decide_eq_true hb3); refine Wct rfl (Wseq (Wreg ?_)); refine rA (.slice none 0 0) rfl rfl ?_; refine rA (.int .i64 0) rfl rfl ?_; refine rn (qn (Wret (qr ?_))); replace hc := hc.nilOwn (pInt .i8) 45; injection hp with hp; subst hp; refine f2 (v := .slice none 0 0) (u := .int .i64 0) Tryz.results64 Tryz.ntmps64 rfl rfl ?_; exact ⟨_, rfl, k _ _ _ _ hc⟩
   · replace hp := gpos hp (of_decide_eq_true hb2); refine Wct rfl (Wseq (Wreg ?_)); refine rA (.slice none 0 0) rfl rfl ?_; refine rA (.int .i64 30) rfl rfl ?_; refine rn (qn (Wret (qr ?_))); replace hc := hc.nilOwn (pInt .i8) 45; injection hp with hp; subst hp; refine f2 (v := .slice none 0 0) (u := .int .i64 30) Tryz.results64 Tryz.ntmps64 rfl rfl ?_; exact ⟨_, rfl, k _ _ _ _ hc⟩
 · replace hp := gpos hp (of_decide_eq_true hb1); (iterate 3 refine r0 rfl ?_); refine rs (v := .bool true) (pkt (v := .bool true) rfl rfl) rfl ?_; refine rn (qn (Wct rfl (Wseq (Wreg ?_)))); refine rA (.slice none 0 0) rfl rfl ?_; refine rA (.int .i64 30) rfl rfl ?_; refine rn (qn (Wret (qr ?_))); replace hc := hc.nilOwn (pInt .i8) 45; injection hp with hp; subst hp; refine f2 (v := .slice none 0 0) (u := .int .i64 30) Tryz.results64 Tryz.ntmps64 rfl rfl ?_; exact ⟨_, rfl, k _ _ _ _ hc⟩

def matmul_side (x0 : Int) : Option (Bool) :=
  if x0 ≥ 0 then
    some (decide (x0 ≤ 4096))
  else
    some false

set_option maxHeartbeats 8000000 in
theorem matmul_side_any {x0 : Int} {Fr : List HP} {w : World} {r : Bool} {K : Value → World → Prop}  (hc : Ctx w (Fr)) (hp : matmul_side x0 = some r)
    (k : ∀ w', Ctx w' (Fr) → K (.bool r) w') : Calls Tryz.prog 111 #[.int .i64 x0] w (Ret K) := by
 unfold matmul_side at hp; refine Center (args := [.int .i64 x0]) (l := [(0, .int .i64 x0)]) Tryz.func111 Tryz.ntmps111 rfl rfl rfl ?_; refine Wseq (Wreg ?_); refine rA (.bool false) rfl rfl ?_; refine rn (qn (Wseq (Wreg ?_))); refine rM (.int .i64 x0) rfl rfl ?_; refine rs (ge' rfl rfl) rfl ?_; refine rM (.bool (decide (x0 ≥ 0))) rfl rfl ?_; cases hb1 : (decide (x0 ≥ 0))
 · replace hp := gneg hp (of_decide_eq_false hb1); (iterate 2 refine r0 rfl ?_); refine rs (v := .bool false) (pkf (v := .bool false) rfl rfl) rfl ?_; refine rA (.bool false) rfl rfl ?_; refine rn (qn (Wret ?_)); injection hp with hp; subst hp; refine f1 (v := .bool false) Tryz.results111 Tryz.ntmps111 rfl ?_; exact ⟨_, rfl, k _ hc⟩
 · replace hp := gpos hp (of_decide_eq_true hb1); refine rM (.int .i64 x0) rfl rfl ?_; refine rs (le' rfl rfl) rfl ?_; refine rs (v := .bool (decide (x0 ≤ 4096))) (pkt (v := .bool (decide (x0 ≤ 4096))) rfl rfl) rfl ?_; refine rA (.bool (decide (x0 ≤ 4096))) rfl rfl ?_; refine rn (qn (Wret ?_)); injection hp with hp; subst hp; refine f1 (v := .bool (decide (x0 ≤ 4096))) Tryz.results111 Tryz.ntmps111 rfl ?_; exact ⟨_, rfl, k _ hc⟩

def matmul_wrong (x0 : S_api_Mat) : Option (Bool) :=
  (matmul_side x0.Rows).bind fun r8 =>
  if r8 = true then
    (matmul_side x0.Cols).bind fun r11 =>
    if r11 = true then
      if ((x0.V.length : Nat) : Int) ≠ (IntKind.i64.wrap (x0.Rows * x0.Cols)) then
        some true
      else
        some (decide (((x0.V.length : Nat) : Int) > 1048576))
    else
      some true
  else
    some true

set_option maxHeartbeats 8000000 in
theorem matmul_wrong_any {x0 : S_api_Mat} {a1 : Option Addr} {n2 : Nat} {q3 : Nat} {Fr : List HP} {w : World} {r : Bool} {K : Value → World → Prop}  (hc : Ctx w (Hold (pRo (pInt .i8)) [.slice a1 n2 q3] x0.V :: Fr)) (hp : matmul_wrong x0 = some r)
    (k : ∀ w', Ctx w' (Fr) → K (.bool r) w') : Calls Tryz.prog 92 #[.agg #[.int .i64 x0.Rows, .int .i64 x0.Cols, .slice a1 n2 q3]] w (Ret K) := by
 unfold matmul_wrong at hp; refine Center (args := [.agg #[.int .i64 x0.Rows, .int .i64 x0.Cols, .slice a1 n2 q3]]) (l := [(0, .agg #[.int .i64 x0.Rows, .int .i64 x0.Cols, .slice a1 n2 q3])]) Tryz.func92 Tryz.ntmps92 rfl rfl rfl ?_; obtain ⟨u4, _⟩ := Ctx.rdLen hc (k := 0) rfl rfl reads_ro; subst u4; refine Wseq (Wreg ?_); refine rsE (Ctx.boxOp (cs := (S_api_Mat.cz x0 a1 q3)) (v := .agg (S_api_Mat.cz x0 a1 q3).toArray) hc rfl rfl) rfl ?_; clear hc; rintro _ w7 ⟨b5, rfl, hc⟩; refine rA (.bool false) rfl rfl ?_; refine rn (qn (Wseq (Wreg ?_))); refine rs (v := .pointer (some ⟨b5, 0, none⟩)) (fax 0 rfl Tryz.underlying32 rfl Tryz.sizeOf3 rfl rfl rfl) rfl ?_; refine rs (ld rfl Tryz.isAgg3 (Ctx.cell hc (k := 0) rfl rfl rfl)) rfl ?_; replace hp := bind_some hp; obtain ⟨r8, hr8, hp⟩ := hp; refine rc (cl Tryz.call111 rfl rfl) rfl ?_; refine matmul_side_any hc hr8 ?_; clear hc; intro w9 hc; cases hb10 : r8
 · replace hp := gneg hp (by rw [hb10]; exact Bool.false_ne_true); subst hb10; refine rs (ntf rfl) rfl ?_; refine rM (.bool true) rfl rfl ?_; (iterate 4 refine r0 rfl ?_); refine rs (v := .bool true) (pkt (v := .bool true) rfl rfl) rfl ?_; refine rM (.bool true) rfl rfl ?_; (iterate 9 refine r0 rfl ?_); refine rs (v := .bool true) (pkt (v := .bool true) rfl rfl) rfl ?_; refine rM (.bool true) rfl rfl ?_; (iterate 4 refine r0 rfl ?_); refine rs (v := .bool true) (pkt (v := .bool true) rfl rfl) rfl ?_; refine rA (.bool true) rfl rfl ?_; refine rn (qn (Wret ?_)); replace hc := Ctx.r0 (Ctx.r1 hc); injection hp with hp; subst hp; refine f1 (v := .bool true) Tryz.results92 Tryz.ntmps92 rfl ?_; exact ⟨_, rfl, k _ hc⟩
 · replace hp := gpos hp hb10; subst hb10; refine rs (ntt rfl) rfl ?_; refine rM (.bool false) rfl rfl ?_; refine rs (v := .pointer (some ⟨b5, 1, none⟩)) (fax 1 rfl Tryz.underlying32 rfl Tryz.sizeOf3 rfl rfl rfl) rfl ?_; refine rs (ld rfl Tryz.isAgg3 (Ctx.cell hc (k := 0) rfl rfl rfl)) rfl ?_; replace hp := bind_some hp; obtain ⟨r11, hr11, hp⟩ := hp; refine rc (cl Tryz.call111 rfl rfl) rfl ?_; refine matmul_side_any hc hr11 ?_; clear hc; intro w12 hc; cases hb13 : r11
   · replace hp := gneg hp (by rw [hb13]; exact Bool.false_ne_true); subst hb13; refine rs (ntf rfl) rfl ?_; refine rs (v := .bool true) (pkf (v := .bool true) rfl rfl) rfl ?_; refine rM (.bool true) rfl rfl ?_; (iterate 9 refine r0 rfl ?_); refine rs (v := .bool true) (pkt (v := .bool true) rfl rfl) rfl ?_; refine rM (.bool true) rfl rfl ?_; (iterate 4 refine r0 rfl ?_); refine rs (v := .bool true) (pkt (v := .bool true) rfl rfl) rfl ?_; refine rA (.bool true) rfl rfl ?_; refine rn (qn (Wret ?_)); replace hc := Ctx.r0 (Ctx.r1 hc); injection hp with hp; subst hp; refine f1 (v := .bool true) Tryz.results92 Tryz.ntmps92 rfl ?_; exact ⟨_, rfl, k _ hc⟩
   · replace hp := gpos hp hb13; subst hb13; refine rs (ntt rfl) rfl ?_; refine rs (v := .bool false) (pkf (v := .bool false) rfl rfl) rfl ?_; refine rM (.bool false) rfl rfl ?_; refine rs (v := .pointer (some ⟨b5, 2, none⟩)) (fax 2 rfl Tryz.underlying32 rfl Tryz.sizeOf24 rfl rfl rfl) rfl ?_; refine rs (ld rfl Tryz.isAgg24 (Ctx.cell hc (k := 0) rfl rfl rfl)) rfl ?_; refine rs (ln rfl Tryz.underlying24) rfl ?_; refine rs (v := .pointer (some ⟨b5, 0, none⟩)) (fax 0 rfl Tryz.underlying32 rfl Tryz.sizeOf3 rfl rfl rfl) rfl ?_; refine rs (ld rfl Tryz.isAgg3 (Ctx.cell hc (k := 0) rfl rfl rfl)) rfl ?_; refine rs (v := .pointer (some ⟨b5, 1, none⟩)) (fax 1 rfl Tryz.underlying32 rfl Tryz.sizeOf3 rfl rfl rfl) rfl ?_; refine rs (ld rfl Tryz.isAgg3 (Ctx.cell hc (k := 0) rfl rfl rfl)) rfl ?_; refine rs (mlw rfl rfl) rfl ?_; refine rs (ned rfl rfl) rfl ?_; refine rs (v := .bool (decide (((x0.V.length : Nat) : Int) ≠ (IntKind.i64.wrap (x0.Rows * x0.Cols))))) (pkf (v := .bool (decide (((x0.V.length : Nat) : Int) ≠ (IntKind.i64.wrap (x0.Rows * x0.Cols))))) rfl rfl) rfl ?_; refine rM (.bool (decide (((x0.V.length : Nat) : Int) ≠ (IntKind.i64.wrap (x0.Rows * x0.Cols))))) rfl rfl ?_; cases hb14 : (decide (((x0.V.length : Nat) : Int) ≠ (IntKind.i64.wrap (x0.Rows * x0.Cols))))
     · replace hp := gneg hp (of_decide_eq_false hb14); refine rs (v := .pointer (some ⟨b5, 2, none⟩)) (fax 2 rfl Tryz.underlying32 rfl Tryz.sizeOf24 rfl rfl rfl) rfl ?_; refine rs (ld rfl Tryz.isAgg24 (Ctx.cell hc (k := 0) rfl rfl rfl)) rfl ?_; refine rs (ln rfl Tryz.underlying24) rfl ?_; refine rs (gt' rfl rfl) rfl ?_; refine rs (v := .bool (decide (((x0.V.length : Nat) : Int) > 1048576))) (pkf (v := .bool (decide (((x0.V.length : Nat) : Int) > 1048576))) rfl rfl) rfl ?_; refine rA (.bool (decide (((x0.V.length : Nat) : Int) > 1048576))) rfl rfl ?_; refine rn (qn (Wret ?_)); replace hc := Ctx.r0 (Ctx.r1 hc); injection hp with hp; subst hp; refine f1 (v := .bool (decide (((x0.V.length : Nat) : Int) > 1048576))) Tryz.results92 Tryz.ntmps92 rfl ?_; exact ⟨_, rfl, k _ hc⟩
     · replace hp := gpos hp (of_decide_eq_true hb14); (iterate 4 refine r0 rfl ?_); refine rs (v := .bool true) (pkt (v := .bool true) rfl rfl) rfl ?_; refine rA (.bool true) rfl rfl ?_; refine rn (qn (Wret ?_)); replace hc := Ctx.r0 (Ctx.r1 hc); injection hp with hp; subst hp; refine f1 (v := .bool true) Tryz.results92 Tryz.ntmps92 rfl ?_; exact ⟨_, rfl, k _ hc⟩

def round_Dot.L1 (x0 : (List Int)) (x1 : (List Int)) : Nat → Int → Int → Option (Int)
  | 0, _, _ => none
  | m1 + 1, j1, j2 =>
    if j2 < (min ((x0.length : Nat) : Int) ((x1.length : Nat) : Int)) then
      (idx x0 j2).bind fun y6 =>
      (idx x1 j2).bind fun y15 =>
      (round_Dot.L1 x0 x1 m1) (IntKind.i32.wrap (j1 + (IntKind.i32.wrap ((IntKind.i32.wrap y6) * (IntKind.i32.wrap y15))))) (IntKind.i64.wrap (j2 + 1))
    else
      some j1

def round_Dot (N : Nat) (x0 : (List Int)) (x1 : (List Int)) : Option (Int) :=
  round_Dot.L1 x0 x1 N 0 0

set_option maxHeartbeats 8000000 in
theorem round_Dot_any {N : Nat} {x0 : (List Int)} {ax0 : Option Addr} {nx0 : Nat} {qx0 : Nat} {P0 : HP} {x1 : (List Int)} {ax1 : Option Addr} {nx1 : Nat} {qx1 : Nat} {P1 : HP} {Fr : List HP} {w : World} {r : Int} {K : Value → World → Prop} (hrd0 : Reads P0 (pInt .i8) (.slice ax0 nx0 qx0) x0) (hrd1 : Reads P1 (pInt .i8) (.slice ax1 nx1 qx1) x1) (hc : Ctx w (P0 :: P1 :: Fr)) (hp : round_Dot N x0 x1 = some r)
    (k : ∀ w', Ctx w' (P0 :: P1 :: Fr) → K (.int .i32 r) w') : Calls Tryz.prog 93 #[.slice ax0 nx0 qx0, .slice ax1 nx1 qx1] w (Ret K) := by
 unfold round_Dot at hp; refine Center (args := [.slice ax0 nx0 qx0, .slice ax1 nx1 qx1]) (l := [(0, .slice ax0 nx0 qx0), (1, .slice ax1 nx1 qx1)]) Tryz.func93 Tryz.ntmps93 rfl rfl rfl ?_; obtain ⟨hn0, _⟩ := Ctx.rdLen hc (k := 0) rfl rfl hrd0; subst hn0; obtain ⟨hn1, _⟩ := Ctx.rdLen hc (k := 1) rfl rfl hrd1; subst hn1; refine Wseq (Wreg ?_); refine rA (.int .i32 0) rfl rfl ?_; refine rn (qn (Wseq (Wreg ?_))); refine rA (.int .i32 0) rfl rfl ?_; refine rn (qn (Wseq (Wseq (Wreg ?_)))); refine rM (.slice ax0 x0.length qx0) rfl rfl ?_; refine rs (ln rfl Tryz.underlying24) rfl ?_; refine rM (.slice ax1 x1.length qx1) rfl rfl ?_; refine rs (ln rfl Tryz.underlying24) rfl ?_; refine rs (v := .int .i64 (min ((x0.length : Nat) : Int) ((x1.length : Nat) : Int))) (bmn rfl rfl Tryz.underlying3) rfl ?_; refine rM (.int .i64 0) rfl rfl ?_; refine rn (qn (Wblk ?_)); refine Wloop [5, 6, 12, 13, 14, 15, 16, 17, 18, 19, 20, 21, 22, 23, 24, 25, 26, 27, 28] [5, 12] (fun m vs w' => ∃ j1 : Int, ∃ j2 : Int, vs = [.int .i32 j1, .int .i64 j2] ∧ round_Dot.L1 x0 x1 m j1 j2 = some r ∧ Ctx w' (P0 :: P1 :: Fr)) N ?_ ?_
 · exact ⟨0, 0, rfl, hp, hc⟩
 · clear hp hc; intro m vs u w3 hJ; obtain ⟨j1, j2, rfl, hp, hc⟩ := hJ; rcases m with _ | m1
   · cases (show none = some r from hp)
   rw [round_Dot.L1] at hp; refine Wseq (Wreg ?_); refine rs (lt' rfl rfl) rfl ?_; refine rn (qn (Wseq ?_)); cases hb4 : (decide (j2 < (min ((x0.length : Nat) : Int) ((x1.length : Nat) : Int))))
   · replace hp := gneg hp (of_decide_eq_false hb4); refine Wcf rfl (Wexit (qx (qx (be (qn (Wseq (Wreg ?_))))))); refine rM (.int .i32 j1) rfl rfl ?_; refine rA (.int .i32 j1) rfl rfl ?_; refine rn (qn (Wret ?_)); injection hp with hp; subst hp; refine f1 (v := .int .i32 j1) Tryz.results93 Tryz.ntmps93 rfl ?_; exact ⟨_, rfl, k _ hc⟩
   · replace hp := gpos hp (of_decide_eq_true hb4); refine Wct rfl (Wskip (qn (Wseq (Wblk (Wseq (Wreg ?_)))))); refine rM (.int .i64 j2) rfl rfl ?_; refine rA (.int .i64 j2) rfl rfl ?_; refine rn (qn ?_); replace hc := hc.drew; refine Wdrw (fun _ w' => w' = World.drew w3) [0, 0, 0, 6, 14, 30, 0, 0, 192, 448, 960, 2046, 4095, 8191] 0 0 rfl (by kernel_rfl) (fun _ _ => rfl) ?_; generalize hw : World.drew w3 = w5 at *; clear hw; refine dM (.int .i32 j1) rfl rfl rfl ?_; refine dM (.slice ax0 x0.length qx0) rfl rfl rfl ?_; refine dM (.int .i64 j2) rfl rfl rfl ?_; replace hp := bind_some hp; obtain ⟨y6, hy6, hp⟩ := hp; obtain ⟨b9, o10, u11, hi7, hi8⟩ := Ctx.rdAt hc (k := 0) rfl rfl hrd0 hy6; subst u11; refine dE (ixx rfl rfl Tryz.underlying24 Tryz.sizeOf45 hi7 hi8 rfl) rfl rfl ?_; replace hc := Ctx.rdCell hc (k := 0) rfl rfl hrd0 hy6; obtain ⟨cs12, hc, hcell13⟩ := hc; replace hc := Ctx.holdC hc; obtain ⟨u14, hc⟩ := hc; subst u14; refine dE (ld rfl Tryz.isAgg45 (hcell13 0 _ rfl)) rfl rfl ?_; refine dE (cvi rfl Tryz.underlying45 Tryz.underlying21) rfl rfl ?_; refine dM (.slice ax1 x1.length qx1) rfl rfl rfl ?_; refine dM (.int .i64 j2) rfl rfl rfl ?_; replace hp := bind_some hp; obtain ⟨y15, hy15, hp⟩ := hp; obtain ⟨b18, o19, u20, hi16, hi17⟩ := Ctx.rdAt hc (k := 1) rfl rfl hrd1 hy15; subst u20; refine dE (ixx rfl rfl Tryz.underlying24 Tryz.sizeOf45 hi16 hi17 rfl) rfl rfl ?_; replace hc := Ctx.rdCell hc (k := 1) rfl rfl hrd1 hy15; obtain ⟨cs21, hc, hcell22⟩ := hc; replace hc := Ctx.holdC hc; obtain ⟨u23, hc⟩ := hc; subst u23; refine dE (ld rfl Tryz.isAgg45 (hcell22 0 _ rfl)) rfl rfl ?_; refine dE (cvi rfl Tryz.underlying45 Tryz.underlying21) rfl rfl ?_; refine dE (mlw rfl rfl) rfl rfl ?_; refine dE (adw rfl rfl) rfl rfl ?_; refine dA (.int .i32 (IntKind.i32.wrap (j1 + (IntKind.i32.wrap ((IntKind.i32.wrap y6) * (IntKind.i32.wrap y15)))))) rfl rfl rfl ?_; refine dn (bn (qn (Wreg ?_))); refine rs (adw rfl rfl) rfl ?_; refine rM (.int .i64 (IntKind.i64.wrap (j2 + 1))) rfl rfl ?_; refine rn (qn ?_); exact ⟨m1, Nat.lt_succ_self _, ⟨(IntKind.i32.wrap (j1 + (IntKind.i32.wrap ((IntKind.i32.wrap y6) * (IntKind.i32.wrap y15))))), (IntKind.i64.wrap (j2 + 1)), rfl, hp, hc⟩, (kl rfl k0)⟩

def matmul_Apply.L1 (N : Nat) (x0 : S_api_Mat) (x1 : (List Int)) : Nat → (List Int) → Int → Option ((List Int) × Int)
  | 0, _, _ => none
  | m1 + 1, j17, j21 =>
    if j21 < (((x0.Rows).toNat : Nat) : Int) then
      chk (0 ≤ (IntKind.i64.wrap (j21 * x0.Cols)) ∧ (IntKind.i64.wrap (j21 * x0.Cols)) ≤ (IntKind.i64.wrap ((IntKind.i64.wrap (j21 + 1)) * x0.Cols)) ∧ (IntKind.i64.wrap ((IntKind.i64.wrap (j21 + 1)) * x0.Cols)) ≤ ((x0.V.length : Nat) : Int)) <|
      (round_Dot N ((x0.V.take ((IntKind.i64.wrap ((IntKind.i64.wrap (j21 + 1)) * x0.Cols))).toNat).drop ((IntKind.i64.wrap (j21 * x0.Cols))).toNat) x1).bind fun r30 =>
      (idx j17 j21).bind fun y32 =>
      (matmul_Apply.L1 N x0 x1 m1) (j17.set (j21).toNat r30) (IntKind.i64.wrap (j21 + 1))
    else
      some (j17, 0)

def matmul_Apply (N : Nat) (x0 : S_api_Mat) (x1 : (List Int)) : Option ((List Int) × Int) :=
  (matmul_wrong (⟨x0.Rows, x0.Cols, x0.V⟩ : S_api_Mat)).bind fun r8 =>
  if r8 = true then
    some ([], 30)
  else
    if ((x1.length : Nat) : Int) ≠ x0.Cols then
      some ([], 30)
    else
      chk (0 ≤ x0.Rows ∧ x0.Rows ≤ 4294967296) <|
      matmul_Apply.L1 N x0 x1 N (List.replicate (x0.Rows).toNat 0) 0

set_option maxHeartbeats 8000000 in
theorem matmul_Apply_any {N : Nat} {x0 : S_api_Mat} {a1 : Option Addr} {n2 : Nat} {q3 : Nat} {x1 : (List Int)} {ax1 : Option Addr} {nx1 : Nat} {qx1 : Nat} {P1 : HP} {Fr : List HP} {w : World} {r : (List Int) × Int} {K : Value → World → Prop} (hrd1 : Reads P1 (pInt .i8) (.slice ax1 nx1 qx1) x1) (hc : Ctx w (Hold (pRo (pInt .i8)) [.slice a1 n2 q3] x0.V :: P1 :: Fr)) (hp : matmul_Apply N x0 x1 = some r)
    (k : ∀ (a39 : Option Addr) (n40 : Nat) (q41 : Nat) w', Ctx w' (Own (pInt .i32) 21 (.slice a39 n40 q41) r.1 :: P1 :: Fr) → K (.tuple #[.slice a39 n40 q41, .int .i64 r.2]) w') : Calls Tryz.prog 65 #[.agg #[.int .i64 x0.Rows, .int .i64 x0.Cols, .slice a1 n2 q3], .slice ax1 nx1 qx1] w (Ret K) := by
 unfold matmul_Apply at hp; refine Center (args := [.agg #[.int .i64 x0.Rows, .int .i64 x0.Cols, .slice a1 n2 q3], .slice ax1 nx1 qx1]) (l := [(0, .agg #[.int .i64 x0.Rows, .int .i64 x0.Cols, .slice a1 n2 q3]), (1, .slice ax1 nx1 qx1)]) Tryz.func65 Tryz.ntmps65 rfl rfl rfl ?_; obtain ⟨hn1, _⟩ := Ctx.rdLen hc (k := 1) rfl rfl hrd1; subst hn1; obtain ⟨u4, _⟩ := Ctx.rdLen hc (k := 0) rfl rfl reads_ro; subst u4; refine Wseq (Wreg ?_); refine rsE (Ctx.boxOp (cs := (S_api_Mat.cz x0 a1 q3)) (v := .agg (S_api_Mat.cz x0 a1 q3).toArray) hc rfl rfl) rfl ?_; clear hc; rintro _ w7 ⟨b5, rfl, hc⟩; refine rA (.slice none 0 0) rfl rfl ?_; refine rA (.int .i64 0) rfl rfl ?_; refine rn (qn (Wseq (Wseq (Wreg ?_)))); refine rs (v := .agg (S_api_Mat.cz x0 a1 q3).toArray) (ldg rfl Tryz.isAgg32 Tryz.sizeOf32 rfl (Ctx.cells hc (k := 0) rfl rfl 0 (vs := (S_api_Mat.cz x0 a1 q3)) rfl)) rfl ?_; replace hc := hc.dup (k := 1) rfl rfl; replace hp := bind_some hp; obtain ⟨r8, hr8, hp⟩ := hp; refine rc (cl Tryz.call92 rfl rfl) rfl ?_; refine matmul_wrong_any (x0 := x0) hc hr8 ?_; clear hc; intro w9 hc; refine rM (.bool r8) rfl rfl ?_; cases hb10 : r8
 · replace hp := gneg hp (by rw [hb10]; exact Bool.false_ne_true); subst hb10; refine rM (.slice ax1 x1.length qx1) rfl rfl ?_; refine rs (ln rfl Tryz.underlying24) rfl ?_; refine rs (v := .pointer (some ⟨b5, 1, none⟩)) (fax 1 rfl Tryz.underlying32 rfl Tryz.sizeOf3 rfl rfl rfl) rfl ?_; refine rs (ld rfl Tryz.isAgg3 (Ctx.cell hc (k := 0) rfl rfl rfl)) rfl ?_; refine rs (ned rfl rfl) rfl ?_; refine rs (v := .bool (decide (((x1.length : Nat) : Int) ≠ x0.Cols))) (pkf (v := .bool (decide (((x1.length : Nat) : Int) ≠ x0.Cols))) rfl rfl) rfl ?_; refine rn (qn ?_); cases hb11 : (decide (((x1.length : Nat) : Int) ≠ x0.Cols))
   · replace hp := gneg hp (of_decide_eq_false hb11); refine Wcf rfl (Wskip (qn (Wseq (Wreg ?_)))); refine rs (v := .pointer (some ⟨b5, 0, none⟩)) (fax 0 rfl Tryz.underlying32 rfl Tryz.sizeOf3 rfl rfl rfl) rfl ?_; refine rs (ld rfl Tryz.isAgg3 (Ctx.cell hc (k := 0) rfl rfl rfl)) rfl ?_; replace hp := chk_some hp; obtain ⟨hg12, hp⟩ := hp; have hm14 : ((x0.Rows).toNat : Int) = x0.Rows := Int.toNat_of_nonneg hg12.1; refine rsE (Ctx.make (n := (x0.Rows).toNat) (E := (pInt .i32)) (x0 := 0) hc (by rw [hm14]; rfl) (by rw [hm14]; rfl) Tryz.underlying52 (i := Tryz.t21) rfl rfl rfl rfl rfl rfl (fun _ _ => rfl) (by omega)) rfl ?_; clear hc; rintro _ w16 ⟨a13, rfl, hc⟩; refine rA (.slice a13 ((x0.Rows).toNat) ((x0.Rows).toNat)) rfl rfl ?_; refine rn (qn (Wseq (Wseq (Wreg ?_)))); refine rM (.slice a13 ((x0.Rows).toNat) ((x0.Rows).toNat)) rfl rfl ?_; refine rs (v := .int .i64 (((x0.Rows).toNat : Nat) : Int)) (ln rfl Tryz.underlying52) rfl ?_; refine rM (.int .i64 0) rfl rfl ?_; refine rn (qn (Wblk ?_)); refine Wloop [7, 22, 23, 24, 25, 26, 27, 28, 29, 30, 31, 32, 33, 34, 35, 36, 37, 38, 39, 40, 41, 42] [22] (fun m vs w' => ∃ j17 : (List Int), ∃ j21 : Int, vs = [.int .i64 j21] ∧ matmul_Apply.L1 N x0 x1 m j17 j21 = some r ∧ Ctx w' (Own (pInt .i32) 21 (.slice a13 ((x0.Rows).toNat) ((x0.Rows).toNat)) j17 :: B b5 (S_api_Mat.cz x0 a1 q3) 32 :: Hold (pRo (pInt .i8)) [.slice a1 x0.V.length q3] x0.V :: P1 :: Fr)) N ?_ ?_
     · exact ⟨(List.replicate (x0.Rows).toNat 0), 0, rfl, hp, hc⟩
     · clear hp hc; intro m vs u w22 hJ; obtain ⟨j17, j21, rfl, hp, hc⟩ := hJ; rcases m with _ | m1
       · cases (show none = some r from hp)
       rw [matmul_Apply.L1] at hp; refine Wseq (Wreg ?_); refine rs (lt' rfl rfl) rfl ?_; refine rn (qn (Wseq ?_)); cases hb23 : (decide (j21 < (((x0.Rows).toNat : Nat) : Int)))
       · replace hp := gneg hp (of_decide_eq_false hb23); refine Wcf rfl (Wexit (qx (qx (be (qn (Wseq (Wreg ?_))))))); refine rM (.slice a13 ((x0.Rows).toNat) ((x0.Rows).toNat)) rfl rfl ?_; refine rA (.slice a13 ((x0.Rows).toNat) ((x0.Rows).toNat)) rfl rfl ?_; refine rA (.int .i64 0) rfl rfl ?_; refine rn (qn (Wret ?_)); replace hc := Ctx.r1 (Ctx.r2 hc); injection hp with hp; subst hp; refine f2 (v := .slice a13 ((x0.Rows).toNat) ((x0.Rows).toNat)) (u := .int .i64 0) Tryz.results65 Tryz.ntmps65 rfl rfl ?_; exact ⟨_, rfl, k _ _ _ _ hc⟩
       · replace hp := gpos hp (of_decide_eq_true hb23); refine Wct rfl (Wskip (qn (Wseq (Wblk (Wseq (Wreg ?_)))))); refine rM (.int .i64 j21) rfl rfl ?_; refine rA (.int .i64 j21) rfl rfl ?_; refine rn (qn (Wreg ?_)); refine rM (.slice a13 ((x0.Rows).toNat) ((x0.Rows).toNat)) rfl rfl ?_; refine rM (.int .i64 j21) rfl rfl ?_; refine rs (v := .pointer (some ⟨b5, 2, none⟩)) (fax 2 rfl Tryz.underlying32 rfl Tryz.sizeOf24 rfl rfl rfl) rfl ?_; refine rs (ld rfl Tryz.isAgg24 (Ctx.cell hc (k := 1) rfl rfl rfl)) rfl ?_; refine rM (.int .i64 j21) rfl rfl ?_; refine rs (v := .pointer (some ⟨b5, 1, none⟩)) (fax 1 rfl Tryz.underlying32 rfl Tryz.sizeOf3 rfl rfl rfl) rfl ?_; refine rs (ld rfl Tryz.isAgg3 (Ctx.cell hc (k := 1) rfl rfl rfl)) rfl ?_; refine rs (mlw rfl rfl) rfl ?_; refine rM (.int .i64 j21) rfl rfl ?_; refine rs (adw rfl rfl) rfl ?_; refine rs (v := .pointer (some ⟨b5, 1, none⟩)) (fax 1 rfl Tryz.underlying32 rfl Tryz.sizeOf3 rfl rfl rfl) rfl ?_; refine rs (ld rfl Tryz.isAgg3 (Ctx.cell hc (k := 1) rfl rfl rfl)) rfl ?_; refine rs (mlw rfl rfl) rfl ?_; replace hp := chk_some hp; obtain ⟨hg24, hp⟩ := hp; refine rsE (Ctx.subOp (li := some (IntKind.i64.wrap (j21 * x0.Cols))) (hi' := some (IntKind.i64.wrap ((IntKind.i64.wrap (j21 + 1)) * x0.Cols))) hc (k := 2) rfl rfl reads_ro rfl ⟨_, rfl⟩ ⟨_, rfl⟩ Tryz.underlying24 Tryz.sizeOf45 hg24) rfl ?_; rintro _ _ ⟨rfl, a25, q26, rfl, rd27, ea28, eq29⟩; replace rd27 : Reads (Hold (pRo (pInt .i8)) [.slice a1 x0.V.length q3] x0.V) (pInt .i8) (.slice a25 (((IntKind.i64.wrap ((IntKind.i64.wrap (j21 + 1)) * x0.Cols))).toNat - ((IntKind.i64.wrap (j21 * x0.Cols))).toNat) q26) ((x0.V.take ((IntKind.i64.wrap ((IntKind.i64.wrap (j21 + 1)) * x0.Cols))).toNat).drop ((IntKind.i64.wrap (j21 * x0.Cols))).toNat) := rd27; refine rM (.slice ax1 x1.length qx1) rfl rfl ?_; replace hc := hc.dup (k := 2) rfl rfl; replace hp := bind_some hp; obtain ⟨r30, hr30, hp⟩ := hp; replace hc := Ctx.p1 (Ctx.p4 hc); refine rc (cl Tryz.call93 rfl rfl) rfl ?_; refine round_Dot_any rd27 hrd1 hc hr30 ?_; clear hc; intro w31 hc; replace hp := bind_some hp; obtain ⟨y32, hy32, hp⟩ := hp; obtain ⟨b35, o36, u37, hi33, hi34⟩ := Ctx.rdAt hc (k := 2) rfl rfl reads_own hy32; subst u37; refine rs (ixx rfl rfl Tryz.underlying52 Tryz.sizeOf21 hi33 hi34 rfl) rfl ?_; refine ruE (Ctx.ownPutOp hc (k := 2) rfl rfl (z := y32) (z' := r30) hy32 0 rfl (u := .int .i32 r30) rfl rfl rfl Tryz.sizeOf21 (fun _ _ _ h => by cases h; rfl) rfl) rfl ?_; clear hc; rintro w38 hc; replace hc := Ctx.n2 hc; refine rn (bn (qn (Wreg ?_))); refine rs (adw rfl rfl) rfl ?_; refine rM (.int .i64 (IntKind.i64.wrap (j21 + 1))) rfl rfl ?_; refine rn (qn ?_); replace hc := Ctx.p3 (Ctx.p3 (Ctx.p3 (Ctx.r0 hc))); exact ⟨m1, Nat.lt_succ_self _, ⟨(j17.set (j21).toNat r30), (IntKind.i64.wrap (j21 + 1)), rfl, hp, hc⟩, (kl rfl k0)⟩
   · replace hp := gpos hp (of_decide_eq_true hb11); refine Wct rfl (Wseq (Wreg ?_)); refine rA (.slice none 0 0) rfl rfl ?_; refine rA (.int .i64 30) rfl rfl ?_; refine rn (qn (Wret (qr ?_))); replace hc := hc.nilOwn (pInt .i32) 21; replace hc := Ctx.r1 (Ctx.r2 hc); injection hp with hp; subst hp; refine f2 (v := .slice none 0 0) (u := .int .i64 30) Tryz.results65 Tryz.ntmps65 rfl rfl ?_; exact ⟨_, rfl, k _ _ _ _ hc⟩
 · replace hp := gpos hp hb10; subst hb10; (iterate 5 refine r0 rfl ?_); refine rs (v := .bool true) (pkt (v := .bool true) rfl rfl) rfl ?_; refine rn (qn (Wct rfl (Wseq (Wreg ?_)))); refine rA (.slice none 0 0) rfl rfl ?_; refine rA (.int .i64 30) rfl rfl ?_; refine rn (qn (Wret (qr ?_))); replace hc := hc.nilOwn (pInt .i32) 21; replace hc := Ctx.r1 (Ctx.r2 hc); injection hp with hp; subst hp; refine f2 (v := .slice none 0 0) (u := .int .i64 30) Tryz.results65 Tryz.ntmps65 rfl rfl ?_; exact ⟨_, rfl, k _ _ _ _ hc⟩

def round_Quant (x0 : Int) (x1 : Int) (x2 : Int) : Option (Int) :=
  (round_Shift (IntKind.i64.wrap ((IntKind.i64.wrap x0) * (IntKind.i64.wrap x1))) x2).bind fun r1 =>
  (round_Sat8 r1).bind fun r3 =>
  some r3

set_option maxHeartbeats 8000000 in
theorem round_Quant_any {x0 : Int} {x1 : Int} {x2 : Int} {Fr : List HP} {w : World} {r : Int} {K : Value → World → Prop}  (hc : Ctx w (Fr)) (hp : round_Quant x0 x1 x2 = some r)
    (k : ∀ w', Ctx w' (Fr) → K (.int .i8 r) w') : Calls Tryz.prog 121 #[.int .i32 x0, .int .i32 x1, .int .i64 x2] w (Ret K) := by
 unfold round_Quant at hp; refine Center (args := [.int .i32 x0, .int .i32 x1, .int .i64 x2]) (l := [(0, .int .i32 x0), (1, .int .i32 x1), (2, .int .i64 x2)]) Tryz.func121 Tryz.ntmps121 rfl rfl rfl ?_; refine Wseq (Wreg ?_); refine rA (.int .i8 0) rfl rfl ?_; refine rn (qn (Wseq (Wreg ?_))); refine rM (.int .i32 x0) rfl rfl ?_; refine rs (cvi rfl Tryz.underlying21 Tryz.underlying2) rfl ?_; refine rM (.int .i32 x1) rfl rfl ?_; refine rs (cvi rfl Tryz.underlying21 Tryz.underlying2) rfl ?_; refine rs (mlw rfl rfl) rfl ?_; refine rM (.int .i64 x2) rfl rfl ?_; replace hp := bind_some hp; obtain ⟨r1, hr1, hp⟩ := hp; refine rc (cl Tryz.call90 rfl rfl) rfl ?_; refine round_Shift_any hc hr1 ?_; clear hc; intro w2 hc; replace hp := bind_some hp; obtain ⟨r3, hr3, hp⟩ := hp; refine rc (cl Tryz.call89 rfl rfl) rfl ?_; refine round_Sat8_any hc hr3 ?_; clear hc; intro w4 hc; refine rA (.int .i8 r3) rfl rfl ?_; refine rn (qn (Wret ?_)); injection hp with hp; subst hp; refine f1 (v := .int .i8 r3) Tryz.results121 Tryz.ntmps121 rfl ?_; exact ⟨_, rfl, k _ hc⟩

def round_Quants.L1 (x0 : Int) (x1 : Int) (x2 : (List Int)) : Nat → (List Int) → Int → Option ((List Int))
  | 0, _, _ => none
  | m1 + 1, j6, j10 =>
    if j10 < ((x2.length : Nat) : Int) then
      (idx x2 j10).bind fun y13 =>
      (round_Quant y13 x0 x1).bind fun r22 =>
      (idx j6 j10).bind fun y24 =>
      (round_Quants.L1 x0 x1 x2 m1) (j6.set (j10).toNat r22) (IntKind.i64.wrap (j10 + 1))
    else
      some j6

def round_Quants (N : Nat) (x0 : Int) (x1 : Int) (x2 : (List Int)) : Option ((List Int)) :=
  chk (0 ≤ ((x2.length : Nat) : Int) ∧ ((x2.length : Nat) : Int) ≤ 4294967296) <|
  round_Quants.L1 x0 x1 x2 N (List.replicate (((x2.length : Nat) : Int)).toNat 0) 0

set_option maxHeartbeats 8000000 in
theorem round_Quants_any {N : Nat} {x0 : Int} {x1 : Int} {x2 : (List Int)} {ax2 : Option Addr} {nx2 : Nat} {qx2 : Nat} {P2 : HP} {Fr : List HP} {w : World} {r : (List Int)} {K : Value → World → Prop} (hrd2 : Reads P2 (pInt .i32) (.slice ax2 nx2 qx2) x2) (hc : Ctx w (P2 :: Fr)) (hp : round_Quants N x0 x1 x2 = some r)
    (k : ∀ (a31 : Option Addr) (n32 : Nat) (q33 : Nat) w', Ctx w' (Own (pInt .i8) 45 (.slice a31 n32 q33) r :: P2 :: Fr) → K (.slice a31 n32 q33) w') : Calls Tryz.prog 104 #[.int .i32 x0, .int .i64 x1, .slice ax2 nx2 qx2] w (Ret K) := by
 unfold round_Quants at hp; refine Center (args := [.int .i32 x0, .int .i64 x1, .slice ax2 nx2 qx2]) (l := [(0, .int .i32 x0), (1, .int .i64 x1), (2, .slice ax2 nx2 qx2)]) Tryz.func104 Tryz.ntmps104 rfl rfl rfl ?_; obtain ⟨hn2, _⟩ := Ctx.rdLen hc (k := 0) rfl rfl hrd2; subst hn2; refine Wseq (Wreg ?_); refine rA (.slice none 0 0) rfl rfl ?_; refine rn (qn (Wseq (Wreg ?_))); refine rM (.slice ax2 x2.length qx2) rfl rfl ?_; refine rs (ln rfl Tryz.underlying52) rfl ?_; replace hp := chk_some hp; obtain ⟨hg1, hp⟩ := hp; have hm3 : ((((x2.length : Nat) : Int)).toNat : Int) = ((x2.length : Nat) : Int) := Int.toNat_of_nonneg hg1.1; refine rsE (Ctx.make (n := (((x2.length : Nat) : Int)).toNat) (E := (pInt .i8)) (x0 := 0) hc (by rw [hm3]; rfl) (by rw [hm3]; rfl) Tryz.underlying24 (i := Tryz.t45) rfl rfl rfl rfl rfl rfl (fun _ _ => rfl) (by omega)) rfl ?_; clear hc; rintro _ w5 ⟨a2, rfl, hc⟩; refine rA (.slice a2 ((((x2.length : Nat) : Int)).toNat) ((((x2.length : Nat) : Int)).toNat)) rfl rfl ?_; refine rn (qn (Wseq (Wseq (Wreg ?_)))); refine rM (.slice ax2 x2.length qx2) rfl rfl ?_; refine rs (ln rfl Tryz.underlying52) rfl ?_; refine rM (.int .i64 0) rfl rfl ?_; refine rn (qn (Wblk ?_)); refine Wloop [8, 9, 15, 16, 17, 18, 19, 20, 21, 22, 23, 24, 25, 26, 27] [15] (fun m vs w' => ∃ j6 : (List Int), ∃ j10 : Int, vs = [.int .i64 j10] ∧ round_Quants.L1 x0 x1 x2 m j6 j10 = some r ∧ Ctx w' (Own (pInt .i8) 45 (.slice a2 ((((x2.length : Nat) : Int)).toNat) ((((x2.length : Nat) : Int)).toNat)) j6 :: P2 :: Fr)) N ?_ ?_
 · exact ⟨(List.replicate (((x2.length : Nat) : Int)).toNat 0), 0, rfl, hp, hc⟩
 · clear hp hc; intro m vs u w11 hJ; obtain ⟨j6, j10, rfl, hp, hc⟩ := hJ; rcases m with _ | m1
   · cases (show none = some r from hp)
   rw [round_Quants.L1] at hp; refine Wseq (Wreg ?_); refine rs (lt' rfl rfl) rfl ?_; refine rn (qn (Wseq ?_)); cases hb12 : (decide (j10 < ((x2.length : Nat) : Int)))
   · replace hp := gneg hp (of_decide_eq_false hb12); refine Wcf rfl (Wexit (qx (qx (be (qn (Wseq (Wreg ?_))))))); refine rM (.slice a2 ((((x2.length : Nat) : Int)).toNat) ((((x2.length : Nat) : Int)).toNat)) rfl rfl ?_; refine rA (.slice a2 ((((x2.length : Nat) : Int)).toNat) ((((x2.length : Nat) : Int)).toNat)) rfl rfl ?_; refine rn (qn (Wret ?_)); injection hp with hp; subst hp; refine f1 (v := .slice a2 ((((x2.length : Nat) : Int)).toNat) ((((x2.length : Nat) : Int)).toNat)) Tryz.results104 Tryz.ntmps104 rfl ?_; exact ⟨_, rfl, k _ _ _ _ hc⟩
   · replace hp := gpos hp (of_decide_eq_true hb12); refine Wct rfl (Wskip (qn (Wseq (Wblk (Wseq (Wreg ?_)))))); refine rM (.int .i64 j10) rfl rfl ?_; replace hp := bind_some hp; obtain ⟨y13, hy13, hp⟩ := hp; obtain ⟨b16, o17, u18, hi14, hi15⟩ := Ctx.rdAt hc (k := 1) rfl rfl hrd2 hy13; subst u18; refine rs (ixx rfl rfl Tryz.underlying52 Tryz.sizeOf21 hi14 hi15 rfl) rfl ?_; replace hc := Ctx.rdCell hc (k := 1) rfl rfl hrd2 hy13; obtain ⟨cs19, hc, hcell20⟩ := hc; replace hc := Ctx.holdC hc; obtain ⟨u21, hc⟩ := hc; subst u21; refine rs (ld rfl Tryz.isAgg21 (hcell20 0 _ rfl)) rfl ?_; refine rA (.int .i64 j10) rfl rfl ?_; refine rA (.int .i32 y13) rfl rfl ?_; refine rn (qn (Wreg ?_)); refine rM (.slice a2 ((((x2.length : Nat) : Int)).toNat) ((((x2.length : Nat) : Int)).toNat)) rfl rfl ?_; refine rM (.int .i64 j10) rfl rfl ?_; refine rM (.int .i32 y13) rfl rfl ?_; refine rM (.int .i32 x0) rfl rfl ?_; refine rM (.int .i64 x1) rfl rfl ?_; replace hp := bind_some hp; obtain ⟨r22, hr22, hp⟩ := hp; refine rc (cl Tryz.call121 rfl rfl) rfl ?_; refine round_Quant_any hc hr22 ?_; clear hc; intro w23 hc; replace hp := bind_some hp; obtain ⟨y24, hy24, hp⟩ := hp; obtain ⟨b27, o28, u29, hi25, hi26⟩ := Ctx.rdAt hc (k := 0) rfl rfl reads_own hy24; subst u29; refine rs (ixx rfl rfl Tryz.underlying24 Tryz.sizeOf45 hi25 hi26 rfl) rfl ?_; refine ruE (Ctx.ownPutOp hc (k := 0) rfl rfl (z := y24) (z' := r22) hy24 0 rfl (u := .int .i8 r22) rfl rfl rfl Tryz.sizeOf45 (fun _ _ _ h => by cases h; rfl) rfl) rfl ?_; clear hc; rintro w30 hc; replace hc := Ctx.n0 hc; refine rn (bn (qn (Wreg ?_))); refine rs (adw rfl rfl) rfl ?_; refine rM (.int .i64 (IntKind.i64.wrap (j10 + 1))) rfl rfl ?_; refine rn (qn ?_); exact ⟨m1, Nat.lt_succ_self _, ⟨(j6.set (j10).toNat r22), (IntKind.i64.wrap (j10 + 1)), rfl, hp, hc⟩, (kl rfl k0)⟩

def model_quants (N : Nat) (x0 : S_api_Mat) (x1 : (List Int)) : Option ((List Int)) :=
  (matmul_Apply N (⟨x0.Rows, x0.Cols, x0.V⟩ : S_api_Mat) x1).bind fun r8 =>
  (round_Quants N 1 7 r8.1).bind fun r14 =>
  some r14

set_option maxHeartbeats 8000000 in
theorem model_quants_any {N : Nat} {x0 : S_api_Mat} {a1 : Option Addr} {n2 : Nat} {q3 : Nat} {x1 : (List Int)} {ax1 : Option Addr} {nx1 : Nat} {qx1 : Nat} {P1 : HP} {Fr : List HP} {w : World} {r : (List Int)} {K : Value → World → Prop} (hrd1 : Reads P1 (pInt .i8) (.slice ax1 nx1 qx1) x1) (hc : Ctx w (Hold (pRo (pInt .i8)) [.slice a1 n2 q3] x0.V :: P1 :: Fr)) (hp : model_quants N x0 x1 = some r)
    (k : ∀ (a20 : Option Addr) (n21 : Nat) (q22 : Nat) w', Ctx w' (Own (pInt .i8) 45 (.slice a20 n21 q22) r :: P1 :: Fr) → K (.slice a20 n21 q22) w') : Calls Tryz.prog 83 #[.agg #[.int .i64 x0.Rows, .int .i64 x0.Cols, .slice a1 n2 q3], .slice ax1 nx1 qx1] w (Ret K) := by
 unfold model_quants at hp; refine Center (args := [.agg #[.int .i64 x0.Rows, .int .i64 x0.Cols, .slice a1 n2 q3], .slice ax1 nx1 qx1]) (l := [(0, .agg #[.int .i64 x0.Rows, .int .i64 x0.Cols, .slice a1 n2 q3]), (1, .slice ax1 nx1 qx1)]) Tryz.func83 Tryz.ntmps83 rfl rfl rfl ?_; obtain ⟨hn1, _⟩ := Ctx.rdLen hc (k := 1) rfl rfl hrd1; subst hn1; obtain ⟨u4, _⟩ := Ctx.rdLen hc (k := 0) rfl rfl reads_ro; subst u4; refine Wseq (Wreg ?_); refine rsE (Ctx.boxOp (cs := (S_api_Mat.cz x0 a1 q3)) (v := .agg (S_api_Mat.cz x0 a1 q3).toArray) hc rfl rfl) rfl ?_; clear hc; rintro _ w7 ⟨b5, rfl, hc⟩; refine rA (.slice none 0 0) rfl rfl ?_; refine rn (qn (Wseq (Wreg ?_))); refine rs (v := .agg (S_api_Mat.cz x0 a1 q3).toArray) (ldg rfl Tryz.isAgg32 Tryz.sizeOf32 rfl (Ctx.cells hc (k := 0) rfl rfl 0 (vs := (S_api_Mat.cz x0 a1 q3)) rfl)) rfl ?_; refine rM (.slice ax1 x1.length qx1) rfl rfl ?_; replace hc := hc.dup (k := 1) rfl rfl; replace hp := bind_some hp; obtain ⟨r8, hr8, hp⟩ := hp; replace hc := Ctx.p1 (Ctx.p3 hc); refine rc (cl Tryz.call65 rfl rfl) rfl ?_; refine matmul_Apply_any (x0 := x0) hrd1 hc hr8 ?_; clear hc; intro a9 n10 q11 w12 hc; obtain ⟨u13, _⟩ := Ctx.rdLen hc (k := 0) rfl rfl reads_own; subst u13; refine rM (.tuple #[.slice a9 r8.1.length q11, .int .i64 r8.2]) rfl rfl ?_; refine rs (ext (v := .slice a9 r8.1.length q11) rfl rfl) rfl ?_; refine rs (ext (v := .int .i64 r8.2) rfl rfl) rfl ?_; refine rA (.slice a9 r8.1.length q11) rfl rfl ?_; refine rA (.int .i64 r8.2) rfl rfl ?_; refine rn (qn (Wseq (Wreg ?_))); refine rM (.slice a9 r8.1.length q11) rfl rfl ?_; replace hp := bind_some hp; obtain ⟨r14, hr14, hp⟩ := hp; refine rc (cl Tryz.call104 rfl rfl) rfl ?_; refine round_Quants_any reads_own hc hr14 ?_; clear hc; intro a15 n16 q17 w18 hc; obtain ⟨u19, _⟩ := Ctx.rdLen hc (k := 0) rfl rfl reads_own; subst u19; refine rA (.slice a15 r14.length q17) rfl rfl ?_; refine rn (qn (Wret ?_)); replace hc := Ctx.r1 (Ctx.r3 (Ctx.r4 hc)); injection hp with hp; subst hp; refine f1 (v := .slice a15 r14.length q17) Tryz.results83 Tryz.ntmps83 rfl ?_; exact ⟨_, rfl, k _ _ _ _ hc⟩

end Go.Proofs.YtdipfegofpfhaaaGreat
end
