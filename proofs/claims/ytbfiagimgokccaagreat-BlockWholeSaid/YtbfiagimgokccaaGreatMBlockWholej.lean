/- What the law needs. -/
import Derived.Test.YtbfiagimgokccaaGreatMBlockWholei
import Derived.Test.YtbfiagimgokccaaGreatMBlockWholea
import Derived.Laws.BitsLemmas
import Derived.Lib.BitFns
section
namespace Go.Proofs.YtbfiagimgokccaaGreat
open Go Go.RowKit Go.Hp
set_option linter.unusedVariables false
set_option linter.unusedSimpArgs false
set_option maxRecDepth 100000
set_option maxHeartbeats 8000000

theorem bd_81_0_1_2_3 {ρ : Operand → Value} {w : World} {dst : Option Nat} {ty : TypeId} {pos : String} {after : Array Edge} {g : Option (Nat × Bool)} {x0 x1 x2 x3 : Operand} {k0 : IntKind} {a0 : Int} {k1 : IntKind} {a1 : Int} {k2 : IntKind} {a2 : Int} {k3 : IntKind} {a3 : Int} (h0 : ρ x0 = (.int k0 a0)) (h1 : ρ x1 = (.int k1 a1)) (h2 : ρ x2 = (.int k2 a2)) (h3 : ρ x3 = (.int k3 a3)) :
    (execOp ρ ⟨dst, .build 81 #[(0, x0), (1, x1), (2, x2), (3, x3)], ty, pos, after, g⟩).run Tryz.prog w = .ok (.value (.agg #[(.int k0 a0), (.int k1 a1), (.int k2 a2), (.int k3 a3)])) w := by
  simp [execOp, Instr.build, Instr.fill, Tryz.zeroValue81, Tryz.runUnderlying81, Tryz.sizeOf3, h0, h1, h2, h3, Value.cells]

def law13_BlockWhole.L4 (N : Nat) (j37 : (List S_api_Shard)) (j58 : (List S_ref08_Run)) (j59 : (List S_cache_Store)) (j63 : Int) (k3 : Int → Option (Bool)) : Nat → Int → Option (Bool)
  | 0, _ => none
  | m4 + 1, j66 =>
    if j66 < 2 then
      (idx j37 j63).bind fun y70 =>
      (idx j59 j63).bind fun y87 =>
      (idx j58 j66).bind fun y99 =>
      (law13_keeps N y70 y87 (⟨(IntKind.i64.wrap (5 + j66)), 0, 0⟩ : S_api_Spot) y99).bind fun r111 =>
      if r111 = true then
        (law13_BlockWhole.L4 N j37 j58 j59 j63 k3 m4) (IntKind.i64.wrap (j66 + 1))
      else
        some false
    else
      k3 (IntKind.i64.wrap (j63 + 1))

def law13_BlockWhole.L3 (N : Nat) (j37 : (List S_api_Shard)) (j58 : (List S_ref08_Run)) (j59 : (List S_cache_Store)) : Nat → Int → Option (Bool)
  | 0, _ => none
  | m3 + 1, j63 =>
    if j63 < ((j37.length : Nat) : Int) then
      law13_BlockWhole.L4 N j37 j58 j59 j63 (law13_BlockWhole.L3 N j37 j58 j59 m3) N 0
    else
      some true

def law13_BlockWhole.J5 (j60 : Int) (k2 : (List S_ref08_Run) → (List S_cache_Store) → Int → Option (Bool)) (j114 : (List S_ref08_Run)) (j115 : (List S_cache_Store)) : Option (Bool) :=
  k2 j114 j115 (IntKind.i64.wrap (j60 + 1))

def law13_BlockWhole.J6 (N : Nat) (x1 : (List Int)) (r11 : (S_api_Weights × S_api_Cut)) (j37 : (List S_api_Shard)) (j58 : (List S_ref08_Run)) (j59 : (List S_cache_Store)) (j60 : Int) (k2 : (List S_ref08_Run) → (List S_cache_Store) → Int → Option (Bool)) (j116 : Int) : Option (Bool) :=
  (idx j58 j116).bind fun y130 =>
  if ((y130.L.length : Nat) : Int) ≥ r11.1.Shape.Places then
    law13_BlockWhole.J5 j60 k2 j58 j59
  else
    (idx x1 j60).bind fun y154 =>
    chk (r11.1.Shape.Vocab ≠ 0) <|
    chk (r11.1.Shape.Vocab ≠ 0) <|
    (law13_through N j37 j59 (⟨(IntKind.i64.wrap (5 + j116)), ((y130.L.length : Nat) : Int), (Int.tmod (IntKind.i64.wrap ((Int.tmod y154 r11.1.Shape.Vocab) + r11.1.Shape.Vocab)) r11.1.Shape.Vocab), j60⟩ : S_law13_run)).bind fun r170 =>
    if r170.2.1 = true then
      (ref08_Run_One N y130 (Int.tmod (IntKind.i64.wrap ((Int.tmod y154 r11.1.Shape.Vocab) + r11.1.Shape.Vocab)) r11.1.Shape.Vocab)).bind fun r182 =>
      (ref04_Ints N r170.1 r182.1).bind fun r188 =>
      if r188 = true then
        law13_BlockWhole.J5 j60 k2 (j58.set (j116).toNat r182.2) r170.2.2
      else
        some false
    else
      some false

def law13_BlockWhole.L2 (N : Nat) (x1 : (List Int)) (x2 : (List Int)) (r11 : (S_api_Weights × S_api_Cut)) (j37 : (List S_api_Shard)) : Nat → (List S_ref08_Run) → (List S_cache_Store) → Int → Option (Bool)
  | 0, _, _, _ => none
  | m2 + 1, j58, j59, j60 =>
    if j60 < ((x1.length : Nat) : Int) then
      if j60 < ((x2.length : Nat) : Int) then
        (idx x2 j60).bind fun y118 =>
        (some (Int.tmod (IntKind.i64.wrap ((Int.tmod y118 2) + 2)) 2)).bind fun e127 =>
        law13_BlockWhole.J6 N x1 r11 j37 j58 j59 j60 (law13_BlockWhole.L2 N x1 x2 r11 j37 m2) e127
      else
        law13_BlockWhole.J6 N x1 r11 j37 j58 j59 j60 (law13_BlockWhole.L2 N x1 x2 r11 j37 m2) (Int.tmod j60 2)
    else
      law13_BlockWhole.L3 N j37 j58 j59 N 0

def law13_BlockWhole.L1 (N : Nat) (x1 : (List Int)) (x2 : (List Int)) (r11 : (S_api_Weights × S_api_Cut)) : Nat → (List S_api_Shard) → (List S_cache_Store) → Int → Option (Bool)
  | 0, _, _, _ => none
  | m1 + 1, j37, j41, j45 =>
    if j45 < (IntKind.i64.wrap (r11.2.Stages * r11.2.Parts)) then
      chk (r11.2.Parts ≠ 0) <|
      chk (r11.2.Parts ≠ 0) <|
      (ref11_Take N (⟨(⟨r11.1.Shape.Layers, r11.1.Shape.Width, r11.1.Shape.Heads, r11.1.Shape.Inner, r11.1.Shape.Vocab, r11.1.Shape.Places⟩ : S_api_Shape), (⟨r11.1.Embed.Rows, r11.1.Embed.Cols, r11.1.Embed.V⟩ : S_api_Mat), r11.1.Blocks, r11.1.Last, (⟨r11.1.Head.Rows, r11.1.Head.Cols, r11.1.Head.V⟩ : S_api_Mat)⟩ : S_api_Weights) (⟨r11.2.Stages, r11.2.Parts⟩ : S_api_Cut) (IntKind.i64.wrap (Int.tdiv j45 r11.2.Parts)) (Int.tmod j45 r11.2.Parts)).bind fun r195 =>
      (app j37 ([r195])).bind fun z215 =>
      (cache_New 1000).bind fun r221 =>
      optc r221.1 (
        some false) fun y225 =>
      if r221.2 ≠ 0 then
        some false
      else
        (app j41 ([y225])).bind fun z232 =>
        (law13_BlockWhole.L1 N x1 x2 r11 m1) z215 z232 (IntKind.i64.wrap (j45 + 1))
    else
      law13_BlockWhole.L2 N x1 x2 r11 j37 N ([(⟨(⟨(⟨r11.1.Shape.Layers, r11.1.Shape.Width, r11.1.Shape.Heads, r11.1.Shape.Inner, r11.1.Shape.Vocab, r11.1.Shape.Places⟩ : S_api_Shape), (⟨r11.1.Embed.Rows, r11.1.Embed.Cols, r11.1.Embed.V⟩ : S_api_Mat), r11.1.Blocks, r11.1.Last, (⟨r11.1.Head.Rows, r11.1.Head.Cols, r11.1.Head.V⟩ : S_api_Mat)⟩ : S_api_Weights), []⟩ : S_ref08_Run), (⟨(⟨(⟨r11.1.Shape.Layers, r11.1.Shape.Width, r11.1.Shape.Heads, r11.1.Shape.Inner, r11.1.Shape.Vocab, r11.1.Shape.Places⟩ : S_api_Shape), (⟨r11.1.Embed.Rows, r11.1.Embed.Cols, r11.1.Embed.V⟩ : S_api_Mat), r11.1.Blocks, r11.1.Last, (⟨r11.1.Head.Rows, r11.1.Head.Cols, r11.1.Head.V⟩ : S_api_Mat)⟩ : S_api_Weights), []⟩ : S_ref08_Run)]) j41 0

def law13_BlockWhole (N : Nat) (x0 : S_law13_Seeds) (x1 : (List Int)) (x2 : (List Int)) : Option (Bool) :=
  (law13_awake N).bind fun r4 =>
  if r4 = true then
    if ((x1.length : Nat) : Int) > 20 then
      (law13_awake N).bind fun r240 =>
      some r240
    else
      if ((x2.length : Nat) : Int) > 20 then
        (law13_awake N).bind fun r238 =>
        some r238
      else
        (law13_made N x0).bind fun r11 =>
        law13_BlockWhole.L1 N x1 x2 r11 N ([]) ([]) 0
  else
    (law13_awake N).bind fun r7 =>
    some r7

theorem law13_BlockWhole_any {N nx1 qx1 nx2 qx2 : Nat} {x0 : S_law13_Seeds} {x1 x2 : (List Int)} {ax1 ax2 : Option Addr} {P1 P2 : HP} {Fr : List HP} {w : World} {r : Bool} {K : Value → World → Prop} (hrd1 : Reads P1 (pInt .i64) (.slice ax1 nx1 qx1) x1) (hrd2 : Reads P2 (pInt .i64) (.slice ax2 nx2 qx2) x2) (hc : Ctx w (P1 :: P2 :: Fr)) (hp : law13_BlockWhole N x0 x1 x2 = some r)
    (k : ∀ w', Ctx w' (P1 :: P2 :: Fr) → K (.bool r) w') : Calls Tryz.prog 5 #[.agg (S_law13_Seeds.cz x0).toArray, .slice ax1 nx1 qx1, .slice ax2 nx2 qx2] w (Ret K) := by
 unfold law13_BlockWhole at hp; refine Center3 F5 M5 rfl rfl ?_; obtain ⟨hn1, _⟩ := Ctx.rdLen hc (k := 0) rfl rfl hrd1; subst hn1; obtain ⟨hn2, _⟩ := Ctx.rdLen hc (k := 1) rfl rfl hrd2; subst hn2; refine Wseq (Wreg ?_); refine rsE (Ctx.boxOp (cs := (S_law13_Seeds.cz x0)) (v := .agg (S_law13_Seeds.cz x0).toArray) hc rfl rfl) rfl ?_; clear hc; rintro _ w3 ⟨b1, rfl, hc⟩; refine au 1 rfl <| rn (qn (Wseq (Wseq (Wreg ?_)))); replace hp := bind_some hp; obtain ⟨r4, hr4, hp⟩ := hp; refine kz C7 ?_; refine law13_awake_any hc hr4 ?_; clear hc; intro w5 hc; cases hb6 : r4
 · replace hp := gneg hp (by rw [hb6]; exact Bool.false_ne_true); subst hb6; refine au 2 rfl ?_; (iterate 3 refine r0 rfl ?_); refine au 2 rfl ?_; (iterate 3 refine r0 rfl ?_); refine au 1 rfl <| rn (qn (Wct rfl (Wseq (Wreg ?_)))); replace hp := bind_some hp; obtain ⟨r7, hr7, hp⟩ := hp; refine kz C7 ?_; refine law13_awake_any hc hr7 ?_; clear hc; intro w8 hc; refine au 1 rfl <| rn (qn (Wret (qr ?_))); replace hc := hc.m [1]; obtain rfl := sj hp; exact fz R5 M5 (k _ hc)
 · replace hp := gpos hp hb6; subst hb6; refine au 3 rfl <| sz (ln rfl U71) <| au 3 rfl ?_; cases hb9 : (decide (((x1.length : Nat) : Int) > 20))
   · replace hp := gneg hp (of_decide_eq_false hb9); refine au 1 rfl <| sz (ln rfl U71) <| au 2 rfl <| rn (qn ?_); refine Wif hp (fun _ h => ?_) fun _ h => ?_
     · replace hp := h; clear h; refine Wskip (qn (Wseq (Wreg ?_))); refine lg G25 Z25 hc 0 ?_; replace hp := bind_some hp; obtain ⟨r11, hr11, hp⟩ := hp; refine kz C8 ?_; refine law13_made_any (x0 := x0) hc hr11 ?_; clear hc; intro a12 n13 q14 a15 n16 q17 a18 n19 q20 a21 n22 q23 w24 hc; obtain rfl := hc.rz 0 reads_ro; obtain rfl := hc.rz 1 reads_ro; obtain rfl := hc.rz 2 reads_ro; obtain rfl := hc.rz 3 reads_ro; refine au 3 rfl ?_; refine rsE (Ctx.allocOp (cs := [.int .i64 0, .int .i64 0, .int .i64 0, .int .i64 0, .int .i64 0, .int .i64 0, .int .i64 0, .int .i64 0, .slice none 0 0, .slice none 0 0, .slice none 0 0, .int .i64 0, .int .i64 0, .slice none 0 0]) hc V35 rfl) rfl ?_; clear hc; rintro _ w31 ⟨b29, rfl, hc⟩; refine rsE (Ctx.allocOp (cs := [.int .i64 0, .int .i64 0]) hc V37 rfl) rfl ?_; clear hc; rintro _ w34 ⟨b32, rfl, hc⟩; refine pa hc 1 Z35 ?_; clear hc; rintro w35 hc; refine pa hc 0 Z37 ?_; clear hc; rintro w36 hc; refine rn (qn (Wseq (Wreg ?_))); refine au 1 rfl <| rn (qn (Wseq (Wreg ?_))); refine au 1 rfl <| rn (qn (Wseq (Wseq (Wreg ?_)))); refine au 1 rfl <| rn (qn (Wblk ?_)); replace hc := hc.nilOwn S_api_Shard.pr 41; replace hc := hc.nilOwnV (vPt S_cache_Store.hp) 43; replace hc := hc.m [17, 2, 18, 18, 18, 18, 18, 18, 18, 18]; refine Wloop (rg [6, 1, 9, 5, 40, 37]) [9, 10, 11] (fun m vs w' => ∃ j37 : (List S_api_Shard), ∃ j41 : (List S_cache_Store), ∃ j45 : Int, ∃ a38 n39, ∃ q40 a42, ∃ n43 q44, vs = [.slice a38 n39 q40, .slice a42 n43 q44, .int .i64 j45] ∧ law13_BlockWhole.L1 N x1 x2 r11 m j37 j41 j45 = some r ∧ Ctx w' (B b32 [.int .i64 r11.2.Stages, .int .i64 r11.2.Parts] 37 :: B b29 (S_api_Weights.cz r11.1 a12 q14 a15 q17 a18 q20 a21 q23) 35 :: hR .i8 a12 q14 r11.1.Embed.V :: hS S_api_Block.pr a15 q17 r11.1.Blocks :: hR .i8 a18 q20 r11.1.Last :: hR .i8 a21 q23 r11.1.Head.V :: P1 :: P2 :: Own S_api_Shard.pr 41 (.slice a38 n39 q40) j37 :: OwnV (vPt S_cache_Store.hp) 43 (.slice a42 n43 q44) j41 :: Fr)) N ?_ ?_
       · exact ⟨[], [], 0, none, 0, 0, none, 0, 0, rfl, hp, hc⟩
       · clear hp hc; intro m vs u w46 hJ; obtain ⟨j37, j41, j45, a38, n39, q40, a42, n43, q44, rfl, hp, hc⟩ := hJ; obtain rfl := hc.rz 8 reads_own; have u48 := Ctx.ownVLen' hc (k := 9) rfl rfl; subst u48; rcases m with _ | m1
         · cases (show none = some r from hp)
         rw [law13_BlockWhole.L1] at hp; refine Wseq (Wseq (Wreg ?_)); refine au 1 rfl ?_; refine fq 0 U37 Z3 G3 hc 0 ?_; refine fq 1 U37 Z3 G3 hc 0 ?_; refine au 2 rfl <| rn (qn ?_); refine Wif hp (fun _ h => ?_) fun _ h => ?_
         · replace hp := h; clear h; refine Wexit (qx (qx (be (qn (Wseq (Wreg ?_)))))); refine lg G35 Z35 hc 1 ?_; refine sz (v := .agg #[.int .i64 r11.1.Shape.Layers, .int .i64 r11.1.Shape.Width, .int .i64 r11.1.Shape.Heads, .int .i64 r11.1.Shape.Inner, .int .i64 r11.1.Shape.Vocab, .int .i64 r11.1.Shape.Places, .int .i64 r11.1.Embed.Rows, .int .i64 r11.1.Embed.Cols, .slice a12 r11.1.Embed.V.length q14, .slice a15 r11.1.Blocks.length q17, .slice a18 r11.1.Last.length q20, .int .i64 r11.1.Head.Rows, .int .i64 r11.1.Head.Cols, .slice a21 r11.1.Head.V.length q23, .slice none 0 0]) (bd_77_0 rfl) ?_; refine rsE (Ctx.boxOp (cs := [.int .i64 r11.1.Shape.Layers, .int .i64 r11.1.Shape.Width, .int .i64 r11.1.Shape.Heads, .int .i64 r11.1.Shape.Inner, .int .i64 r11.1.Shape.Vocab, .int .i64 r11.1.Shape.Places, .int .i64 r11.1.Embed.Rows, .int .i64 r11.1.Embed.Cols, .slice a12 r11.1.Embed.V.length q14, .slice a15 r11.1.Blocks.length q17, .slice a18 r11.1.Last.length q20, .int .i64 r11.1.Head.Rows, .int .i64 r11.1.Head.Cols, .slice a21 r11.1.Head.V.length q23, .slice none 0 0]) (v := .agg #[.int .i64 r11.1.Shape.Layers, .int .i64 r11.1.Shape.Width, .int .i64 r11.1.Shape.Heads, .int .i64 r11.1.Shape.Inner, .int .i64 r11.1.Shape.Vocab, .int .i64 r11.1.Shape.Places, .int .i64 r11.1.Embed.Rows, .int .i64 r11.1.Embed.Cols, .slice a12 r11.1.Embed.V.length q14, .slice a15 r11.1.Blocks.length q17, .slice a18 r11.1.Last.length q20, .int .i64 r11.1.Head.Rows, .int .i64 r11.1.Head.Cols, .slice a21 r11.1.Head.V.length q23, .slice none 0 0]) hc rfl rfl) rfl ?_; clear hc; rintro _ w52 ⟨b50, rfl, hc⟩; refine lg G35 Z35 hc 2 ?_; refine sz (v := .agg #[.int .i64 r11.1.Shape.Layers, .int .i64 r11.1.Shape.Width, .int .i64 r11.1.Shape.Heads, .int .i64 r11.1.Shape.Inner, .int .i64 r11.1.Shape.Vocab, .int .i64 r11.1.Shape.Places, .int .i64 r11.1.Embed.Rows, .int .i64 r11.1.Embed.Cols, .slice a12 r11.1.Embed.V.length q14, .slice a15 r11.1.Blocks.length q17, .slice a18 r11.1.Last.length q20, .int .i64 r11.1.Head.Rows, .int .i64 r11.1.Head.Cols, .slice a21 r11.1.Head.V.length q23, .slice none 0 0]) (bd_77_0 rfl) ?_; refine rsE (Ctx.boxOp (cs := [.int .i64 r11.1.Shape.Layers, .int .i64 r11.1.Shape.Width, .int .i64 r11.1.Shape.Heads, .int .i64 r11.1.Shape.Inner, .int .i64 r11.1.Shape.Vocab, .int .i64 r11.1.Shape.Places, .int .i64 r11.1.Embed.Rows, .int .i64 r11.1.Embed.Cols, .slice a12 r11.1.Embed.V.length q14, .slice a15 r11.1.Blocks.length q17, .slice a18 r11.1.Last.length q20, .int .i64 r11.1.Head.Rows, .int .i64 r11.1.Head.Cols, .slice a21 r11.1.Head.V.length q23, .slice none 0 0]) (v := .agg #[.int .i64 r11.1.Shape.Layers, .int .i64 r11.1.Shape.Width, .int .i64 r11.1.Shape.Heads, .int .i64 r11.1.Shape.Inner, .int .i64 r11.1.Shape.Vocab, .int .i64 r11.1.Shape.Places, .int .i64 r11.1.Embed.Rows, .int .i64 r11.1.Embed.Cols, .slice a12 r11.1.Embed.V.length q14, .slice a15 r11.1.Blocks.length q17, .slice a18 r11.1.Last.length q20, .int .i64 r11.1.Head.Rows, .int .i64 r11.1.Head.Cols, .slice a21 r11.1.Head.V.length q23, .slice none 0 0]) hc rfl rfl) rfl ?_; clear hc; rintro _ w55 ⟨b53, rfl, hc⟩; replace hc := hc.dz 4; replace hc := hc.dz 6; replace hc := hc.dz 8; replace hc := hc.dz 10; replace hc := hc.dz 8; replace hc := hc.dz 10; replace hc := hc.dz 12; replace hc := hc.dz 14; replace hc := hc.nilOwnV S_ref08_Kept.vp 132; replace hc := hc.m [2, 4, 6, 8, 18]; replace hc := S_ref08_Run.fd (x := (⟨r11.1, []⟩ : S_ref08_Run)) hc; replace hc : Ctx w55 ((vPt S_ref08_Run.hp).r [pt b53 0] (⟨r11.1, []⟩ : S_ref08_Run) :: hR .i8 a21 q23 r11.1.Head.V :: hR .i8 a18 q20 r11.1.Last :: hS S_api_Block.pr a15 q17 r11.1.Blocks :: hR .i8 a12 q14 r11.1.Embed.V :: B b50 [.int .i64 r11.1.Shape.Layers, .int .i64 r11.1.Shape.Width, .int .i64 r11.1.Shape.Heads, .int .i64 r11.1.Shape.Inner, .int .i64 r11.1.Shape.Vocab, .int .i64 r11.1.Shape.Places, .int .i64 r11.1.Embed.Rows, .int .i64 r11.1.Embed.Cols, .slice a12 r11.1.Embed.V.length q14, .slice a15 r11.1.Blocks.length q17, .slice a18 r11.1.Last.length q20, .int .i64 r11.1.Head.Rows, .int .i64 r11.1.Head.Cols, .slice a21 r11.1.Head.V.length q23, .slice none 0 0] 77 :: B b32 [.int .i64 r11.2.Stages, .int .i64 r11.2.Parts] 37 :: B b29 (S_api_Weights.cz r11.1 a12 q14 a15 q17 a18 q20 a21 q23) 35 :: hR .i8 a12 q14 r11.1.Embed.V :: hS S_api_Block.pr a15 q17 r11.1.Blocks :: hR .i8 a18 q20 r11.1.Last :: hR .i8 a21 q23 r11.1.Head.V :: P1 :: P2 :: Own S_api_Shard.pr 41 (.slice a38 j37.length q40) j37 :: OwnV (vPt S_cache_Store.hp) 43 (.slice a42 j41.length q44) j41 :: Fr) := Ctx.exB _ _ (Ctx.sepB (Ctx.puB rfl hc)); replace hc := hc.nilOwnV S_ref08_Kept.vp 132; replace hc := hc.m [4, 6, 8, 10, 12]; replace hc := S_ref08_Run.fd (x := (⟨r11.1, []⟩ : S_ref08_Run)) hc; replace hc : Ctx w55 ((vPt S_ref08_Run.hp).r [pt b50 0] (⟨r11.1, []⟩ : S_ref08_Run) :: (vPt S_ref08_Run.hp).r [pt b53 0] (⟨r11.1, []⟩ : S_ref08_Run) :: B b32 [.int .i64 r11.2.Stages, .int .i64 r11.2.Parts] 37 :: B b29 (S_api_Weights.cz r11.1 a12 q14 a15 q17 a18 q20 a21 q23) 35 :: hR .i8 a12 q14 r11.1.Embed.V :: hS S_api_Block.pr a15 q17 r11.1.Blocks :: hR .i8 a18 q20 r11.1.Last :: hR .i8 a21 q23 r11.1.Head.V :: P1 :: P2 :: Own S_api_Shard.pr 41 (.slice a38 j37.length q40) j37 :: OwnV (vPt S_cache_Store.hp) 43 (.slice a42 j41.length q44) j41 :: Fr) := Ctx.exB _ _ (Ctx.sepB (Ctx.puB rfl hc)); replace hc := Ctx.anyB (m := 1) [pt b53 0] rfl rfl hc; replace hc := Ctx.anyB (m := 1) [pt b50 0] rfl rfl hc; refine rsE (Ctx.builtOp (css := [[pt b50 0], [pt b53 0]]) (xs := ([[pt b50 0], [pt b53 0]] : List (List Value))) (E := pAny 1) hc U78 Z74 V74 rfl rfl rfl rfl rfl rfl rfl rfl) rfl ?_; clear hc; rintro _ w57 ⟨a56, rfl, hc⟩; replace hc : Ctx w57 (OwnV (vPt S_ref08_Run.hp) 74 (.slice a56 2 2) ([(⟨r11.1, []⟩ : S_ref08_Run), (⟨r11.1, []⟩ : S_ref08_Run)]) :: B b32 [.int .i64 r11.2.Stages, .int .i64 r11.2.Parts] 37 :: B b29 (S_api_Weights.cz r11.1 a12 q14 a15 q17 a18 q20 a21 q23) 35 :: hR .i8 a12 q14 r11.1.Embed.V :: hS S_api_Block.pr a15 q17 r11.1.Blocks :: hR .i8 a18 q20 r11.1.Last :: hR .i8 a21 q23 r11.1.Head.V :: P1 :: P2 :: Own S_api_Shard.pr 41 (.slice a38 j37.length q40) j37 :: OwnV (vPt S_cache_Store.hp) 43 (.slice a42 j41.length q44) j41 :: Fr) := Ctx.ownV2 hc; refine au 1 rfl <| rn (qn (Wseq (Wseq (Wreg ?_)))); refine au 1 rfl <| rn (qn (Wblk ?_)); replace hc := hc.m [3]; refine Wloop (rg [6, 1, 15, 5, 84, 79]) [15] (fun m vs w' => ∃ j58 : (List S_ref08_Run), ∃ j59 : (List S_cache_Store), ∃ j60 : Int, vs = [.int .i64 j60] ∧ law13_BlockWhole.L2 N x1 x2 r11 j37 m j58 j59 j60 = some r ∧ Ctx w' (OwnV (vPt S_ref08_Run.hp) 74 (.slice a56 2 2) j58 :: B b29 (S_api_Weights.cz r11.1 a12 q14 a15 q17 a18 q20 a21 q23) 35 :: hR .i8 a12 q14 r11.1.Embed.V :: hS S_api_Block.pr a15 q17 r11.1.Blocks :: hR .i8 a18 q20 r11.1.Last :: hR .i8 a21 q23 r11.1.Head.V :: P1 :: P2 :: Own S_api_Shard.pr 41 (.slice a38 j37.length q40) j37 :: OwnV (vPt S_cache_Store.hp) 43 (.slice a42 j41.length q44) j59 :: Fr)) N ?_ ?_
           · exact ⟨[(⟨r11.1, []⟩ : S_ref08_Run), (⟨r11.1, []⟩ : S_ref08_Run)], j41, 0, rfl, hp, hc⟩
           · clear hp hc; intro m vs u w61 hJ; obtain ⟨j58, j59, j60, rfl, hp, hc⟩ := hJ; rcases m with _ | m2
             · cases (show none = some r from hp)
             rw [law13_BlockWhole.L2] at hp; refine Wseq (Wseq (Wreg ?_)); refine au 2 rfl <| sz (ln rfl U71) <| au 1 rfl <| rn (qn ?_); refine Wif hp (fun _ h => ?_) fun _ h => ?_
             · replace hp := h; clear h; refine Wexit (qx (qx (be (qn (Wseq (Wseq (Wreg ?_))))))); refine au 1 rfl <| rn (qn (Wblk ?_)); replace hc := hc.m [11, 9, 7, 5, 3]; refine Wloop (rg [6, 1, 20, 2, 163, 27]) [20] (fun m vs w' => ∃ j63 : Int, vs = [.int .i64 j63] ∧ law13_BlockWhole.L3 N j37 j58 j59 m j63 = some r ∧ Ctx w' (OwnV (vPt S_ref08_Run.hp) 74 (.slice a56 2 2) j58 :: P1 :: P2 :: Own S_api_Shard.pr 41 (.slice a38 j37.length q40) j37 :: OwnV (vPt S_cache_Store.hp) 43 (.slice a42 j41.length q44) j59 :: Fr)) N ?_ ?_
               · exact ⟨0, rfl, hp, hc⟩
               · clear hp hc; intro m vs u w64 hJ; obtain ⟨j63, rfl, hp, hc⟩ := hJ; rcases m with _ | m3
                 · cases (show none = some r from hp)
                 rw [law13_BlockWhole.L3] at hp; refine Wseq (Wseq (Wreg ?_)); refine au 2 rfl <| sz (ln rfl U72) <| au 1 rfl <| rn (qn ?_); refine Wif hp (fun _ h => ?_) fun _ h => ?_
                 · replace hp := h; clear h; refine Wexit (qx (qx (be (qn (Wseq (Wreg ?_)))))); refine au 1 rfl <| rn (qn (Wret ?_)); replace hc := hc.m [9, 7, 1]; obtain rfl := sj hp; exact fz R5 M5 (k _ hc)
                 · replace hp := h; clear h; refine Wskip (qn (Wseq (Wblk (Wseq (Wreg ?_))))); refine au 1 rfl <| rn (qn (Wblk ?_)); refine Wloop (rg [6, 1, 21, 1, 169, 21]) [21] (fun m vs w' => ∃ j66 : Int, vs = [.int .i64 j66] ∧ law13_BlockWhole.L4 N j37 j58 j59 j63 (law13_BlockWhole.L3 N j37 j58 j59 m3) m j66 = some r ∧ Ctx w' (OwnV (vPt S_ref08_Run.hp) 74 (.slice a56 2 2) j58 :: P1 :: P2 :: Own S_api_Shard.pr 41 (.slice a38 j37.length q40) j37 :: OwnV (vPt S_cache_Store.hp) 43 (.slice a42 j41.length q44) j59 :: Fr)) N ?_ ?_
                   · exact ⟨0, rfl, hp, hc⟩
                   · clear hp hc; intro m vs u w67 hJ; obtain ⟨j66, rfl, hp, hc⟩ := hJ; rcases m with _ | m4
                     · cases (show none = some r from hp)
                     rw [law13_BlockWhole.L4] at hp; refine Wseq (Wseq (Wreg ?_)); refine au 2 rfl <| rn (qn ?_); refine Wif hp (fun _ h => ?_) fun _ h => ?_
                     · replace hp := h; clear h; refine Wexit (qx (qx (be (bn (qn (Wreg ?_)))))); refine au 3 rfl <| rn (qn ?_); exact ⟨m3, Nat.lt_succ_self _, ⟨(IntKind.i64.wrap (j63 + 1)), rfl, hp, hc⟩, (kl rfl (km rfl (kl rfl k0)))⟩
                     · replace hp := h; clear h; refine Wskip (qn (Wseq (Wblk (Wseq ?_)))); replace hc := hc.drew; refine Wdrw (fun j w' => True) [0, 0, 3, 7, 0, 0, 48, 112, 0, 256, 768, 0, 0, 6144, 14336, 32767, 65535] 0 16520 rfl (by kernel_rfl) (fun _ _ => trivial) ?_; generalize hw : World.drew w67 = w69 at *; clear hw; refine ad_ 2 rfl ?_; replace hp := bind_some hp; obtain ⟨y70, hy70, hp⟩ := hp; obtain ⟨b73, o74, rfl, hi71, hi72⟩ := hc.ra 3 reads_own hy70; refine ds rfl (fun w' hF => ixx rfl rfl U72 Z41 hi71 hi72 rfl) rfl ?_; replace hc := Ctx.rdCell hc (k := 3) rfl rfl reads_own hy70; obtain ⟨cs76, hc, hcell77⟩ := hc; replace hc := S_api_Shard.op hc; obtain ⟨a79, q80, a81, q82, a83, q84, a85, q86, u78, hc⟩ := hc; subst u78; refine dx (v := .agg (S_api_Shard.cz y70 a79 q80 a81 q82 a83 q84 a85 q86).toArray) rfl (ldg rfl G41 Z41 rfl (elCells hcell77 0 (vs := (S_api_Shard.cz y70 a79 q80 a81 q82 a83 q84 a85 q86)) rfl)) rfl rfl <| ad_ 2 rfl ?_; replace hp := bind_some hp; obtain ⟨y87, hy87, hp⟩ := hp; replace hc := hc.m [16]; replace hc := Ctx.ownVF hc; obtain ⟨hs88, hl91, hc⟩ := hc; replace hc := Ctx.bigF hc.swap hy87; obtain ⟨a90, ha89, hc⟩ := hc; replace hc := Ctx.exF hc; obtain ⟨b93, hc⟩ := hc; replace hc := Ctx.sepF hc; replace hc := Ctx.puF hc; obtain ⟨u92, hc⟩ := hc; subst u92; have hln := Ctx.rdLen hc (k := 2) rfl rfl reads_own; obtain ⟨b96, o97, u98, hi94, hi95⟩ := Ctx.rdAt hc (k := 2) rfl rfl reads_own ha89; clear hln; subst u98; refine ds rfl (fun w' hF => ixx rfl rfl U73 Z43 hi94 hi95 rfl) rfl <| dx rfl (ld rfl G43 (Ctx.rdAny hc (k := 2) rfl rfl ha89 0 _ rfl)) rfl rfl <| ad_ 2 rfl <| ds (v := .agg #[.int .i64 (IntKind.i64.wrap (5 + j66)), .int .i64 0, .int .i64 0]) rfl (fun w' hF => bd_55_0 rfl) rfl <| ad_ 2 rfl ?_; replace hp := bind_some hp; obtain ⟨y99, hy99, hp⟩ := hp; replace hc := hc.m [14]; replace hc := Ctx.ownVF hc; obtain ⟨hs100, hl103, hc⟩ := hc; replace hc := Ctx.bigF hc.swap hy99; obtain ⟨a102, ha101, hc⟩ := hc; replace hc := Ctx.exF hc; obtain ⟨b105, hc⟩ := hc; replace hc := Ctx.sepF hc; replace hc := Ctx.puF hc; obtain ⟨u104, hc⟩ := hc; subst u104; have hln := Ctx.rdLen hc (k := 2) rfl rfl reads_own; obtain ⟨b108, o109, u110, hi106, hi107⟩ := Ctx.rdAt hc (k := 2) rfl rfl reads_own ha101; clear hln; subst u110; refine ds rfl (fun w' hF => ixx rfl rfl U78 Z74 hi106 hi107 rfl) rfl <| dx rfl (ld rfl G74 (Ctx.rdAny hc (k := 2) rfl rfl ha101 0 _ rfl)) rfl rfl ?_; replace hc := hc.dz 6; replace hc := hc.dz 8; replace hc := hc.dz 10; replace hc := hc.dz 12; replace hp := bind_some hp; obtain ⟨r111, hr111, hp⟩ := hp; replace hc := hc.m [8, 14, 4, 6, 8, 10]; refine dc (cl C22 rfl rfl) rfl rfl ?_; refine law13_keeps_any (x2 := (⟨(IntKind.i64.wrap (5 + j66)), 0, 0⟩ : S_api_Spot)) hc hr111 ?_; clear hc; intro w112 hc; refine ⟨fun j hj hb => trivial, ?_⟩; cases hb113 : r111
                       · replace hp := gneg hp (by rw [hb113]; exact Bool.false_ne_true); subst hb113; refine ad_ 1 rfl <| dn (qn (Wct rfl (Wseq (Wreg ?_)))); refine au 1 rfl <| rn (qn (Wret (br (qr (qr (br (br (qr (qr (br (qr ?_))))))))))); replace hc := hc.m [25, 19, 17, 15, 13, 11, 9, 7, 5, 3, 1]; obtain rfl := sj hp; exact fz R5 M5 (k _ hc)
                       · replace hp := gpos hp hb113; subst hb113; refine ad_ 1 rfl <| dn (qn (Wcf rfl (Wskip (bn (qn (Wreg ?_)))))); refine au 3 rfl <| rn (qn ?_); replace hc := hc.m [2]; replace hc : Ctx w112 ((vPt S_ref08_Run.hp).r [pt b105 0] y99 :: S_cache_Store.hp b93 y87 :: BigH (vPt S_ref08_Run.hp).r hs100 j58 j66 :: Own (pAny 1) 74 (.slice (some ⟨b108, o109, none⟩) 2 2) hs100 :: BigH (vPt S_cache_Store.hp).r hs88 j59 j63 :: Own (pAny 1) 43 (.slice (some ⟨b96, o97, none⟩) j41.length q44) hs88 :: hR .i8 a79 q80 y70.Embed.V :: hS S_api_Block.pr a81 q82 y70.Blocks :: hR .i8 a83 q84 y70.Last :: hR .i8 a85 q86 y70.Head.V :: P1 :: P2 :: Own S_api_Shard.pr 41 (.slice (some ⟨b73, o74, none⟩) j37.length q40) j37 :: Fr) := Ctx.exB _ _ (Ctx.sepB (Ctx.puB rfl hc)); replace hc := hc.m [6, 6, 4]; replace hc := Ctx.bigB0 hc ha101 hy99; replace hc : Ctx w112 (OwnV (vPt S_ref08_Run.hp) 74 (.slice (some ⟨b108, o109, none⟩) 2 2) j58 :: S_cache_Store.hp b93 y87 :: BigH (vPt S_cache_Store.hp).r hs88 j59 j63 :: Own (pAny 1) 43 (.slice (some ⟨b96, o97, none⟩) j41.length q44) hs88 :: hR .i8 a79 q80 y70.Embed.V :: hS S_api_Block.pr a81 q82 y70.Blocks :: hR .i8 a83 q84 y70.Last :: hR .i8 a85 q86 y70.Head.V :: P1 :: P2 :: Own S_api_Shard.pr 41 (.slice (some ⟨b73, o74, none⟩) j37.length q40) j37 :: Fr) := Ctx.ownVB hc.swap; replace hc := hc.m [2]; replace hc : Ctx w112 ((vPt S_cache_Store.hp).r [pt b93 0] y87 :: OwnV (vPt S_ref08_Run.hp) 74 (.slice (some ⟨b108, o109, none⟩) 2 2) j58 :: BigH (vPt S_cache_Store.hp).r hs88 j59 j63 :: Own (pAny 1) 43 (.slice (some ⟨b96, o97, none⟩) j41.length q44) hs88 :: hR .i8 a79 q80 y70.Embed.V :: hS S_api_Block.pr a81 q82 y70.Blocks :: hR .i8 a83 q84 y70.Last :: hR .i8 a85 q86 y70.Head.V :: P1 :: P2 :: Own S_api_Shard.pr 41 (.slice (some ⟨b73, o74, none⟩) j37.length q40) j37 :: Fr) := Ctx.exB _ _ (Ctx.sepB (Ctx.puB rfl hc)); replace hc := hc.m [6, 6, 4]; replace hc := Ctx.bigB0 hc ha89 hy87; replace hc : Ctx w112 (OwnV (vPt S_cache_Store.hp) 43 (.slice (some ⟨b96, o97, none⟩) j41.length q44) j59 :: OwnV (vPt S_ref08_Run.hp) 74 (.slice (some ⟨b108, o109, none⟩) 2 2) j58 :: hR .i8 a79 q80 y70.Embed.V :: hS S_api_Block.pr a81 q82 y70.Blocks :: hR .i8 a83 q84 y70.Last :: hR .i8 a85 q86 y70.Head.V :: P1 :: P2 :: Own S_api_Shard.pr 41 (.slice (some ⟨b73, o74, none⟩) j37.length q40) j37 :: Fr) := Ctx.ownVB hc.swap; replace hc := hc.m [11, 9, 7, 5, 8, 8, 8, 8]; exact ⟨m4, Nat.lt_succ_self _, ⟨(IntKind.i64.wrap (j66 + 1)), rfl, hp, hc⟩, (kl rfl k0)⟩
             · replace hp := h; clear h; refine Wskip (qn ?_); refine Wseqm (rg [6, 1, 16, 4, 90, 73]) [] (fun vs w' => ∃ j114 : (List S_ref08_Run), ∃ j115 : (List S_cache_Store), vs = [] ∧ law13_BlockWhole.J5 j60 (law13_BlockWhole.L2 N x1 x2 r11 j37 m2) j114 j115 = some r ∧ Ctx w' (OwnV (vPt S_ref08_Run.hp) 74 (.slice a56 2 2) j114 :: B b29 (S_api_Weights.cz r11.1 a12 q14 a15 q17 a18 q20 a21 q23) 35 :: hR .i8 a12 q14 r11.1.Embed.V :: hS S_api_Block.pr a15 q17 r11.1.Blocks :: hR .i8 a18 q20 r11.1.Last :: hR .i8 a21 q23 r11.1.Head.V :: P1 :: P2 :: Own S_api_Shard.pr 41 (.slice a38 j37.length q40) j37 :: OwnV (vPt S_cache_Store.hp) 43 (.slice a42 j41.length q44) j115 :: Fr)) ?_ ?_
               · refine Wblk (Wseq (Wreg ?_)); refine au 1 rfl <| sz (rm rfl rfl (by decide)) <| au 1 rfl <| rn (qn ?_); refine Wseqm (rg [16, 1, 92, 11]) [16] (fun vs w' => ∃ j116 : Int, vs = [.int .i64 j116] ∧ law13_BlockWhole.J6 N x1 r11 j37 j58 j59 j60 (law13_BlockWhole.L2 N x1 x2 r11 j37 m2) j116 = some r ∧ Ctx w' (OwnV (vPt S_ref08_Run.hp) 74 (.slice a56 2 2) j58 :: B b29 (S_api_Weights.cz r11.1 a12 q14 a15 q17 a18 q20 a21 q23) 35 :: hR .i8 a12 q14 r11.1.Embed.V :: hS S_api_Block.pr a15 q17 r11.1.Blocks :: hR .i8 a18 q20 r11.1.Last :: hR .i8 a21 q23 r11.1.Head.V :: P1 :: P2 :: Own S_api_Shard.pr 41 (.slice a38 j37.length q40) j37 :: OwnV (vPt S_cache_Store.hp) 43 (.slice a42 j41.length q44) j59 :: Fr)) ?_ ?_
                 · refine Wseq (Wreg ?_); refine au 2 rfl <| sz (ln rfl U71) <| au 1 rfl <| rn (qn ?_); refine Wif hp (fun _ h => ?_) fun _ h => ?_
                   · replace hp := h; clear h; refine Wskip (qn ?_); exact ⟨⟨(Int.tmod j60 2), rfl, hp, hc⟩, (kl rfl kb)⟩
                   · replace hp := h; clear h; refine Wreg <| au 2 rfl ?_; replace hp := bind_some hp; obtain ⟨y118, hy118, hp⟩ := hp; obtain ⟨b121, o122, rfl, hi119, hi120⟩ := hc.ra 7 hrd2 hy118; refine sz (ixx rfl rfl U71 Z3 hi119 hi120 rfl) ?_; have hcell125 := hc.rv 7 hrd2 hy118; refine sz (ld rfl G3 (hcell125 0 _ rfl)) <| sz (rm rfl rfl (by decide)) <| au 1 rfl <| sz (rm rfl rfl (by decide)) ?_; replace hp := bind_some hp; obtain ⟨e127, he127, hp⟩ := hp; injection he127 with he127; refine sz (v := .int .i64 e127) (av (v := .int .i64 e127) (by rw [← he127]; rfl)) <| rn (qn ?_); exact ⟨⟨e127, rfl, hp, hc⟩, (kl rfl kb)⟩
                 · clear hp hc; intro vs u w128 hJ; obtain ⟨j116, rfl, hp, hc⟩ := hJ; unfold law13_BlockWhole.J6 at hp; refine Wseq (Wseq ?_); replace hc := hc.drew; refine Wdrw (fun _ w' => w' = World.drew w128) [0, 0, 3, 7, 15, 31, 63, 127, 0, 256, 768, 2047] 0 0 rfl (by kernel_rfl) (fun _ _ => rfl) ?_; generalize hw : World.drew w128 = w129 at *; clear hw; refine ad_ 2 rfl ?_; replace hp := bind_some hp; obtain ⟨y130, hy130, hp⟩ := hp; replace hc := Ctx.ownVF hc; obtain ⟨hs131, hl134, hc⟩ := hc; replace hc := Ctx.bigF hc.swap hy130; obtain ⟨a133, ha132, hc⟩ := hc; replace hc := Ctx.exF hc; obtain ⟨b136, hc⟩ := hc; replace hc := Ctx.sepF hc; replace hc := Ctx.puF hc; obtain ⟨u135, hc⟩ := hc; subst u135; have hln := Ctx.rdLen hc (k := 2) rfl rfl reads_own; obtain ⟨b139, o140, u141, hi137, hi138⟩ := Ctx.rdAt hc (k := 2) rfl rfl reads_own ha132; clear hln; subst u141; refine dE (ixx rfl rfl U78 Z74 hi137 hi138 rfl) rfl rfl <| dE (ld rfl G74 (Ctx.rdAny hc (k := 2) rfl rfl ha132 0 _ rfl)) rfl rfl <| ad_ 1 rfl <| dE (v := pt b136 14) (fax 14 rfl U77 rfl Z75 rfl rfl rfl) rfl rfl ?_; replace hc := S_ref08_Run.uf hc; obtain ⟨a142, q143, a144, q145, a146, q147, a148, q149, a150, q151, hc⟩ := hc; refine dE (ld rfl G75 (Ctx.cell hc (k := 0) rfl rfl rfl)) rfl rfl <| dE (ln rfl U75) rfl rfl <| dE (v := pt b29 0) (fax 0 rfl U35 rfl Z29 rfl rfl rfl) rfl rfl <| dE (v := pt b29 5) (fax 5 rfl U29 rfl Z3 rfl rfl rfl) rfl rfl <| dE (ld rfl G3 (Ctx.cell hc (k := 8) rfl rfl rfl)) rfl rfl <| ad_ 1 rfl <| dn (qn ?_); refine Wif hp (fun _ h => ?_) fun _ h => ?_
                   · replace hp := h; clear h; refine Wskip (qn (Wseq ?_)); replace hc := hc.drew; refine Wdrw (fun _ w' => w' = World.drew w129) [0, 0, 3, 7, 0, 16, 48, 127, 0, 256, 768, 2047, 0, 4096, 12288, 32767, 65535] 0 0 rfl (by kernel_rfl) (fun _ _ => rfl) ?_; generalize hw : World.drew w129 = w153 at *; clear hw; refine ad_ 2 rfl ?_; replace hp := bind_some hp; obtain ⟨y154, hy154, hp⟩ := hp; obtain ⟨b157, o158, rfl, hi155, hi156⟩ := hc.ra 13 hrd1 hy154; refine dE (ixx rfl rfl U71 Z3 hi155 hi156 rfl) rfl rfl ?_; have hcell161 := hc.rv 13 hrd1 hy154; refine dE (ld rfl G3 (hcell161 0 _ rfl)) rfl rfl <| dE (v := pt b29 0) (fax 0 rfl U35 rfl Z29 rfl rfl rfl) rfl rfl <| dE (v := pt b29 4) (fax 4 rfl U29 rfl Z3 rfl rfl rfl) rfl rfl <| dE (ld rfl G3 (Ctx.cell hc (k := 8) rfl rfl rfl)) rfl rfl ?_; replace hp := chk_some hp; obtain ⟨hg163, hp⟩ := hp; refine dE (rm rfl rfl hg163) rfl rfl <| dE (v := pt b29 0) (fax 0 rfl U35 rfl Z29 rfl rfl rfl) rfl rfl <| dE (v := pt b29 4) (fax 4 rfl U29 rfl Z3 rfl rfl rfl) rfl rfl <| dE (ld rfl G3 (Ctx.cell hc (k := 8) rfl rfl rfl)) rfl rfl <| ad_ 1 rfl <| dE (v := pt b29 0) (fax 0 rfl U35 rfl Z29 rfl rfl rfl) rfl rfl <| dE (v := pt b29 4) (fax 4 rfl U29 rfl Z3 rfl rfl rfl) rfl rfl <| dE (ld rfl G3 (Ctx.cell hc (k := 8) rfl rfl rfl)) rfl rfl ?_; replace hp := chk_some hp; obtain ⟨hg164, hp⟩ := hp; refine dE (rm rfl rfl hg164) rfl rfl <| ad_ 1 rfl <| dn (qn (Wseq (Wreg ?_))); refine au 6 rfl ?_; have hln := Ctx.rdLen hc (k := 7) rfl rfl reads_own; obtain ⟨b167, o168, u169, hi165, hi166⟩ := Ctx.rdAt hc (k := 7) rfl rfl reads_own ha132; clear hln; clear u169; refine sz (ixx rfl rfl U78 Z74 hi165 hi166 rfl) <| sz (ld rfl G74 (Ctx.rdAny hc (k := 7) rfl rfl ha132 0 _ rfl)) <| au 1 rfl ?_; refine fq 14 U77 Z75 G75 hc 0 ?_; refine sz (ln rfl U75) <| au 2 rfl <| sz (v := .agg #[.int .i64 (IntKind.i64.wrap (5 + j116)), .int .i64 ((y130.L.length : Nat) : Int), .int .i64 (Int.tmod (IntKind.i64.wrap ((Int.tmod y154 r11.1.Shape.Vocab) + r11.1.Shape.Vocab)) r11.1.Shape.Vocab), .int .i64 j60]) (bd_81_0_1_2_3 rfl rfl rfl rfl) ?_; replace hp := bind_some hp; obtain ⟨r170, hr170, hp⟩ := hp; replace hc := hc.m [32, 32]; have hnj := Ctx.ownVLen' hc (k := 1) rfl rfl; refine kz C20 ?_; refine law13_through_any (x2 := (⟨(IntKind.i64.wrap (5 + j116)), ((y130.L.length : Nat) : Int), (Int.tmod (IntKind.i64.wrap ((Int.tmod y154 r11.1.Shape.Vocab) + r11.1.Shape.Vocab)) r11.1.Shape.Vocab), j60⟩ : S_law13_run)) reads_own hc hr170 ?_; clear hc; intro a171 n172 q173 w174 hc; rw [← hnj] at hc; obtain rfl := hc.rz 0 reads_own; refine au 5 rfl <| rn (qn (Wseq (Wreg ?_))); refine au 1 rfl ?_; cases hb176 : r170.2.1
                     · replace hp := gneg hp (by rw [hb176]; exact Bool.false_ne_true); refine au 2 rfl ?_; (iterate 9 refine r0 rfl ?_); refine au 1 rfl <| rn (qn (Wct rfl (Wseq (Wreg ?_)))); refine au 1 rfl <| rn (qn (Wret (br (qr (qr (br (qr ?_))))))); replace hc := hc.m [31, 29, 27, 25, 23, 21, 19, 17, 15, 13, 11, 9, 7, 5, 3, 1]; obtain rfl := sj hp; exact fz R5 M5 (k _ hc)
                     · replace hp := gpos hp hb176; refine au 5 rfl ?_; have hln := Ctx.rdLen hc (k := 10) rfl rfl reads_own; obtain ⟨b179, o180, u181, hi177, hi178⟩ := Ctx.rdAt hc (k := 10) rfl rfl reads_own ha132; clear hln; clear u181; refine sz (ixx rfl rfl U78 Z74 hi177 hi178 rfl) <| sz (ld rfl G74 (Ctx.rdAny hc (k := 10) rfl rfl ha132 0 _ rfl)) <| au 1 rfl ?_; replace hc := hc.m [16, 16, 16, 16, 16, 16]; replace hc := S_ref08_Run.fd (x := y130) hc; replace hp := bind_some hp; obtain ⟨r182, hr182, hp⟩ := hp; refine kz C21 ?_; refine ref08_Run_One_any hc hr182 ?_; clear hc; intro a183 n184 q185 w186 hc; obtain rfl := hc.rz 0 reads_own; replace hp := bind_some hp; obtain ⟨r188, hr188, hp⟩ := hp; replace hc := hc.m [4]; refine kz C13 ?_; refine ref04_Ints_any reads_own reads_own hc hr188 ?_; clear hc; intro w189 hc; cases hb190 : r188
                       · replace hp := gneg hp (by rw [hb190]; exact Bool.false_ne_true); subst hb190; refine au 2 rfl <| rn (qn (Wct rfl (Wseq (Wreg ?_)))); refine au 1 rfl <| rn (qn (Wret (br (qr (qr (br (qr ?_))))))); replace hc := hc.m [23, 21, 19, 17, 15, 13, 11, 9, 7, 5, 3, 1]; obtain rfl := sj hp; exact fz R5 M5 (k _ hc)
                       · replace hp := gpos hp hb190; subst hb190; refine au 2 rfl <| rn (qn (Wcf rfl (Wskip (bn (qn ?_))))); replace hc := hc.m [4]; replace hc : Ctx w189 ((vPt S_ref08_Run.hp).r [pt b136 0] r182.2 :: oR .i32 21 a171 q173 r170.1 :: oR .i32 21 a183 q185 r182.1 :: Own S_api_Shard.pr 41 (.slice a38 j37.length q40) j37 :: OwnV (vPt S_cache_Store.hp) 43 (.slice a42 j41.length q44) r170.2.2 :: BigH (vPt S_ref08_Run.hp).r hs131 j58 j116 :: Own (pAny 1) 74 (.slice (some ⟨b139, o140, none⟩) 2 2) hs131 :: B b29 (S_api_Weights.cz r11.1 a12 q14 a15 q17 a18 q20 a21 q23) 35 :: hR .i8 a12 q14 r11.1.Embed.V :: hS S_api_Block.pr a15 q17 r11.1.Blocks :: hR .i8 a18 q20 r11.1.Last :: hR .i8 a21 q23 r11.1.Head.V :: P1 :: P2 :: Fr) := Ctx.exB _ _ (Ctx.sepB (Ctx.puB rfl hc)); replace hc := hc.m [12, 12, 4]; replace hc := Ctx.bigB1 hc ha132 hy130; replace hc : Ctx w189 (OwnV (vPt S_ref08_Run.hp) 74 (.slice (some ⟨b139, o140, none⟩) 2 2) (j58.set (j116).toNat r182.2) :: oR .i32 21 a171 q173 r170.1 :: oR .i32 21 a183 q185 r182.1 :: Own S_api_Shard.pr 41 (.slice a38 j37.length q40) j37 :: OwnV (vPt S_cache_Store.hp) 43 (.slice a42 j41.length q44) r170.2.2 :: B b29 (S_api_Weights.cz r11.1 a12 q14 a15 q17 a18 q20 a21 q23) 35 :: hR .i8 a12 q14 r11.1.Embed.V :: hS S_api_Block.pr a15 q17 r11.1.Blocks :: hR .i8 a18 q20 r11.1.Last :: hR .i8 a21 q23 r11.1.Head.V :: P1 :: P2 :: Fr) := Ctx.ownVB hc.swap; replace hc := hc.m [5, 3, 4, 4, 18, 18, 18, 18, 18, 18, 18, 18]; exact ⟨⟨(j58.set (j116).toNat r182.2), r170.2.2, rfl, hp, hc⟩, (kl rfl (km rfl (kl rfl kb)))⟩
                   · replace hp := h; clear h; refine Wexit (qx (be (qn ?_))); replace hc := hc.m [10, 10, 10, 10, 10, 10]; replace hc := S_ref08_Run.fd (x := y130) hc; replace hc : Ctx w129 ((vPt S_ref08_Run.hp).r [pt b136 0] y130 :: BigH (vPt S_ref08_Run.hp).r hs131 j58 j116 :: Own (pAny 1) 74 (.slice (some ⟨b139, o140, none⟩) 2 2) hs131 :: B b29 (S_api_Weights.cz r11.1 a12 q14 a15 q17 a18 q20 a21 q23) 35 :: hR .i8 a12 q14 r11.1.Embed.V :: hS S_api_Block.pr a15 q17 r11.1.Blocks :: hR .i8 a18 q20 r11.1.Last :: hR .i8 a21 q23 r11.1.Head.V :: P1 :: P2 :: Own S_api_Shard.pr 41 (.slice a38 j37.length q40) j37 :: OwnV (vPt S_cache_Store.hp) 43 (.slice a42 j41.length q44) j59 :: Fr) := Ctx.exB _ _ (Ctx.sepB (Ctx.puB rfl hc)); replace hc := hc.m [4, 4, 4]; replace hc := Ctx.bigB0 hc ha132 hy130; replace hc : Ctx w129 (OwnV (vPt S_ref08_Run.hp) 74 (.slice (some ⟨b139, o140, none⟩) 2 2) j58 :: B b29 (S_api_Weights.cz r11.1 a12 q14 a15 q17 a18 q20 a21 q23) 35 :: hR .i8 a12 q14 r11.1.Embed.V :: hS S_api_Block.pr a15 q17 r11.1.Blocks :: hR .i8 a18 q20 r11.1.Last :: hR .i8 a21 q23 r11.1.Head.V :: P1 :: P2 :: Own S_api_Shard.pr 41 (.slice a38 j37.length q40) j37 :: OwnV (vPt S_cache_Store.hp) 43 (.slice a42 j41.length q44) j59 :: Fr) := Ctx.ownVB hc.swap; exact ⟨⟨j58, j59, rfl, hp, hc⟩, (kl rfl (km rfl (kl rfl kb)))⟩
               · clear hp hc; intro vs u w191 hJ; obtain ⟨j114, j115, rfl, hp, hc⟩ := hJ; unfold law13_BlockWhole.J5 at hp; refine Wreg <| au 3 rfl <| rn (qn ?_); exact ⟨m2, Nat.lt_succ_self _, ⟨j114, j115, (IntKind.i64.wrap (j60 + 1)), rfl, hp, hc⟩, (kl rfl (km rfl (kl rfl k0)))⟩
         · replace hp := h; clear h; refine Wskip (qn (Wseq (Wblk (Wseq ?_)))); replace hc := hc.drew; refine Wdrw (fun j w' => True) [0, 0, 0, 0, 0, 16, 56, 0, 0, 256, 896, 2046, 4094, 8191, 16383] 0 550 rfl (by kernel_rfl) (fun _ _ => trivial) ?_; generalize hw : World.drew w46 = w192 at *; clear hw; refine ad_ 1 rfl <| dx (v := .agg (S_api_Weights.cz r11.1 a12 q14 a15 q17 a18 q20 a21 q23).toArray) rfl (ldg rfl G35 Z35 rfl (Ctx.cells hc (k := 1) rfl rfl 0 (vs := (S_api_Weights.cz r11.1 a12 q14 a15 q17 a18 q20 a21 q23)) rfl)) rfl rfl <| dx (v := .agg #[.int .i64 r11.2.Stages, .int .i64 r11.2.Parts]) rfl (ldg rfl G37 Z37 rfl (Ctx.cells hc (k := 0) rfl rfl 0 (vs := [.int .i64 r11.2.Stages, .int .i64 r11.2.Parts]) rfl)) rfl rfl <| ad_ 1 rfl <| ds (v := pt b32 1) rfl (fun w' hF => fax 1 rfl U37 rfl Z3 rfl rfl rfl) rfl <| dx rfl (ld rfl G3 (Ctx.cell hc (k := 0) rfl rfl rfl)) rfl rfl ?_; replace hp := chk_some hp; obtain ⟨hg193, hp⟩ := hp; refine ds rfl (fun w' hF => quw rfl rfl hg193) rfl <| ad_ 1 rfl <| ds (v := pt b32 1) rfl (fun w' hF => fax 1 rfl U37 rfl Z3 rfl rfl rfl) rfl <| dx rfl (ld rfl G3 (Ctx.cell hc (k := 0) rfl rfl rfl)) rfl rfl ?_; replace hp := chk_some hp; obtain ⟨hg194, hp⟩ := hp; refine ds rfl (fun w' hF => rm rfl rfl hg194) rfl ?_; replace hc := hc.dz 2; replace hc := hc.dz 4; replace hc := hc.dz 6; replace hc := hc.dz 8; replace hp := bind_some hp; obtain ⟨r195, hr195, hp⟩ := hp; replace hc := hc.m [2, 4, 6]; refine dc (cl C9 rfl rfl) rfl rfl ?_; refine ref11_Take_any (x0 := r11.1) (x1 := r11.2) hc hr195 ?_; clear hc; intro a196 n197 q198 a199 n200 q201 a202 n203 q204 a205 n206 q207 w208 hc; obtain rfl := hc.rz 0 reads_ro; obtain rfl := hc.rz 1 reads_ro; obtain rfl := hc.rz 2 reads_ro; obtain rfl := hc.rz 3 reads_ro; refine ⟨fun j hj hb => trivial, ?_⟩; replace hc := hc.dz 3; replace hc := hc.dz 3; replace hc := hc.dz 3; replace hc := hc.dz 3; replace hc : Ctx w208 (Hold S_api_Shard.pr (S_api_Shard.cz r195 a196 q198 a199 q201 a202 q204 a205 q207) r195 :: hR .i8 a196 q198 r195.Embed.V :: hS S_api_Block.pr a199 q201 r195.Blocks :: hR .i8 a202 q204 r195.Last :: hR .i8 a205 q207 r195.Head.V :: B b32 [.int .i64 r11.2.Stages, .int .i64 r11.2.Parts] 37 :: B b29 (S_api_Weights.cz r11.1 a12 q14 a15 q17 a18 q20 a21 q23) 35 :: hR .i8 a12 q14 r11.1.Embed.V :: hS S_api_Block.pr a15 q17 r11.1.Blocks :: hR .i8 a18 q20 r11.1.Last :: hR .i8 a21 q23 r11.1.Head.V :: P1 :: P2 :: Own S_api_Shard.pr 41 (.slice a38 j37.length q40) j37 :: OwnV (vPt S_cache_Store.hp) 43 (.slice a42 j41.length q44) j41 :: Fr) := S_api_Shard.cl hc; refine deE (Ctx.builtOp (css := [(S_api_Shard.cz r195 a196 q198 a199 q201 a202 q204 a205 q207)]) (xs := ([r195] : List S_api_Shard)) (E := S_api_Shard.pr) hc U72 Z41 V41 rfl rfl rfl rfl rfl rfl rfl rfl) rfl rfl ?_; clear hc; rintro _ w214 ⟨a213, rfl, hc⟩; refine ⟨fun j hj hb => trivial, ?_⟩; replace hp := bind_some hp; obtain ⟨z215, hz215, hp⟩ := hp; obtain ⟨hg216, e217⟩ := app_some hz215; refine deE (hc.ap 13 0 reads_own U72 Tryz.t41 hg216) rfl rfl ?_; clear hc; rintro _ w220 ⟨a218, q219, rfl, hc⟩; rw [← e217] at hc ⊢; replace hc := Ctx.n13 hc; refine ⟨fun j hj hb => trivial, ?_⟩; refine ad_ 1 rfl <| dn (qn (Wseq (Wreg ?_))); replace hp := bind_some hp; obtain ⟨r221, hr221, hp⟩ := hp; refine kz C10 ?_; refine cache_New_any hc hr221 ?_; clear hc; intro v222 w223 hc; refine au 5 rfl <| rn (qn (Wseq (Wseq (Wreg ?_)))); refine au 1 rfl ?_; cases hb224 : r221.1
           · replace hp := optN hp hb224; rw [hb224] at hc; replace hc := Ctx.ptoN hc; obtain ⟨u226, hc⟩ := hc; subst u226; refine sz (v := .bool true) (ept U43 rfl rfl) <| au 1 rfl ?_; (iterate 2 refine r0 rfl ?_); refine au 1 rfl <| rn (qn (Wct rfl (Wseq (Wreg ?_)))); refine au 1 rfl <| rn (qn (Wret (qr (br (qr (qr (br (qr ?_)))))))); replace hc := hc.m [29, 27, 21, 19, 17, 15, 13, 11, 9, 7, 5, 3, 1]; obtain rfl := sj hp; exact fz R5 M5 (k _ hc)
           · rename_i y225; replace hp := optS hp hb224; rw [hb224] at hc; replace hc := Ctx.ptoS hc; obtain ⟨b227, u228, hc⟩ := hc; subst u228; refine sz (v := .bool false) (epf U43 rfl rfl) <| au 4 rfl <| rn (qn ?_); refine Wif hp (fun _ h => ?_) fun _ h => ?_
             · replace hp := h; clear h; refine Wskip (qn (Wreg ?_)); refine au 2 rfl ?_; replace hc : Ctx w223 ((vPt S_cache_Store.hp).r [pt b227 0] y225 :: Own S_api_Shard.pr 41 (.slice a213 1 1) ([r195]) :: hR .i8 a196 q198 r195.Embed.V :: hS S_api_Block.pr a199 q201 r195.Blocks :: hR .i8 a202 q204 r195.Last :: hR .i8 a205 q207 r195.Head.V :: B b32 [.int .i64 r11.2.Stages, .int .i64 r11.2.Parts] 37 :: B b29 (S_api_Weights.cz r11.1 a12 q14 a15 q17 a18 q20 a21 q23) 35 :: hR .i8 a12 q14 r11.1.Embed.V :: hS S_api_Block.pr a15 q17 r11.1.Blocks :: hR .i8 a18 q20 r11.1.Last :: hR .i8 a21 q23 r11.1.Head.V :: P1 :: P2 :: Own S_api_Shard.pr 41 (.slice a218 z215.length q219) z215 :: OwnV (vPt S_cache_Store.hp) 43 (.slice a42 j41.length q44) j41 :: Fr) := Ctx.exB _ _ (Ctx.sepB (Ctx.puB rfl hc)); replace hc := Ctx.anyB (m := 1) [pt b227 0] rfl rfl hc; refine rsE (Ctx.builtOp (css := [[pt b227 0]]) (xs := ([[pt b227 0]] : List (List Value))) (E := pAny 1) hc U73 Z43 V43 rfl rfl rfl rfl rfl rfl rfl rfl) rfl ?_; clear hc; rintro _ w231 ⟨a230, rfl, hc⟩; replace hc : Ctx w231 (OwnV (vPt S_cache_Store.hp) 43 (.slice a230 1 1) ([y225]) :: Own S_api_Shard.pr 41 (.slice a213 1 1) ([r195]) :: hR .i8 a196 q198 r195.Embed.V :: hS S_api_Block.pr a199 q201 r195.Blocks :: hR .i8 a202 q204 r195.Last :: hR .i8 a205 q207 r195.Head.V :: B b32 [.int .i64 r11.2.Stages, .int .i64 r11.2.Parts] 37 :: B b29 (S_api_Weights.cz r11.1 a12 q14 a15 q17 a18 q20 a21 q23) 35 :: hR .i8 a12 q14 r11.1.Embed.V :: hS S_api_Block.pr a15 q17 r11.1.Blocks :: hR .i8 a18 q20 r11.1.Last :: hR .i8 a21 q23 r11.1.Head.V :: P1 :: P2 :: Own S_api_Shard.pr 41 (.slice a218 z215.length q219) z215 :: OwnV (vPt S_cache_Store.hp) 43 (.slice a42 j41.length q44) j41 :: Fr) := Ctx.ownV1 hc; replace hp := bind_some hp; obtain ⟨z232, hz232, hp⟩ := hp; obtain ⟨hg233, e234⟩ := app_some hz232; replace hc := hc.m [30]; refine rsE (Ctx.appendV hc U73 (i := Tryz.t43) rfl rfl rfl rfl rfl rfl rfl rfl hg233) rfl ?_; clear hc; rintro _ w237 ⟨a235, q236, rfl, hc⟩; rw [← e234] at hc ⊢; refine au 1 rfl <| rn (bn (qn (Wreg ?_))); refine au 3 rfl <| rn (qn ?_); replace hc := hc.m [11, 9, 7, 5, 3, 18, 18, 18, 18, 18, 18, 18, 18, 18]; exact ⟨m1, Nat.lt_succ_self _, ⟨z215, z232, (IntKind.i64.wrap (j45 + 1)), a218, z215.length, q219, a235, z232.length, q236, rfl, hp, hc⟩, (kl rfl k0)⟩
             · replace hp := h; clear h; refine Wseq (Wreg ?_); refine au 1 rfl <| rn (qn (Wret (qr (br (qr (qr (br (qr ?_)))))))); replace hc := hc.m [31, 29, 23, 21, 19, 17, 15, 13, 11, 9, 7, 5, 3, 1]; obtain rfl := sj hp; exact fz R5 M5 (k _ hc)
     · replace hp := h; clear h; refine Wseq (Wreg ?_); replace hp := bind_some hp; obtain ⟨r238, hr238, hp⟩ := hp; refine kz C7 ?_; refine law13_awake_any hc hr238 ?_; clear hc; intro w239 hc; refine au 1 rfl <| rn (qn (Wret (qr ?_))); replace hc := hc.m [1]; obtain rfl := sj hp; exact fz R5 M5 (k _ hc)
   · replace hp := gpos hp (of_decide_eq_true hb9); (iterate 3 refine r0 rfl ?_); refine au 1 rfl <| rn (qn (Wct rfl (Wseq (Wreg ?_)))); replace hp := bind_some hp; obtain ⟨r240, hr240, hp⟩ := hp; refine kz C7 ?_; refine law13_awake_any hc hr240 ?_; clear hc; intro w241 hc; refine au 1 rfl <| rn (qn (Wret (qr ?_))); replace hc := hc.m [1]; obtain rfl := sj hp; exact fz R5 M5 (k _ hc)

end Go.Proofs.YtbfiagimgokccaaGreat
end
section
namespace Go.Hp
open Go
theorem W_in {x : Int} (h : -9223372036854775808 ≤ x ∧ x ≤ 9223372036854775807) : IntKind.i64.wrap x = x := IntWalk.i64_in x h
theorem W_succ (k : Nat) (h : k < 4611686018427387904) : IntKind.i64.wrap ((k : Int) + 1) = ((k + 1 : Nat) : Int) := by rw [W_in (by omega)]; rfl
theorem W_range (x : Int) : -9223372036854775808 ≤ IntKind.i64.wrap x ∧ IntKind.i64.wrap x ≤ 9223372036854775807 := by
  rw [IntKind.wrap_i64]; omega
theorem W_rest (x : Int) (n : Int) (hn : 0 < n) (hb : n ≤ 1099511627776) : Int.tmod (IntKind.i64.wrap (Int.tmod x n + n)) n = x % n := by
  have a := Int.tmod_lt_of_pos x hn
  have b := Int.lt_tmod_of_pos x hn
  rw [W_in (by omega), Int.tmod_eq_emod_of_nonneg (by omega)]
  have h := Int.tmod_add_mul_tdiv x n
  rw [Int.add_emod_right]
  conv => rhs; rw [← h]
  rw [Int.add_mul_emod_self_left]
theorem W_restN (x : Int) (n : Nat) (hn : 0 < n) (hb : n ≤ 1099511627776) : ∃ k : Nat, k < n ∧ Int.tmod (IntKind.i64.wrap (Int.tmod x n + n)) n = k := by
  rw [W_rest x n (by omega) (by omega)]
  have h1 := Int.emod_nonneg x (show (n : Int) ≠ 0 by omega)
  have h2 := Int.emod_lt_of_pos x (show (0 : Int) < n by omega)
  exact ⟨(x % n).toNat, by omega, by omega⟩
theorem idx_nat {α : Type} (xs : List α) (k : Nat) : idx xs (k : Int) = xs[k]? := by simp [idx]
theorem idx_get {α : Type} (xs : List α) (k : Nat) (h : k < xs.length) : idx xs (k : Int) = some xs[k] := by rw [idx_nat, List.getElem?_eq_getElem h]
theorem app_ok {α : Type} (xs ys : List α) (h : xs.length + ys.length ≤ 4294967296) : app xs ys = some (xs ++ ys) := by unfold app; rw [if_pos h]
theorem chk_ok {α : Type} {p : Prop} [Decidable p] (x : Option α) (h : p) : chk p x = x := by unfold chk; rw [if_pos h]
end Go.Hp
namespace Go.Hp
def tabl {α : Type} (n : Nat) (f : Nat → α) : List α := (List.range n).map f
theorem tabl_len {α : Type} (n : Nat) (f : Nat → α) : (tabl n f).length = n := by simp [tabl]
theorem tabl_get {α : Type} {n : Nat} {f : Nat → α} {i : Nat} (h : i < (tabl n f).length) : (tabl n f)[i] = f i := by simp [tabl]
theorem tabl_get? {α : Type} {n : Nat} {f : Nat → α} {i : Nat} (h : i < n) : (tabl n f)[i]? = some (f i) := by simp [tabl, h]
theorem tabl_set {α : Type} (n : Nat) (f : Nat → α) (i : Nat) (v : α) : (tabl n f).set i v = tabl n (fun j => if j = i then v else f j) := by
  apply List.ext_getElem
  · simp [tabl]
  · intro j h1 h2
    simp only [List.getElem_set, tabl_get]
    by_cases e : i = j
    · subst e; simp
    · rw [if_neg e, if_neg (fun h => e h.symm)]
theorem tabl_map {α β : Type} (n : Nat) (f : Nat → α) (g : α → β) : (tabl n f).map g = tabl n (fun j => g (f j)) := by simp [tabl]
theorem tabl_rep {α : Type} (n : Nat) (v : α) : List.replicate n v = tabl n (fun _ => v) := by
  apply List.ext_getElem
  · simp [tabl]
  · intro j h1 h2; simp [tabl]
theorem tabl_congr {α : Type} {n : Nat} {f g : Nat → α} (h : ∀ j, j < n → f j = g j) : tabl n f = tabl n g := by
  apply List.ext_getElem
  · simp [tabl]
  · intro j h1 h2
    rw [tabl_get, tabl_get]; exact h j (by simpa [tabl] using h1)
end Go.Hp
end
section
namespace Go.Hp
open Go
set_option linter.unusedVariables false
set_option linter.unusedSimpArgs false
set_option linter.unusedSectionVars false
theorem optc_some {α β : Type} (x : α) (a : Option β) (f : α → Option β) : optc (some x) a f = f x := rfl
section
variable {κ β : Type} [DecidableEq κ]
theorem mget_mset (l : List (κ × β)) (k q : κ) (x : β) : mget (mset l k x) q = if q = k then some x else mget l q := by
  induction l with
  | nil => simp only [mset, mget]; by_cases h : q = k
           · subst h; simp
           · rw [if_neg (fun e => h e.symm), if_neg h]
  | cons p l ih =>
    obtain ⟨k', x'⟩ := p
    simp only [mset]
    by_cases hk : k' = k
    · subst hk
      simp only [if_true, mget]
      by_cases h : q = k'
      · subst h; simp
      · rw [if_neg (fun e => h e.symm), if_neg h, if_neg (fun e => h e.symm)]
    · simp only [hk, if_false, mget, ih]
      by_cases h : k' = q
      · subst h; simp [hk]
      · simp [h]
theorem keys_mset (l : List (κ × β)) (k : κ) (x : β) : (mset l k x).map Prod.fst = if k ∈ l.map Prod.fst then l.map Prod.fst else l.map Prod.fst ++ [k] := by
  induction l with
  | nil => simp [mset]
  | cons p l ih =>
    obtain ⟨k', x'⟩ := p
    simp only [mset]
    by_cases hk : k' = k
    · subst hk; simp
    · simp only [hk, if_false, List.map_cons, ih, List.mem_cons]
      by_cases h : k ∈ l.map Prod.fst
      · rw [if_pos h, if_pos (.inr h)]
      · rw [if_neg h, if_neg (fun q => q.elim (fun e => hk e.symm) h)]; rfl
theorem len_mset (l : List (κ × β)) (k : κ) (x : β) : (mset l k x).length = if k ∈ l.map Prod.fst then l.length else l.length + 1 := by
  have := congrArg List.length (keys_mset l k x)
  rw [List.length_map] at this
  rw [this]
  split <;> simp
end
end Go.Hp
end
section
namespace Go.Hp
open Go
set_option linter.unusedVariables false
set_option linter.unusedSimpArgs false
theorem loop_c {σ ρ : Type} (F : Nat → σ → Int → ρ) (c : Nat → σ) (n : Nat) (r : ρ) (hs : ∀ m i, i < n → F (m + 1) (c i) (i : Int) = F m (c (i + 1)) ((i + 1 : Nat) : Int)) (he : ∀ m, F (m + 1) (c n) (n : Int) = r) : ∀ m, n < m → F m (c 0) 0 = r := by
  have key : ∀ d m i, i + d = n → d < m → F m (c i) (i : Int) = r := by
    intro d
    induction d with
    | zero =>
      intro m i hi hm
      obtain ⟨m, rfl⟩ : ∃ q, m = q + 1 := ⟨m - 1, by omega⟩
      obtain rfl : i = n := by omega
      exact he m
    | succ d ih =>
      intro m i hi hm
      obtain ⟨m, rfl⟩ : ∃ q, m = q + 1 := ⟨m - 1, by omega⟩
      rw [hs m i (by omega)]
      exact ih m (i + 1) (by omega) (by omega)
  intro m hm
  exact key n m 0 (by omega) hm
end Go.Hp
end
section
namespace Go.Hp
open Go
set_option linter.unusedVariables false
theorem loop_to {σ ρ : Type} (F : Nat → σ → Int → ρ) (ι : Nat → Int) (n : Nat) (Inv : Nat → σ → Prop) (hs : ∀ m i s, i < n → Inv i s → ∃ s', Inv (i + 1) s' ∧ F (m + 1) s (ι i) = F m s' (ι (i + 1))) : ∀ m s, n < m → Inv 0 s → ∃ m' s', Inv n s' ∧ F m s (ι 0) = F (m' + 1) s' (ι n) := by
  have key : ∀ d m i s, i + d = n → d < m → Inv i s → ∃ m' s', Inv n s' ∧ F m s (ι i) = F (m' + 1) s' (ι n) := by
    intro d
    induction d with
    | zero =>
      intro m i s hi hm h
      obtain ⟨m, rfl⟩ : ∃ q, m = q + 1 := ⟨m - 1, by omega⟩
      obtain rfl : i = n := by omega
      exact ⟨m, s, h, rfl⟩
    | succ d ih =>
      intro m i s hi hm h
      obtain ⟨m, rfl⟩ : ∃ q, m = q + 1 := ⟨m - 1, by omega⟩
      obtain ⟨s', h', e⟩ := hs m i s (by omega) h
      rw [e]
      exact ih m (i + 1) s' (by omega) (by omega) h'
  intro m s hm h
  exact key n m 0 s (by omega) hm h
theorem idx_t {α : Type} {n : Nat} (f : Nat → α) {k : Nat} (h : k < n) : idx (tabl n f) (k : Int) = some (f k) := by rw [idx_nat, tabl_get? h]
theorem idx_d {α : Type} (l : List α) (d : α) {k : Nat} (h : k < l.length) : idx l (k : Int) = some (l.getD k d) := by
  rw [idx_get l k h, List.getD_eq_getElem?_getD, List.getElem?_eq_getElem h]; rfl
theorem tabl_succ {α : Type} (n : Nat) (f : Nat → α) : tabl (n + 1) f = tabl n f ++ [f n] := by simp [tabl, List.range_succ]
theorem tab_of {α : Type} (l : List α) (d : α) : l = tabl l.length (fun i => l.getD i d) := by
  apply List.ext_getElem
  · rw [tabl_len]
  · intro i h1 h2
    rw [tabl_get, List.getD_eq_getElem?_getD, List.getElem?_eq_getElem h1]; rfl
theorem len_app1 {α : Type} (l : List α) (x : α) : (l ++ [x]).length = l.length + 1 := by simp
end Go.Hp
end
section
namespace Go.Proofs.YtbfiagimgokccaaGreat
open Go Go.Hp
set_option linter.unusedVariables false
set_option linter.unusedSimpArgs false
def sh (x : Int) (n : Nat) : Int := if x % 2 ^ n > 2 ^ n / 2 then x / 2 ^ n + 1 else if x % 2 ^ n = 2 ^ n / 2 then (if 0 < n then (if x / 2 ^ n % 2 = 1 then x / 2 ^ n + 1 else x / 2 ^ n) else x / 2 ^ n) else x / 2 ^ n
theorem pow_pos' (n : Nat) : (0 : Int) < 2 ^ n := by
  have : 0 < 2 ^ n := Nat.two_pow_pos n
  exact_mod_cast this
theorem pow_le62 (k : Nat) (hk2 : k ≤ 62) : (2 : Int) ^ k ≤ 4611686018427387904 := by
  have : 2 ^ k ≤ 2 ^ 62 := Nat.pow_le_pow_right (by decide) hk2
  have hcast : ((2 ^ k : Nat) : Int) = (2 : Int) ^ k := by simp
  rw [← hcast]; omega
theorem half_in (x : Int) (hx : -9223372036854775808 ≤ x ∧ x ≤ 9223372036854775807) (n : Nat) (hn : 0 < n) : -4611686018427387904 ≤ x / 2 ^ n ∧ x / 2 ^ n < 4611686018427387904 := by
  obtain ⟨m, rfl⟩ : ∃ m, n = m + 1 := ⟨n - 1, by omega⟩
  have hp := pow_pos' (m + 1)
  have hpm := pow_pos' m
  have hps : (2 : Int) ^ (m + 1) = 2 ^ m * 2 := Int.pow_succ 2 m
  refine ⟨Int.le_ediv_of_mul_le hp ?_, Int.ediv_lt_of_lt_mul hp ?_⟩
  · have hm : -4611686018427387904 * (2 : Int) ^ (m + 1) ≤ -4611686018427387904 * 2 := Int.mul_le_mul_of_nonpos_left (by decide) (by omega)
    omega
  · have hm : 4611686018427387904 * 2 ≤ 4611686018427387904 * (2 : Int) ^ (m + 1) := Int.mul_le_mul_of_nonneg_left (by omega) (by decide)
    omega
theorem J3_is (m : Nat) (hm : m + 1 ≤ 62) (q r : Int) (hq : -4611686018427387904 ≤ q ∧ q < 4611686018427387904) (h0 : 0 ≤ r) (h1 : r < 2 ^ (m + 1)) :
    ref01_Shift.J3 (2 ^ (m + 1)) q r = some (if r > 2 ^ (m + 1) / 2 then q + 1 else if r = 2 ^ (m + 1) / 2 then (if q % 2 = 1 then q + 1 else q) else q) := by
  have hps : (2 : Int) ^ (m + 1) = 2 ^ m * 2 := Int.pow_succ 2 m
  have hpm := pow_pos' m
  have hle := pow_le62 (m + 1) hm
  have hh : (2 : Int) ^ (m + 1) / 2 = 2 ^ m := by rw [hps]; omega
  rw [hh]
  have par : ∀ z : Int, (Int.tmod z 2 ≠ 0) ↔ z % 2 = 1 := by
    intro z
    rw [Ne, ← Int.dvd_iff_tmod_eq_zero, Int.dvd_iff_emod_eq_zero]
    omega
  have hw : IntKind.i64.wrap (q + 1) = q + 1 := W_in (by omega)
  have hw2 : IntKind.i64.wrap (2 ^ (m + 1) - r) = 2 ^ (m + 1) - r := W_in (by omega)
  unfold ref01_Shift.J3
  rw [hw2]
  by_cases c1 : r > 2 ^ m
  · rw [if_pos (by omega), if_pos c1, ref01_Shift.J4, if_pos rfl, hw]
  · rw [if_neg (by omega), if_neg c1]
    by_cases c2 : r = 2 ^ m
    · rw [if_pos (by omega), if_pos c2, ref01_Shift.J4]
      by_cases c3 : q % 2 = 1
      · rw [if_pos (decide_eq_true ((par q).2 c3)), if_pos c3, hw]
      · rw [if_neg (by intro h; exact c3 ((par q).1 (of_decide_eq_true h))), if_neg c3]
    · rw [if_neg (by omega), if_neg c2, ref01_Shift.J4, if_neg (by decide)]
theorem refshift_loop (x : Int) (hx : -9223372036854775808 ≤ x ∧ x ≤ 9223372036854775807) (n : Nat) (hn : 0 < n) (hn2 : n ≤ 62) (d : Nat) : ∀ (k i : Nat), i + d = n → d < k →
    ref01_Shift.L2 x (n : Int) k (2 ^ i) (i : Int) = some (sh x n) := by
  induction d with
  | zero =>
    intro k i hi hk
    obtain ⟨k, rfl⟩ : ∃ m, k = m + 1 := ⟨k - 1, by omega⟩
    obtain rfl : i = n := by omega
    have hp := pow_pos' i
    have hfl := half_in x hx i hn
    obtain ⟨m, rfl⟩ : ∃ m, i = m + 1 := ⟨i - 1, by omega⟩
    have hpm := pow_pos' m
    have hps : (2 : Int) ^ (m + 1) = 2 ^ m * 2 := Int.pow_succ 2 m
    have hle := pow_le62 (m + 1) hn2
    have hdm := Int.mul_tdiv_add_tmod x (2 ^ (m + 1))
    have hlt := Int.tmod_lt_of_pos x hp
    have hgt : -(2 ^ (m + 1)) < Int.tmod x (2 ^ (m + 1)) := Int.lt_tmod_of_pos x hp
    rw [ref01_Shift.L2, if_neg (by omega), chk_ok _ (by omega), Option.bind_some, chk_ok _ (by omega)]
    unfold sh
    rw [if_pos (show 0 < m + 1 by omega)]
    by_cases hneg : Int.tmod x (2 ^ (m + 1)) < 0
    · have huq : x / 2 ^ (m + 1) = Int.tdiv x (2 ^ (m + 1)) - 1 ∧ x % 2 ^ (m + 1) = Int.tmod x (2 ^ (m + 1)) + 2 ^ (m + 1) := by
        refine (Int.ediv_emod_unique hp).2 ⟨?_, by omega, by omega⟩
        rw [Int.mul_sub, Int.mul_one]
        omega
      rw [if_pos hneg, Option.bind_some]
      rw [huq.1] at hfl ⊢
      rw [huq.2]
      generalize Int.tdiv x (2 ^ (m + 1)) = q at *
      generalize Int.tmod x (2 ^ (m + 1)) = r at *
      rw [W_in (x := q) (by omega), W_in (x := q - 1) (by omega), W_in (x := r + 2 ^ (m + 1)) (by omega)]
      exact J3_is m hn2 (q - 1) (r + 2 ^ (m + 1)) hfl (by omega) (by omega)
    · have huq : x / 2 ^ (m + 1) = Int.tdiv x (2 ^ (m + 1)) ∧ x % 2 ^ (m + 1) = Int.tmod x (2 ^ (m + 1)) := (Int.ediv_emod_unique hp).2 ⟨by omega, by omega, by omega⟩
      rw [if_neg hneg]
      rw [huq.1] at hfl ⊢
      rw [huq.2]
      generalize Int.tdiv x (2 ^ (m + 1)) = q at *
      generalize Int.tmod x (2 ^ (m + 1)) = r at *
      rw [W_in (x := q) (by omega)]
      exact J3_is m hn2 q r hfl (by omega) (by omega)
  | succ d ih =>
    intro k i hi hk
    obtain ⟨k, rfl⟩ : ∃ m, k = m + 1 := ⟨k - 1, by omega⟩
    have hps : (2 : Int) ^ (i + 1) = 2 ^ i * 2 := Int.pow_succ 2 i
    have hp := pow_pos' i
    have hle := pow_le62 (i + 1) (by omega)
    rw [ref01_Shift.L2, if_pos (by omega), W_in (x := 2 ^ i * 2) (by omega), ← hps, W_succ i (by omega)]
    exact ih k (i + 1) (by omega) (by omega)
theorem refshift_is {N : Nat} (hN : 100 ≤ N) (x a : Int) (hx : -9223372036854775808 ≤ x ∧ x ≤ 9223372036854775807) : ref01_Shift N x a = some (sh x (min (max a 0) 62).toNat) := by
  have key : ∀ b : Int, b ≤ 62 → ref01_Shift.J1 N x b = some (sh x (max b 0).toNat) := by
    intro b hb
    rw [ref01_Shift.J1]
    by_cases h : b ≤ 0
    · have e : (max b 0).toNat = 0 := by omega
      rw [if_pos h, e]
      unfold sh
      have e1 : x % (2 : Int) ^ 0 = 0 := by simp
      have e2 : (2 : Int) ^ 0 / 2 = 0 := by decide
      have e3 : x / (2 : Int) ^ 0 = x := by simp
      rw [e1, e2, e3, if_neg (by decide), if_pos rfl, if_neg (by decide)]
    · obtain ⟨n, rfl⟩ := Int.eq_ofNat_of_zero_le (show 0 ≤ b by omega)
      have e : (max (n : Int) 0).toNat = n := by omega
      rw [if_neg h, e]
      exact refshift_loop x hx n (by omega) (by omega) n N 0 (by omega) (by omega)
  unfold ref01_Shift
  by_cases h : a > 62
  · rw [if_pos h, key 62 (by decide), show min (max a 0) 62 = max 62 0 by omega]
  · rw [if_neg h, key a (by omega), show min (max a 0) 62 = max a 0 by omega]
theorem near_is (x a b : Int) (h : a ≤ b) : ref01_Near x a b = some (min (max x a) b) := by
  unfold ref01_Near
  by_cases h1 : x < a
  · rw [if_pos h1, show min (max x a) b = a by omega]
  · rw [if_neg h1]
    by_cases h2 : x > b
    · rw [if_pos h2, show min (max x a) b = b by omega]
    · rw [if_neg h2, show min (max x a) b = x by omega]
theorem mod_is (x : Int) : ref01_Mod x = some (IntKind.i32.wrap x) := by
  have a := Int.tmod_lt_of_pos x (show (0 : Int) < 4294967296 by decide)
  have b := Int.lt_tmod_of_pos x (show (0 : Int) < 4294967296 by decide)
  have h := Int.tmod_add_mul_tdiv x 4294967296
  have key : ∀ z q : Int, 0 ≤ z → z < 4294967296 → z + 4294967296 * q = x → ref01_Mod.J1 z = some (IntKind.i32.wrap x) := by
    intro z q h0 h1 h2
    unfold ref01_Mod.J1
    by_cases h3 : z ≥ 2147483648
    · rw [if_pos h3, Option.bind_some, W_in (by omega)]
      congr 1
      simp only [IntKind.wrap_i32]
      omega
    · rw [if_neg h3]
      congr 1
      simp only [IntKind.wrap_i32]
      omega
  unfold ref01_Mod
  by_cases hn : Int.tmod x 4294967296 < 0
  · rw [if_pos hn, Option.bind_some, W_in (by omega)]
    exact key _ (Int.tdiv x 4294967296 - 1) (by omega) (by omega) (by omega)
  · rw [if_neg hn]
    exact key _ (Int.tdiv x 4294967296) (by omega) (by omega) (by omega)

def tot : List Int → Int
  | [] => 0
  | x :: xs => x + tot xs
theorem tot_snoc (xs : List Int) (x : Int) : tot (xs ++ [x]) = tot xs + x := by
  induction xs with
  | nil => simp [tot]
  | cons y ys ih => rw [List.cons_append, tot, tot, ih]; omega
theorem wrap_is {N : Nat} (xs : List Int) (h : xs.length < N) (h2 : xs.length ≤ 1000000) : ref01_Wrap N xs = some (IntKind.i32.wrap (tot xs)) := by
  unfold ref01_Wrap
  refine loop_c (fun m (s : Int) i => ref01_Wrap.L1 xs m s i) (fun i => IntKind.i32.wrap (tot (xs.take i))) xs.length _ (fun m i hi => ?_) (fun m => ?_) N h
  · show ref01_Wrap.L1 xs (m + 1) _ (i : Int) = ref01_Wrap.L1 xs m _ _
    rw [ref01_Wrap.L1, if_pos (by omega), idx_get _ _ hi, Option.bind_some, mod_is, Option.bind_some, mod_is, Option.bind_some, W_succ i (by omega), List.take_succ_eq_append_getElem hi, tot_snoc]
    congr 1
    simp only [IntKind.wrap_i64, IntKind.wrap_i32]
    omega
  · show ref01_Wrap.L1 xs (m + 1) _ (xs.length : Int) = _
    rw [ref01_Wrap.L1, if_neg (by omega), List.take_length]
    congr 1
    simp only [IntKind.wrap_i32]
    omega
def dots (a b : List Int) : Nat → Int
  | 0 => 0
  | k + 1 => dots a b k + a.getD k 0 * b.getD k 0
theorem w32_add (x y : Int) : IntKind.i32.wrap (x + IntKind.i64.wrap y) = IntKind.i32.wrap (x + y) := by simp only [IntKind.wrap_i64, IntKind.wrap_i32]; omega
theorem w_mul (x y : Int) : IntKind.i64.wrap (IntKind.i64.wrap x * IntKind.i64.wrap y) = IntKind.i64.wrap (x * y) := by
  rw [IntKind.wrap_i64, IntKind.wrap_i64 (x * y)]
  have h : (IntKind.i64.wrap x * IntKind.i64.wrap y) % 18446744073709551616 = (x * y) % 18446744073709551616 := by
    have e : ∀ z : Int, IntKind.i64.wrap z % 18446744073709551616 = z % 18446744073709551616 := fun z => by rw [IntKind.wrap_i64]; omega
    rw [Int.mul_emod, e, e, ← Int.mul_emod]
  omega
theorem dot_is {N : Nat} (a b : List Int) (h : a.length = b.length) (hl : a.length < N) (h2 : a.length ≤ 1000000) : ref01_Dot N a b = some (IntKind.i32.wrap (dots a b a.length)) := by
  unfold ref01_Dot
  refine loop_c (fun m (s : List Int) i => ref01_Dot.L1 N a b m s i) (fun i => tabl i fun k => IntKind.i64.wrap (a.getD k 0 * b.getD k 0)) a.length _ (fun m i hi => ?_) (fun m => ?_) N hl
  · show ref01_Dot.L1 N a b (m + 1) _ (i : Int) = ref01_Dot.L1 N a b m _ _
    rw [ref01_Dot.L1, if_pos (by omega), decide_eq_true (by omega), ref01_Dot.J2, if_pos rfl, idx_d a 0 hi, Option.bind_some, idx_d b 0 (by omega), Option.bind_some, app_ok _ _ (by rw [tabl_len]; simp only [List.length_cons, List.length_nil]; omega), Option.bind_some, W_succ i (by omega), w_mul, tabl_succ]
  · show ref01_Dot.L1 N a b (m + 1) _ (a.length : Int) = _
    rw [ref01_Dot.L1, if_neg (by omega), ref01_Dot.J2, if_neg (by decide), wrap_is _ (by rw [tabl_len]; omega) (by rw [tabl_len]; omega), Option.bind_some]
    congr 1
    have : ∀ k, IntKind.i32.wrap (tot (tabl k fun k => IntKind.i64.wrap (a.getD k 0 * b.getD k 0))) = IntKind.i32.wrap (dots a b k) := by
      intro k
      induction k with
      | zero => rfl
      | succ k ih =>
        rw [tabl_succ, tot_snoc, dots, w32_add]
        simp only [IntKind.wrap_i32] at ih ⊢
        omega
    exact this _
def scl (x by_ n lo hi : Int) : Int := min (max (sh (IntKind.i64.wrap (IntKind.i64.wrap x * IntKind.i64.wrap by_)) (min (max n 0) 62).toNat) lo) hi
theorem refscale_is {N : Nat} (hN : 100 ≤ N) (x by_ n lo hi : Int) (h : lo ≤ hi) : ref01_Scale N x by_ n lo hi = some (scl x by_ n lo hi) := by
  unfold ref01_Scale
  rw [refshift_is hN _ _ (W_range _), Option.bind_some, near_is _ _ _ h, Option.bind_some]
  rfl
def matR (m : S_api_Mat) (r c : Nat) : Prop := m.Rows = r ∧ m.Cols = c ∧ m.V.length = r * c
theorem right_is {m : S_api_Mat} {r c : Nat} (h : matR m r c) (hr : r ≤ 200) (hc : c ≤ 200) : ref04_Right m = some true := by
  obtain ⟨h1, h2, h3⟩ := h
  have hrc : r * c ≤ 40000 := Nat.le_trans (Nat.mul_le_mul hr hc) (by decide)
  unfold ref04_Right
  rw [h1, h2, if_pos (by omega), if_pos (by omega), if_pos (by omega), if_pos (by omega), h3]
  have e : ((r * c : Nat) : Int) = (r : Int) * (c : Int) := by simp
  rw [W_in (by rw [← e]; omega), if_pos e, decide_eq_true (by omega)]
def rowOf (m : S_api_Mat) (c r : Nat) : List Int := tabl c fun j => m.V.getD (r * c + j) 0
def applyS (m : S_api_Mat) (x : List Int) (r c : Nat) : List Int := tabl r fun i => IntKind.i32.wrap (dots (rowOf m c i) x c)
theorem tabl_getD {α : Type} (n : Nat) (f : Nat → α) (d : α) (k : Nat) (h : k < n) : (tabl n f).getD k d = f k := by
  rw [List.getD_eq_getElem?_getD, tabl_get? h]; rfl
theorem dots_congr (a b a' b' : List Int) : ∀ k, (∀ j, j < k → a.getD j 0 = a'.getD j 0 ∧ b.getD j 0 = b'.getD j 0) → dots a b k = dots a' b' k
  | 0, _ => rfl
  | k + 1, h => by
    rw [dots, dots, dots_congr a b a' b' k (fun j hj => h j (by omega)), (h k (by omega)).1, (h k (by omega)).2]
theorem apply_is {N : Nat} {m : S_api_Mat} {r c : Nat} (h : matR m r c) (hr : r ≤ 200) (hc : c ≤ 200) (hN : 200 < N) (x : List Int) (hx : x.length = c) : ref04_Apply N m x = some (applyS m x r c, true) := by
  have hrt := right_is h hr hc
  obtain ⟨h1, h2, h3⟩ := h
  have hrc : ∀ i, i < r → i * c + c ≤ r * c := fun i hi => by
    have : (i + 1) * c ≤ r * c := Nat.mul_le_mul_right c (by omega)
    rw [Nat.succ_mul] at this; exact this
  have hrc2 : r * c ≤ 40000 := Nat.le_trans (Nat.mul_le_mul hr hc) (by decide)
  unfold ref04_Apply
  try rw [show (⟨m.Rows, m.Cols, m.V⟩ : S_api_Mat) = m from rfl]
  rw [hrt, Option.bind_some, if_pos rfl, if_neg (by omega)]
  refine loop_c (fun k (s : List Int) i => ref04_Apply.L1 N m x k s i) (fun i => tabl i fun i => IntKind.i32.wrap (dots (rowOf m c i) x c)) r _ (fun k i hi => ?_) (fun k => ?_) N (by omega)
  · show ref04_Apply.L1 N m x (k + 1) _ (i : Int) = ref04_Apply.L1 N m x k _ _
    rw [ref04_Apply.L1, if_pos (by omega)]
    have hi2 := hrc i hi
    refine loop_c (fun q (s : List Int) j => ref04_Apply.L2 N m x (tabl i fun i => IntKind.i32.wrap (dots (rowOf m c i) x c)) (i : Int) (ref04_Apply.L1 N m x k) q s j) (fun j => tabl j fun j => IntKind.i64.wrap (m.V.getD (i * c + j) 0 * x.getD j 0)) c _ (fun q j hj => ?_) (fun q => ?_) N (by omega)
    · show ref04_Apply.L2 N m x _ _ _ (q + 1) _ (j : Int) = _
      have e : IntKind.i64.wrap (IntKind.i64.wrap ((i : Int) * m.Cols) + (j : Int)) = ((i * c + j : Nat) : Int) := by
        rw [h2]
        have : (i : Int) * (c : Int) = ((i * c : Nat) : Int) := by simp
        rw [this, W_in (x := ((i * c : Nat) : Int)) (by omega), W_in (by omega)]
        omega
      rw [ref04_Apply.L2, if_pos (by omega), e, idx_d m.V 0 (by omega), Option.bind_some, idx_d x 0 (by omega), Option.bind_some, app_ok _ _ (by rw [tabl_len]; simp only [List.length_cons, List.length_nil]; omega), Option.bind_some, W_succ j (by omega), w_mul, tabl_succ]
    · show ref04_Apply.L2 N m x _ _ _ (q + 1) _ (c : Int) = _
      rw [ref04_Apply.L2, if_neg (by omega), wrap_is _ (by rw [tabl_len]; omega) (by rw [tabl_len]; omega), Option.bind_some, app_ok _ _ (by rw [tabl_len]; simp only [List.length_cons, List.length_nil]; omega), Option.bind_some, W_succ i (by omega)]
      have : ∀ k, k ≤ c → IntKind.i32.wrap (tot (tabl k fun j => IntKind.i64.wrap (m.V.getD (i * c + j) 0 * x.getD j 0))) = IntKind.i32.wrap (dots (rowOf m c i) x k) := by
        intro k
        induction k with
        | zero => intro _; rfl
        | succ k ih =>
          intro hk
          have ih := ih (by omega)
          rw [tabl_succ, tot_snoc, dots, w32_add, rowOf, tabl_getD _ _ _ _ (by omega)]
          rw [rowOf] at ih
          simp only [IntKind.wrap_i32] at ih ⊢
          omega
      rw [this c (Nat.le_refl _), tabl_succ]
  · show ref04_Apply.L1 N m x (k + 1) _ (r : Int) = _
    rw [ref04_Apply.L1, if_neg (by omega)]; rfl
theorem applyS_len (m : S_api_Mat) (x : List Int) (r c : Nat) : (applyS m x r c).length = r := tabl_len _ _
def quantsS (m : S_api_Mat) (x : List Int) (r c : Nat) : List Int := tabl r fun i => IntKind.i8.wrap (scl ((applyS m x r c).getD i 0) 1 7 (-128) 127)
theorem quants_is {N : Nat} {m : S_api_Mat} {r c : Nat} (h : matR m r c) (hr : r ≤ 200) (hc : c ≤ 200) (hN : 200 < N) (x : List Int) (hx : x.length = c) : ref08_quants N m x = some (quantsS m x r c) := by
  unfold ref08_quants
  try rw [show (⟨m.Rows, m.Cols, m.V⟩ : S_api_Mat) = m from rfl]
  rw [apply_is h hr hc hN x hx, Option.bind_some]
  refine loop_c (fun k (s : List Int) i => ref08_quants.L1 N (applyS m x r c, true) k s i) (fun i => tabl i fun i => IntKind.i8.wrap (scl ((applyS m x r c).getD i 0) 1 7 (-128) 127)) r _ (fun k i hi => ?_) (fun k => ?_) N (by omega)
  · show ref08_quants.L1 N _ (k + 1) _ (i : Int) = ref08_quants.L1 N _ k _ _
    have hl := applyS_len m x r c
    rw [ref08_quants.L1, if_pos (by rw [hl]; omega), idx_d _ 0 (by rw [hl]; omega), Option.bind_some, refscale_is (by omega) _ _ _ _ _ (by decide), Option.bind_some, app_ok _ _ (by rw [tabl_len]; simp only [List.length_cons, List.length_nil]; omega), Option.bind_some, W_succ i (by omega), tabl_succ]
  · show ref08_quants.L1 N _ (k + 1) _ (r : Int) = _
    have hl := applyS_len m x r c
    rw [ref08_quants.L1, if_neg (by rw [hl]; omega)]; rfl
theorem quantsS_len (m : S_api_Mat) (x : List Int) (r c : Nat) : (quantsS m x r c).length = r := tabl_len _ _
theorem wu_in {x : Int} (h : 0 ≤ x ∧ x < 18446744073709551616) : IntKind.u64.wrap x = x := by rw [IntKind.wrap_u64]; omega
theorem above_tot (a b c : Int) : ∃ t, ref02_above a b c = some t := by
  unfold ref02_above
  by_cases h1 : a = 0
  · exact ⟨_, if_pos h1⟩
  rw [if_neg h1]
  by_cases h2 : b = 0
  · exact ⟨_, if_pos h2⟩
  rw [if_neg h2, chk_ok _ h2, chk_ok _ h1]
  exact ⟨_, rfl⟩
theorem greatest_tot (x0 x1 : Int) : ∀ (k : Nat) (j1 j2 : Int), 0 ≤ j1 → j1 ≤ j2 → j2 ≤ 4294967296 → j2 - j1 ≤ 2 ^ k → ∃ r, ∀ m, k < m → ref02_greatest.L1 x0 x1 m j1 j2 = some r := by
  intro k
  induction k with
  | zero =>
    intro j1 j2 h0 h1 h2 h3
    refine ⟨j1, fun m hm => ?_⟩
    obtain ⟨m, rfl⟩ : ∃ q, m = q + 1 := ⟨m - 1, by omega⟩
    rw [ref02_greatest.L1, wu_in (by omega), if_neg (by simp at h3; omega)]
  | succ k ih =>
    intro j1 j2 h0 h1 h2 h3
    by_cases c : j2 - j1 > 1
    · obtain ⟨b, hb⟩ := above_tot ((j1 + j2) / 2) x0 x1
      have hp : (2 : Int) ^ (k + 1) = 2 ^ k * 2 := Int.pow_succ 2 k
      have hstep : ∀ m, ref02_greatest.L1 x0 x1 (m + 1) j1 j2 = if b = true then ref02_greatest.L1 x0 x1 m j1 ((j1 + j2) / 2) else ref02_greatest.L1 x0 x1 m ((j1 + j2) / 2) j2 := by
        intro m
        have e : IntKind.u64.wrap (Int.tdiv (IntKind.u64.wrap (j1 + j2)) 2) = (j1 + j2) / 2 := by
          rw [wu_in (x := j1 + j2) (by omega), Int.tdiv_eq_ediv_of_nonneg (by omega), wu_in (by omega)]
        rw [ref02_greatest.L1, wu_in (x := j2 - j1) (by omega), if_pos c, Option.bind_some, e, hb, Option.bind_some]
      cases b with
      | true =>
        obtain ⟨r, hr⟩ := ih j1 ((j1 + j2) / 2) h0 (by omega) (by omega) (by omega)
        refine ⟨r, fun m hm => ?_⟩
        obtain ⟨m, rfl⟩ : ∃ q, m = q + 1 := ⟨m - 1, by omega⟩
        rw [hstep, if_pos rfl]
        exact hr m (by omega)
      | false =>
        obtain ⟨r, hr⟩ := ih ((j1 + j2) / 2) j2 (by omega) (by omega) h2 (by omega)
        refine ⟨r, fun m hm => ?_⟩
        obtain ⟨m, rfl⟩ : ∃ q, m = q + 1 := ⟨m - 1, by omega⟩
        rw [hstep, if_neg (by decide)]
        exact hr m (by omega)
    · refine ⟨j1, fun m hm => ?_⟩
      obtain ⟨m, rfl⟩ : ∃ q, m = q + 1 := ⟨m - 1, by omega⟩
      rw [ref02_greatest.L1, wu_in (by omega), if_neg c]
def invS (n : Int) : Int := (ref02_Inverse 100 n).getD 0
theorem inverse_is {N : Nat} (hN : 100 ≤ N) (n : Int) : ref02_Inverse N n = some (invS n) := by
  unfold invS ref02_Inverse ref02_greatest
  by_cases h : n = 0
  · rw [if_pos h, if_pos h]; rfl
  · rw [if_neg h, if_neg h]
    obtain ⟨r, hr⟩ := greatest_tot n 281474976710656 32 0 4294967296 (by decide) (by decide) (by decide) (by decide)
    rw [hr N (by omega), hr 100 (by omega)]; rfl
def sqS (x : List Int) : Nat → Int
  | 0 => 0
  | k + 1 => IntKind.u64.wrap (sqS x k + IntKind.u64.wrap (IntKind.i64.wrap (min (max (IntKind.i64.wrap (x.getD k 0)) (-8388608)) 8388607 * min (max (IntKind.i64.wrap (x.getD k 0)) (-8388608)) 8388607)))
def normS (g x : List Int) : List Int := tabl x.length fun i => IntKind.i8.wrap (min (max (sh (IntKind.i64.wrap (IntKind.i64.wrap (min (max (IntKind.i64.wrap (x.getD i 0)) (-8388608)) 8388607 * IntKind.i64.wrap (invS (IntKind.u64.wrap (Int.tdiv (sqS x x.length) (IntKind.u64.wrap ((x.length : Nat) : Int)))))) * IntKind.i64.wrap (g.getD i 0))) 23) (-128)) 127)
theorem norm_is {N : Nat} (hN : 200 < N) (g x : List Int) (hg : g.length = x.length) (hl : x.length ≤ 200) : ref05_Norm N g x = some (normS g x) := by
  unfold ref05_Norm
  refine loop_c (fun m (s : Int) i => ref05_Norm.L1 N g x m s i) (fun i => sqS x i) x.length _ (fun m i hi => ?_) (fun m => ?_) N (by omega)
  · show ref05_Norm.L1 N g x (m + 1) _ (i : Int) = ref05_Norm.L1 N g x m _ _
    rw [ref05_Norm.L1, if_pos (by omega), idx_d x 0 hi, Option.bind_some, near_is _ _ _ (by decide), Option.bind_some, Option.bind_some, W_succ i (by omega)]
    rfl
  · show ref05_Norm.L1 N g x (m + 1) _ (x.length : Int) = _
    rw [ref05_Norm.L1, if_neg (by omega)]
    refine loop_c (fun m (s : List Int) i => ref05_Norm.L2 N g x (sqS x x.length) m s i) (fun i => tabl i fun i => IntKind.i8.wrap (min (max (sh (IntKind.i64.wrap (IntKind.i64.wrap (min (max (IntKind.i64.wrap (x.getD i 0)) (-8388608)) 8388607 * IntKind.i64.wrap (invS (IntKind.u64.wrap (Int.tdiv (sqS x x.length) (IntKind.u64.wrap ((x.length : Nat) : Int)))))) * IntKind.i64.wrap (g.getD i 0))) 23) (-128)) 127)) x.length _ (fun m i hi => ?_) (fun m => ?_) N (by omega)
    · show ref05_Norm.L2 N g x _ (m + 1) _ (i : Int) = ref05_Norm.L2 N g x _ m _ _
      have hu : IntKind.u64.wrap ((x.length : Nat) : Int) = ((x.length : Nat) : Int) := wu_in (by omega)
      rw [ref05_Norm.L2, if_pos (by omega), chk_ok _ (by rw [hu]; omega), inverse_is (by omega), Option.bind_some, idx_d x 0 hi, Option.bind_some, near_is _ _ _ (by decide), Option.bind_some, idx_d g 0 (by omega), Option.bind_some, refshift_is (by omega) _ _ (W_range _), Option.bind_some, near_is _ _ _ (by decide), Option.bind_some, app_ok _ _ (by rw [tabl_len]; simp only [List.length_cons, List.length_nil]; omega), Option.bind_some, W_succ i (by omega), tabl_succ]
      rfl
    · show ref05_Norm.L2 N g x _ (m + 1) _ (x.length : Int) = _
      rw [ref05_Norm.L2, if_neg (by omega)]; rfl
theorem normS_len (g x : List Int) : (normS g x).length = x.length := tabl_len _ _
def tbl : List Int := (65536 :: 64132 :: 62757 :: 61413 :: 60097 :: 58809 :: 57549 :: 56316 :: 55109 :: 53928 :: 52773 :: 51642 :: 50535 :: 49452 :: 48393 :: 47356 :: 46341 :: 45348 :: 44376 :: 43425 :: 42495 :: 41584 :: 40693 :: 39821 :: 38968 :: 38133 :: 37316 :: 36516 :: 35734 :: 34968 :: 34219 :: 33486 :: 32768 :: [])
theorem T_is (i : Nat) (h : i < 33) : ref02_T (i : Int) = some (tbl.getD i 0) := by
  unfold ref02_T
  exact (congrArg (fun o => Option.bind o _) (idx_d tbl 0 (show i < tbl.length from h))).trans rfl
def expS (x : Int) : Int :=
  if x > 0 then 65536 else if x < -10000000 then 0 else
    let t := (0 - x) * 94548 / 65536
    if t / 65536 > 31 then 0 else
    IntKind.i32.wrap (sh (IntKind.i64.wrap (tbl.getD (t % 65536 / 2048).toNat 0 - sh (IntKind.i64.wrap (IntKind.i64.wrap (tbl.getD (t % 65536 / 2048).toNat 0 - tbl.getD ((t % 65536 / 2048).toNat + 1) 0) * (t % 65536 % 2048))) 11)) (t / 65536).toNat)
theorem exp_is {N : Nat} (hN : 100 ≤ N) (x : Int) : ref02_Exp N x = some (expS x) := by
  unfold ref02_Exp expS
  by_cases h1 : x > 0
  · rw [if_pos h1, if_pos h1]
  rw [if_neg h1, if_neg h1]
  by_cases h2 : x < -10000000
  · rw [if_pos h2, if_pos h2]
  rw [if_neg h2, if_neg h2]
  have e3 : IntKind.i64.wrap (Int.tdiv (IntKind.i64.wrap (IntKind.i64.wrap (0 - x) * 94548)) 65536) = (0 - x) * 94548 / 65536 := by
    rw [W_in (x := 0 - x) (by omega), W_in (x := (0 - x) * 94548) (by omega), Int.tdiv_eq_ediv_of_nonneg (by omega), W_in (by omega)]
  have ht : 0 ≤ (0 - x) * 94548 / 65536 ∧ (0 - x) * 94548 / 65536 ≤ 20000000 := by omega
  generalize (0 - x) * 94548 / 65536 = t at e3 ht ⊢
  have m1 : Int.tmod t 65536 = t % 65536 := Int.tmod_eq_emod_of_nonneg ht.1
  obtain ⟨i, hi⟩ := Int.eq_ofNat_of_zero_le (show 0 ≤ t % 65536 / 2048 by omega)
  have hi2 : i < 32 := by omega
  have e5 : IntKind.i64.wrap (Int.tdiv (Int.tmod t 65536) 2048) = (i : Int) := by
    rw [m1, Int.tdiv_eq_ediv_of_nonneg (by omega), hi, W_in (by omega)]
  have e6 : Int.tmod (Int.tmod t 65536) 2048 = t % 65536 % 2048 := by rw [m1, Int.tmod_eq_emod_of_nonneg (by omega)]
  have e4 : IntKind.i64.wrap (Int.tdiv t 65536) = t / 65536 := by rw [Int.tdiv_eq_ediv_of_nonneg ht.1, W_in (by omega)]
  rw [e3, Option.bind_some, e4, Option.bind_some, e5, Option.bind_some, e6, Option.bind_some, T_is i (by omega), Option.bind_some, Option.bind_some, W_succ i (by omega), T_is (i + 1) (by omega), Option.bind_some, refshift_is hN _ _ (W_range _), Option.bind_some]
  by_cases h3 : t / 65536 > 31
  · rw [if_pos h3, if_pos h3]
  · rw [if_neg h3, if_neg h3, refshift_is hN _ _ (W_range _), Option.bind_some, hi, Int.toNat_natCast]
    rw [show min (max (t / 65536) 0) 62 = t / 65536 by omega]
    rfl
theorem w32_range (x : Int) : -2147483648 ≤ IntKind.i32.wrap x ∧ IntKind.i32.wrap x ≤ 2147483647 := by rw [IntKind.wrap_i32]; omega
theorem expS_range (x : Int) : -2147483648 ≤ expS x ∧ expS x ≤ 2147483647 := by
  unfold expS
  split
  · decide
  split
  · decide
  dsimp only
  split
  · decide
  · exact w32_range _
def sumS (x : List Int) : Nat → Int
  | 0 => 0
  | k + 1 => if x.getD k 0 > 0 then sumS x k + x.getD k 0 else sumS x k
def sharesS (t : Int) (x : List Int) : List Int := tabl x.length fun i => if x.getD i 0 > 0 ∧ t > 0 then IntKind.i32.wrap (IntKind.i64.wrap (Int.tdiv (IntKind.i64.wrap (IntKind.i64.wrap (x.getD i 0) * IntKind.i64.wrap t)) (sumS x x.length))) else 0
def in32 (x : List Int) : Prop := ∀ k, -2147483648 ≤ x.getD k 0 ∧ x.getD k 0 ≤ 2147483647
theorem sumS_range (x : List Int) (h : in32 x) : ∀ k, 0 ≤ sumS x k ∧ sumS x k ≤ 2147483647 * k ∧ ∀ j, j < k → x.getD j 0 ≤ sumS x k
  | 0 => ⟨Int.le_refl _, Int.le_refl _, fun j hj => by omega⟩
  | k + 1 => by
    obtain ⟨a, b, c⟩ := sumS_range x h k
    have := h k
    rw [sumS]
    by_cases hk : x.getD k 0 > 0
    · rw [if_pos hk]
      refine ⟨by omega, by omega, fun j hj => ?_⟩
      by_cases e : j = k
      · subst e; omega
      · have := c j (by omega); omega
    · rw [if_neg hk]
      refine ⟨a, by omega, fun j hj => ?_⟩
      by_cases e : j = k
      · subst e; omega
      · exact c j (by omega)
theorem shares_is {N : Nat} (t : Int) (x : List Int) (h : in32 x) (hl : x.length ≤ 200) (hN : 200 < N) : ref02_Shares N t x = some (sharesS t x) := by
  unfold ref02_Shares
  refine loop_c (fun m (s : Int) i => ref02_Shares.L1 N t x m s i) (fun i => sumS x i) x.length _ (fun m i hi => ?_) (fun m => ?_) N (by omega)
  · show ref02_Shares.L1 N t x (m + 1) _ (i : Int) = ref02_Shares.L1 N t x m _ _
    obtain ⟨a, b, c⟩ := sumS_range x h i
    have hx := h i
    rw [ref02_Shares.L1, if_pos (by omega), idx_d x 0 hi, Option.bind_some]
    by_cases hk : x.getD i 0 > 0
    · rw [if_pos hk, Option.bind_some, Option.bind_some, ref02_Shares.J5, W_succ i (by omega), W_in (x := x.getD i 0) (by omega), W_in (by omega), sumS, if_pos hk]
    · rw [if_neg hk, ref02_Shares.J5, W_succ i (by omega), sumS, if_neg hk]
  · show ref02_Shares.L1 N t x (m + 1) _ (x.length : Int) = _
    rw [ref02_Shares.L1, if_neg (by omega)]
    refine loop_c (fun m (s : List Int) i => ref02_Shares.L2 t x (sumS x x.length) m s i) (fun i => tabl i fun i => if x.getD i 0 > 0 ∧ t > 0 then IntKind.i32.wrap (IntKind.i64.wrap (Int.tdiv (IntKind.i64.wrap (IntKind.i64.wrap (x.getD i 0) * IntKind.i64.wrap t)) (sumS x x.length))) else 0) x.length _ (fun m i hi => ?_) (fun m => ?_) N (by omega)
    · show ref02_Shares.L2 t x _ (m + 1) _ (i : Int) = ref02_Shares.L2 t x _ m _ _
      obtain ⟨a, b, c⟩ := sumS_range x h x.length
      have hx := c i hi
      rw [ref02_Shares.L2, if_pos (by omega), idx_d x 0 hi, Option.bind_some]
      have j4 : ∀ q : Bool, (q = true ↔ x.getD i 0 > 0 ∧ t > 0) → ref02_Shares.J4 t x (sumS x x.length) (tabl i fun i => if x.getD i 0 > 0 ∧ t > 0 then IntKind.i32.wrap (IntKind.i64.wrap (Int.tdiv (IntKind.i64.wrap (IntKind.i64.wrap (x.getD i 0) * IntKind.i64.wrap t)) (sumS x x.length))) else 0) (i : Int) (ref02_Shares.L2 t x (sumS x x.length) m) q = ref02_Shares.L2 t x (sumS x x.length) m (tabl (i + 1) fun i => if x.getD i 0 > 0 ∧ t > 0 then IntKind.i32.wrap (IntKind.i64.wrap (Int.tdiv (IntKind.i64.wrap (IntKind.i64.wrap (x.getD i 0) * IntKind.i64.wrap t)) (sumS x x.length))) else 0) ((i + 1 : Nat) : Int) := by
        intro q hq
        unfold ref02_Shares.J4 ref02_Shares.J3
        rw [W_succ i (by omega), tabl_succ]
        cases q with
        | true =>
          have hc := hq.1 rfl
          rw [if_pos rfl, idx_d x 0 hi, Option.bind_some, chk_ok _ (by omega), Option.bind_some, app_ok _ _ (by rw [tabl_len]; simp only [List.length_cons, List.length_nil]; omega), Option.bind_some, if_pos hc]
        | false =>
          rw [if_neg (by decide), app_ok _ _ (by rw [tabl_len]; simp only [List.length_cons, List.length_nil]; omega), Option.bind_some, if_neg (fun e => by cases hq.2 e)]
          rfl
      by_cases hk : x.getD i 0 > 0
      · rw [if_pos hk]
        exact j4 _ ⟨fun e => ⟨hk, of_decide_eq_true e⟩, fun e => decide_eq_true e.2⟩
      · rw [if_neg hk]
        exact j4 false ⟨fun e => (by cases e), fun e => absurd e.1 hk⟩
    · show ref02_Shares.L2 t x _ (m + 1) _ (x.length : Int) = _
      rw [ref02_Shares.L2, if_neg (by omega)]; rfl
theorem sharesS_len (t : Int) (x : List Int) : (sharesS t x).length = x.length := tabl_len _ _
def topS (x : List Int) (t : Int) : Nat → Int
  | 0 => t
  | k + 1 => if x.getD k 0 > topS x t k then x.getD k 0 else topS x t k
def powS (by_ n : Int) (x : List Int) : List Int := tabl x.length fun i => expS (sh (IntKind.i64.wrap (IntKind.i64.wrap (IntKind.i64.wrap (x.getD i 0) - IntKind.i64.wrap (topS x (x.getD i 0) x.length)) * IntKind.i64.wrap by_)) (min (max n 0) 62).toNat)
def softS (by_ n : Int) (x : List Int) : List Int := sharesS 65536 (powS by_ n x)
theorem softmax_is {N : Nat} (by_ n : Int) (x : List Int) (hl : x.length ≤ 200) (hN : 200 < N) : ref05_Softmax N by_ n x = some (softS by_ n x) := by
  unfold ref05_Softmax
  refine loop_c (fun m (s : List Int) i => ref05_Softmax.L1 N by_ n x m s i) (fun i => tabl i fun i => expS (sh (IntKind.i64.wrap (IntKind.i64.wrap (IntKind.i64.wrap (x.getD i 0) - IntKind.i64.wrap (topS x (x.getD i 0) x.length)) * IntKind.i64.wrap by_)) (min (max n 0) 62).toNat)) x.length _ (fun m i hi => ?_) (fun m => ?_) N (by omega)
  · show ref05_Softmax.L1 N by_ n x (m + 1) _ (i : Int) = ref05_Softmax.L1 N by_ n x m _ _
    rw [ref05_Softmax.L1, if_pos (by omega), idx_d x 0 hi, Option.bind_some]
    refine loop_c (fun q (s : Int) j => ref05_Softmax.L2 N by_ n x (tabl i fun i => expS (sh (IntKind.i64.wrap (IntKind.i64.wrap (IntKind.i64.wrap (x.getD i 0) - IntKind.i64.wrap (topS x (x.getD i 0) x.length)) * IntKind.i64.wrap by_)) (min (max n 0) 62).toNat)) (i : Int) (ref05_Softmax.L1 N by_ n x m) q s j) (fun j => topS x (x.getD i 0) j) x.length _ (fun q j hj => ?_) (fun q => ?_) N (by omega)
    · show ref05_Softmax.L2 N by_ n x _ _ _ (q + 1) _ (j : Int) = _
      rw [ref05_Softmax.L2, if_pos (by omega), idx_d x 0 hj, Option.bind_some]
      by_cases c : x.getD j 0 > topS x (x.getD i 0) j
      · rw [if_pos c, Option.bind_some, ref05_Softmax.J3, W_succ j (by omega), topS, if_pos c]
      · rw [if_neg c, ref05_Softmax.J3, W_succ j (by omega), topS, if_neg c]
    · show ref05_Softmax.L2 N by_ n x _ _ _ (q + 1) _ (x.length : Int) = _
      rw [ref05_Softmax.L2, if_neg (by omega), idx_d x 0 hi, Option.bind_some, refshift_is (by omega) _ _ (W_range _), Option.bind_some, exp_is (by omega), Option.bind_some, app_ok _ _ (by rw [tabl_len]; simp only [List.length_cons, List.length_nil]; omega), Option.bind_some, W_succ i (by omega), tabl_succ]
  · show ref05_Softmax.L1 N by_ n x (m + 1) _ (x.length : Int) = _
    rw [ref05_Softmax.L1, if_neg (by omega)]
    have hp : in32 (powS by_ n x) := by
      intro k
      by_cases hk : k < x.length
      · rw [powS, tabl_getD _ _ _ _ hk]; exact expS_range _
      · rw [List.getD_eq_getElem?_getD, List.getElem?_eq_none (by rw [powS, tabl_len]; omega)]; decide
    have := shares_is (N := N) 65536 (powS by_ n x) hp (by rw [powS, tabl_len]; omega) hN
    rw [powS] at this
    rw [this, Option.bind_some]
    rfl
theorem softS_len (by_ n : Int) (x : List Int) : (softS by_ n x).length = x.length := by rw [softS, sharesS_len, powS, tabl_len]
def accS (ws : List Int) (rows : List (List Int)) (k : Nat) : Nat → Int
  | 0 => 0
  | i + 1 => IntKind.i64.wrap (accS ws rows k i + IntKind.i64.wrap (IntKind.i64.wrap (ws.getD i 0) * IntKind.i64.wrap ((rows.getD i []).getD k 0)))
theorem accS_range (ws : List Int) (rows : List (List Int)) (k : Nat) : ∀ i, -9223372036854775808 ≤ accS ws rows k i ∧ accS ws rows k i ≤ 9223372036854775807
  | 0 => by rw [accS]; decide
  | i + 1 => W_range _
def mixS (ws : List Int) (rows : List (List Int)) (n : Nat) : List Int := tabl n fun k => IntKind.i8.wrap (min (max (sh (accS ws rows k rows.length) 16) (-128)) 127)
theorem mix_is {N : Nat} (ws : List Int) (rows : List (List Int)) (n : Nat) (hw : ws.length = rows.length) (h0 : 0 < rows.length) (hr : rows.length ≤ 200) (hn : ∀ i, i < rows.length → (rows.getD i []).length = n) (hn2 : n ≤ 200) (hN : 200 < N) : ref05_Mix N ws rows = some (mixS ws rows n, true) := by
  unfold ref05_Mix
  rw [if_neg (by omega)]
  have h00 : idx rows (0 : Int) = some (rows.getD 0 []) := idx_d rows [] h0
  have hn0 := hn 0 h0
  refine loop_c (fun m (_ : Unit) i => ref05_Mix.L1 N ws rows m i) (fun _ => ()) rows.length _ (fun m i hi => ?_) (fun m => ?_) N (by omega)
  · show ref05_Mix.L1 N ws rows (m + 1) (i : Int) = ref05_Mix.L1 N ws rows m _
    have := hn i hi
    rw [ref05_Mix.L1, if_pos (by omega), idx_d rows [] hi, Option.bind_some, h00, Option.bind_some, if_neg (by omega), W_succ i (by omega)]
  · show ref05_Mix.L1 N ws rows (m + 1) (rows.length : Int) = _
    rw [ref05_Mix.L1, if_neg (by omega), if_neg (by omega)]
    refine loop_c (fun m (s : List Int) i => ref05_Mix.L2 N ws rows m s i) (fun i => tabl i fun k => IntKind.i8.wrap (min (max (sh (accS ws rows k rows.length) 16) (-128)) 127)) n _ (fun m k hk => ?_) (fun m => ?_) N (by omega)
    · show ref05_Mix.L2 N ws rows (m + 1) _ (k : Int) = ref05_Mix.L2 N ws rows m _ _
      rw [ref05_Mix.L2, h00, Option.bind_some, if_pos (by omega)]
      refine loop_c (fun q (s : Int) j => ref05_Mix.L3 N ws rows (tabl k fun k => IntKind.i8.wrap (min (max (sh (accS ws rows k rows.length) 16) (-128)) 127)) (k : Int) (ref05_Mix.L2 N ws rows m) q s j) (fun j => accS ws rows k j) rows.length _ (fun q j hj => ?_) (fun q => ?_) N (by omega)
      · show ref05_Mix.L3 N ws rows _ _ _ (q + 1) _ (j : Int) = _
        have := hn j hj
        rw [ref05_Mix.L3, if_pos (by omega), idx_d ws 0 (by omega), Option.bind_some, idx_d rows [] hj, Option.bind_some, idx_d _ 0 (by omega), Option.bind_some, W_succ j (by omega)]
        rfl
      · show ref05_Mix.L3 N ws rows _ _ _ (q + 1) _ (rows.length : Int) = _
        rw [ref05_Mix.L3, if_neg (by omega), refshift_is (by omega) _ _ (accS_range _ _ _ _), Option.bind_some, near_is _ _ _ (by decide), Option.bind_some, app_ok _ _ (by rw [tabl_len]; simp only [List.length_cons, List.length_nil]; omega), Option.bind_some, W_succ k (by omega), tabl_succ]
        rfl
    · show ref05_Mix.L2 N ws rows (m + 1) _ (n : Int) = _
      rw [ref05_Mix.L2, h00, Option.bind_some, if_neg (by omega)]; rfl
theorem mixS_len (ws : List Int) (rows : List (List Int)) (n : Nat) : (mixS ws rows n).length = n := tabl_len _ _
def joinS (x y : List Int) (by_ n : Int) : List Int := tabl x.length fun i => IntKind.i32.wrap (x.getD i 0 + scl (y.getD i 0) by_ n (-2147483648) 2147483647)
theorem join_is {N : Nat} (x y : List Int) (by_ n : Int) (h : y.length = x.length) (hl : x.length ≤ 200) (hN : 200 < N) : ref05_Join N x y by_ n = some (joinS x y by_ n) := by
  unfold ref05_Join
  refine loop_c (fun m (s : List Int) i => ref05_Join.L1 N x y by_ n m s i) (fun i => tabl i fun i => IntKind.i32.wrap (x.getD i 0 + scl (y.getD i 0) by_ n (-2147483648) 2147483647)) x.length _ (fun m i hi => ?_) (fun m => ?_) N (by omega)
  · show ref05_Join.L1 N x y by_ n (m + 1) _ (i : Int) = ref05_Join.L1 N x y by_ n m _ _
    have e : IntKind.i32.wrap (tot [IntKind.i64.wrap (x.getD i 0), scl (y.getD i 0) by_ n (-2147483648) 2147483647]) = IntKind.i32.wrap (x.getD i 0 + scl (y.getD i 0) by_ n (-2147483648) 2147483647) := by
      simp only [tot, IntKind.wrap_i64, IntKind.wrap_i32]; omega
    rw [ref05_Join.L1, if_pos (by omega), idx_d x 0 hi, Option.bind_some, idx_d y 0 (by omega), Option.bind_some, refscale_is (by omega) _ _ _ _ _ (by decide), Option.bind_some, wrap_is _ (by simp; omega) (by simp), Option.bind_some, e, app_ok _ _ (by rw [tabl_len]; simp only [List.length_cons, List.length_nil]; omega), Option.bind_some, W_succ i (by omega), tabl_succ]
  · show ref05_Join.L1 N x y by_ n (m + 1) _ (x.length : Int) = _
    rw [ref05_Join.L1, if_neg (by omega)]; rfl
theorem joinS_len (x y : List Int) (by_ n : Int) : (joinS x y by_ n).length = x.length := tabl_len _ _
theorem rest_is (x : Int) (hx : -9223372036854775808 ≤ x ∧ x ≤ 9223372036854775807) : ref06_rest x = some (x % 65536) := by
  have a := Int.tmod_lt_of_pos x (show (0 : Int) < 65536 by decide)
  have b := Int.lt_tmod_of_pos x (show (0 : Int) < 65536 by decide)
  have h := Int.tmod_add_mul_tdiv x 65536
  unfold ref06_rest
  by_cases c : Int.tmod x 65536 < 0
  · rw [if_pos c, Option.bind_some, W_in (by omega)]
    congr 1; omega
  · rw [if_neg c]; congr 1; omega
def angS (place pair : Nat) : Int := (place : Int) * (8192 / 2 ^ pair) % 65536
theorem angle_is {N : Nat} (place pair : Nat) (hp : place ≤ 1000) (hq : pair ≤ 13) (hN : 200 < N) : ref06_Angle N (place : Int) (pair : Int) = some (angS place pair) := by
  unfold ref06_Angle
  rw [if_neg (by omega), if_neg (by omega), if_neg (by omega)]
  have hpos : ∀ i, i ≤ 13 → (0 : Int) < 8192 / 2 ^ i ∧ (8192 : Int) / 2 ^ i ≤ 8192 ∧ (8192 : Int) / 2 ^ i / 2 = 8192 / 2 ^ (i + 1) := by decide
  refine loop_c (fun m (s : Int) i => ref06_Angle.L1 (place : Int) (pair : Int) m s i) (fun i => 8192 / 2 ^ i) pair _ (fun m i hi => ?_) (fun m => ?_) N (by omega)
  · show ref06_Angle.L1 _ _ (m + 1) _ (i : Int) = ref06_Angle.L1 _ _ m _ _
    obtain ⟨h1, h2, h3⟩ := hpos i (by omega)
    rw [ref06_Angle.L1, if_pos (by omega), decide_eq_true h1, ref06_Angle.J2, if_pos rfl, Int.tdiv_eq_ediv_of_nonneg (by omega), W_in (by omega), Option.bind_some, W_succ i (by omega), h3]
  · show ref06_Angle.L1 _ _ (m + 1) _ (pair : Int) = _
    obtain ⟨h1, h2, h3⟩ := hpos pair hq
    have hm : (place : Int) * (8192 / 2 ^ pair) ≤ 1000 * 8192 := by
      refine Int.le_trans (Int.mul_le_mul_of_nonneg_right (show (place : Int) ≤ 1000 by omega) (by omega)) ?_
      exact Int.mul_le_mul_of_nonneg_left h2 (by decide)
    have hm0 : 0 ≤ (place : Int) * (8192 / 2 ^ pair) := Int.mul_nonneg (by omega) (by omega)
    rw [ref06_Angle.L1, if_neg (by omega), ref06_Angle.J2, if_neg (by decide), W_in (by omega), rest_is _ (by omega), Option.bind_some]
    rfl
def sinT : List Int := (0 :: 804 :: 1606 :: 2404 :: 3196 :: 3981 :: 4756 :: 5520 :: 6270 :: 7005 :: 7723 :: 8423 :: 9102 :: 9760 :: 10394 :: 11003 :: 11585 :: 12140 :: 12665 :: 13160 :: 13623 :: 14053 :: 14449 :: 14811 :: 15137 :: 15426 :: 15679 :: 15893 :: 16069 :: 16207 :: 16305 :: 16364 :: 16384 :: [])
theorem S_is (i : Nat) (h : i < 33) : ref06_S (i : Int) = some (sinT.getD i 0) := by
  unfold ref06_S
  exact (congrArg (fun o => Option.bind o _) (idx_d sinT 0 (show i < sinT.length from h))).trans rfl
def arcS (f : Int) : Int := if f / 512 < 32 then IntKind.i64.wrap (sinT.getD (f / 512).toNat 0 + sh (IntKind.i64.wrap (IntKind.i64.wrap (sinT.getD ((f / 512).toNat + 1) 0 - sinT.getD (f / 512).toNat 0) * (f % 512))) 9) else sinT.getD 32 0
def sinS (a : Int) : Int :=
  let r := a % 65536; let q := r / 16384; let f := if q = 1 ∨ q = 3 then 16384 - r % 16384 else r % 16384
  if q = 2 ∨ q = 3 then IntKind.i32.wrap (IntKind.i64.wrap (0 - arcS f)) else IntKind.i32.wrap (arcS f)
theorem sin_is {N : Nat} (hN : 200 < N) (a : Int) (ha : -9223372036854775808 ≤ a ∧ a ≤ 9223372036854775807) : ref06_Sin N a = some (sinS a) := by
  have hr : 0 ≤ a % 65536 ∧ a % 65536 < 65536 := by omega
  unfold ref06_Sin sinS
  rw [rest_is a ha, Option.bind_some]
  generalize a % 65536 = r at hr ⊢
  dsimp only
  have eq : IntKind.i64.wrap (Int.tdiv r 16384) = r / 16384 := by rw [Int.tdiv_eq_ediv_of_nonneg hr.1, W_in (by omega)]
  have em : Int.tmod r 16384 = r % 16384 := Int.tmod_eq_emod_of_nonneg hr.1
  have hq : 0 ≤ r / 16384 ∧ r / 16384 ≤ 3 := by omega
  rw [eq, Option.bind_some]
  generalize r / 16384 = q at hq ⊢
  have j1 : ∀ f : Int, 0 ≤ f → f ≤ 16384 → ref06_Sin.J1 N q f = some (if q = 2 ∨ q = 3 then IntKind.i32.wrap (IntKind.i64.wrap (0 - arcS f)) else IntKind.i32.wrap (arcS f)) := by
    intro f h0 h1
    have j3 : ∀ z : Int, ref06_Sin.J3 q z = some (if q = 2 ∨ q = 3 then IntKind.i32.wrap (IntKind.i64.wrap (0 - z)) else IntKind.i32.wrap z) := by
      intro z
      unfold ref06_Sin.J3
      by_cases c2 : q = 2
      · rw [if_pos c2, ref06_Sin.J4, if_pos rfl, if_pos (.inl c2)]; rfl
      · rw [if_neg c2]
        by_cases c3 : q = 3
        · rw [decide_eq_true c3, ref06_Sin.J4, if_pos rfl, if_pos (.inr c3)]; rfl
        · rw [decide_eq_false c3, ref06_Sin.J4, if_neg (by decide), if_neg (by omega)]
    obtain ⟨i, hi⟩ := Int.eq_ofNat_of_zero_le (show 0 ≤ f / 512 by omega)
    have hi2 : i ≤ 32 := by omega
    have e11 : IntKind.i64.wrap (Int.tdiv f 512) = (i : Int) := by rw [Int.tdiv_eq_ediv_of_nonneg h0, hi, W_in (by omega)]
    unfold ref06_Sin.J1
    rw [e11, Option.bind_some, S_is i (by omega), Option.bind_some]
    unfold arcS
    by_cases c : f / 512 < 32
    · rw [if_pos (show (i : Int) < 32 by omega), W_succ i (by omega), S_is (i + 1) (by omega), Option.bind_some, Option.bind_some, refshift_is (by omega) _ _ (W_range _), Option.bind_some, j3, if_pos c, hi, Int.toNat_natCast, Int.tmod_eq_emod_of_nonneg h0]
      rfl
    · obtain rfl : i = 32 := by omega
      rw [if_neg (by decide), j3, if_neg c]
  by_cases c1 : q = 1
  · rw [if_pos c1, ref06_Sin.J2, if_pos rfl, em, W_in (by omega), Option.bind_some, j1 _ (by omega) (by omega), if_pos (show q = 1 ∨ q = 3 from .inl c1)]
  · rw [if_neg c1]
    by_cases c3 : q = 3
    · rw [decide_eq_true c3, ref06_Sin.J2, if_pos rfl, em, W_in (by omega), Option.bind_some, j1 _ (by omega) (by omega), if_pos (show q = 1 ∨ q = 3 from .inr c3)]
    · rw [decide_eq_false c3, ref06_Sin.J2, if_neg (by decide), em, j1 _ (by omega) (by omega), if_neg (show ¬ (q = 1 ∨ q = 3) by omega)]
def cosS (a : Int) : Int := sinS (a % 65536 + 16384)
theorem cos_is {N : Nat} (hN : 200 < N) (a : Int) (ha : -9223372036854775808 ≤ a ∧ a ≤ 9223372036854775807) : ref06_Cos N a = some (cosS a) := by
  unfold ref06_Cos cosS
  rw [rest_is a ha, Option.bind_some, W_in (by omega), sin_is hN _ (by omega), Option.bind_some]
def turnA (place : Nat) (x : List Int) (i : Nat) : Int := IntKind.i8.wrap (min (max (sh (IntKind.i64.wrap (IntKind.i64.wrap (IntKind.i64.wrap (x.getD (2 * i) 0) * IntKind.i64.wrap (cosS (angS place i))) - IntKind.i64.wrap (IntKind.i64.wrap (x.getD (2 * i + 1) 0) * IntKind.i64.wrap (sinS (angS place i))))) 14) (-128)) 127)
def turnB (place : Nat) (x : List Int) (i : Nat) : Int := IntKind.i8.wrap (min (max (sh (IntKind.i64.wrap (IntKind.i64.wrap (IntKind.i64.wrap (x.getD (2 * i) 0) * IntKind.i64.wrap (sinS (angS place i))) + IntKind.i64.wrap (IntKind.i64.wrap (x.getD (2 * i + 1) 0) * IntKind.i64.wrap (cosS (angS place i))))) 14) (-128)) 127)
def turnS (place : Nat) (x : List Int) : List Int := tabl (2 * (x.length / 2)) fun k => if k % 2 = 0 then turnA place x (k / 2) else turnB place x (k / 2)
theorem turn_is {N : Nat} (hN : 200 < N) (place : Nat) (hp : place ≤ 1000) (x : List Int) (hx : x.length ≤ 26) : ref06_Turn N (place : Int) x = some (turnS place x) := by
  unfold ref06_Turn
  obtain ⟨m', s', hs, e⟩ := loop_to (fun m (s : List Int) i => ref06_Turn.L1 N (place : Int) x m s i) (fun i => ((2 * i : Nat) : Int)) (x.length / 2) (fun i s => s = tabl (2 * i) fun k => if k % 2 = 0 then turnA place x (k / 2) else turnB place x (k / 2)) (fun m i s hi hs => by
    refine ⟨_, rfl, ?_⟩
    subst hs
    have ha : 0 ≤ angS place i ∧ angS place i < 65536 := by unfold angS; omega
    have e1 : IntKind.i64.wrap (((2 * i : Nat) : Int) + 1) = ((2 * i + 1 : Nat) : Int) := W_succ _ (by omega)
    have e2 : IntKind.i64.wrap (((2 * i : Nat) : Int) + 2) = ((2 * (i + 1) : Nat) : Int) := by rw [W_in (by omega)]; omega
    have e3 : IntKind.i64.wrap (Int.tdiv ((2 * i : Nat) : Int) 2) = (i : Int) := by rw [Int.tdiv_eq_ediv_of_nonneg (by omega), W_in (by omega)]; omega
    show ref06_Turn.L1 N _ x (m + 1) _ ((2 * i : Nat) : Int) = ref06_Turn.L1 N _ x m _ _
    rw [ref06_Turn.L1, e1, if_pos (by omega), e3, angle_is place i hp (by omega) hN, Option.bind_some, cos_is hN _ (by omega), Option.bind_some, sin_is hN _ (by omega), Option.bind_some, idx_d x 0 (by omega), Option.bind_some, idx_d x 0 (by omega), Option.bind_some,
      refshift_is (by omega) _ _ (W_range _), Option.bind_some, near_is _ _ _ (by decide), Option.bind_some, app_ok _ _ (by rw [tabl_len]; simp only [List.length_cons, List.length_nil]; omega), Option.bind_some, refshift_is (by omega) _ _ (W_range _), Option.bind_some, near_is _ _ _ (by decide), Option.bind_some, app_ok _ _ (by rw [List.length_append, tabl_len]; simp only [List.length_cons, List.length_nil]; omega), Option.bind_some, e2]
    congr 1
    rw [show 2 * (i + 1) = 2 * i + 1 + 1 by omega, tabl_succ, tabl_succ, if_pos (by omega), if_neg (by omega), show 2 * i / 2 = i by omega, show (2 * i + 1) / 2 = i by omega]
    rfl) N [] (by omega) rfl
  subst hs
  refine Eq.trans e ?_
  show ref06_Turn.L1 N _ x (m' + 1) _ ((2 * (x.length / 2) : Nat) : Int) = _
  rw [ref06_Turn.L1, W_succ _ (by omega), if_neg (by omega)]
  rfl
theorem turnS_len (place : Nat) (x : List Int) : (turnS place x).length = 2 * (x.length / 2) := tabl_len _ _
def part (x : List Int) (w h : Nat) : List Int := (x.take ((h + 1) * w)).drop (h * w)
theorem part_len (x : List Int) (w h k : Nat) (hx : x.length = k * w) (hh : h < k) : (part x w h).length = w := by
  have : (h + 1) * w ≤ k * w := Nat.mul_le_mul_right w (by omega)
  unfold part
  rw [List.length_drop, List.length_take, Nat.min_eq_left (by omega), Nat.succ_mul]
  omega
def turnedS (place w : Nat) (x : List Int) : Nat → List Int
  | 0 => []
  | k + 1 => turnedS place w x k ++ turnS place (part x w k)
theorem turnedS_len (place w : Nat) (x : List Int) (n : Nat) (hx : x.length = n * w) (hw : w % 2 = 0) : ∀ k, k ≤ n → (turnedS place w x k).length = k * w
  | 0, _ => by simp [turnedS]
  | k + 1, hk => by
    rw [turnedS, List.length_append, turnedS_len place w x n hx hw k (by omega), turnS_len, part_len x w k n hx (by omega)]
    have : (k + 1) * w = k * w + w := Nat.succ_mul k w
    have : 2 * (w / 2) = w := by omega
    omega
theorem turned_is {N : Nat} (hN : 200 < N) (place w n : Nat) (hp : place ≤ 1000) (x : List Int) (hx : x.length = n * w) (hn : n ≤ 150) (hw : 0 < w) (hw2 : w % 2 = 0) (hw3 : w ≤ 26) : ref08_turned N (place : Int) (w : Int) x = some (turnedS place w x n) := by
  unfold ref08_turned
  have hnw : ∀ i, i ≤ n → i * w ≤ n * w := fun i hi => Nat.mul_le_mul_right w hi
  have hb : n * w ≤ 150 * 26 := Nat.mul_le_mul hn hw3
  obtain ⟨m', s', hs, e⟩ := loop_to (fun m (s : List Int) i => ref08_turned.L1 N (place : Int) (w : Int) x m s i) (fun i => ((i * w : Nat) : Int)) n (fun i s => s = turnedS place w x i) (fun m i s hi hs => by
    refine ⟨_, rfl, ?_⟩
    subst hs
    have h1 := hnw (i + 1) (by omega)
    have h2 : (i + 1) * w = i * w + w := Nat.succ_mul i w
    have e1 : IntKind.i64.wrap (((i * w : Nat) : Int) + (w : Int)) = (((i + 1) * w : Nat) : Int) := by rw [W_in (by omega)]; omega
    have hpl := part_len x w i n hx hi
    show ref08_turned.L1 N _ _ x (m + 1) _ ((i * w : Nat) : Int) = ref08_turned.L1 N _ _ x m _ _
    rw [ref08_turned.L1, if_pos (by omega), e1, chk_ok _ (by omega), Int.toNat_natCast, Int.toNat_natCast]
    have ht := turn_is hN place hp (part x w i) (by omega)
    rw [show (x.take ((i + 1) * w)).drop (i * w) = part x w i from rfl, ht, Option.bind_some, app_ok _ _ (by rw [turnedS_len place w x n hx hw2 i (by omega), turnS_len]; omega), Option.bind_some]
    rfl) N [] (by omega) rfl
  subst hs
  have e0 : ((0 * w : Nat) : Int) = 0 := by simp
  rw [show ref08_turned.L1 N (place : Int) (w : Int) x N [] 0 = ref08_turned.L1 N (place : Int) (w : Int) x N [] ((0 * w : Nat) : Int) by rw [e0]]
  refine Eq.trans e ?_
  show ref08_turned.L1 N _ _ x (m' + 1) _ ((n * w : Nat) : Int) = _
  rw [ref08_turned.L1, if_neg (by omega)]
set_option linter.unusedSectionVars false
structure Dim where
  ly : Nat
  h : Nat
  wd : Nat
  inn : Nat
  voc : Nat
  pl : Nat
def Dim.w (d : Dim) : Nat := d.h * d.wd
structure DOK (d : Dim) : Prop where
  ly : 0 < d.ly ∧ d.ly ≤ 3
  h : 0 < d.h ∧ d.h ≤ 4
  wd : 0 < d.wd ∧ d.wd % 2 = 0 ∧ d.wd ≤ 16
  w : d.h * d.wd ≤ 16
  inn : 0 < d.inn ∧ d.inn ≤ 8
  voc : 0 < d.voc ∧ d.voc ≤ 10
  pl : d.pl ≤ 12
structure BOK (d : Dim) (b : S_api_Block) : Prop where
  first : b.First.length = d.w
  second : b.Second.length = d.w
  q : matR b.Q d.w d.w
  k : matR b.K d.w d.w
  v : matR b.V d.w d.w
  o : matR b.O d.w d.w
  up : matR b.Up d.inn d.w
  down : matR b.Down d.w d.inn
structure WOK (d : Dim) (w : S_api_Weights) : Prop where
  layers : w.Shape.Layers = d.ly
  width : w.Shape.Width = (d.w : Nat)
  heads : w.Shape.Heads = d.h
  inner : w.Shape.Inner = d.inn
  vocab : w.Shape.Vocab = d.voc
  places : w.Shape.Places = d.pl
  embed : matR w.Embed d.voc d.w
  blen : w.Blocks.length = d.ly
  blocks : ∀ b ∈ w.Blocks, BOK d b
  last : w.Last.length = d.w
  head : matR w.Head d.voc d.w
def zB : S_api_Block := ⟨[], [], ⟨0, 0, []⟩, ⟨0, 0, []⟩, ⟨0, 0, []⟩, ⟨0, 0, []⟩, ⟨0, 0, []⟩, ⟨0, 0, []⟩⟩
def zK : S_ref08_Kept := ⟨[], []⟩
def KOK (d : Dim) (n : Nat) (k : S_ref08_Kept) : Prop := k.K.length = n ∧ k.V.length = n ∧ (∀ r ∈ k.K, r.length = d.w) ∧ ∀ r ∈ k.V, r.length = d.w
def headS (d : Dim) (L : List S_ref08_Kept) (n : Nat) (q : List Int) (h : Nat) : List Int :=
  mixS (softS 64 0 (tabl L.length fun p => IntKind.i32.wrap (dots (part q d.wd h) (part ((L.getD p zK).K.getD n []) d.wd h) d.wd))) (tabl L.length fun p => part ((L.getD p zK).V.getD n []) d.wd h) d.wd
def attS (d : Dim) (L : List S_ref08_Kept) (n : Nat) (q : List Int) : Nat → List Int
  | 0 => []
  | k + 1 => attS d L n q k ++ headS d L n q k
def reluS (u : List Int) : List Int := tabl u.length fun i => if u.getD i 0 < 0 then 0 else u.getD i 0
def qS (d : Dim) (b : S_api_Block) (place : Nat) (x : List Int) : List Int := turnedS place d.wd (quantsS b.Q (normS b.First x) d.w d.w) d.h
def kS (d : Dim) (b : S_api_Block) (place : Nat) (x : List Int) : List Int := turnedS place d.wd (quantsS b.K (normS b.First x) d.w d.w) d.h
def vS (d : Dim) (b : S_api_Block) (x : List Int) : List Int := quantsS b.V (normS b.First x) d.w d.w
def tailS (d : Dim) (b : S_api_Block) (x heads : List Int) : List Int :=
  let x1 := joinS x (applyS b.O heads d.w d.w) 1 4
  joinS x1 (applyS b.Down (reluS (quantsS b.Up (normS b.Second x1) d.inn d.w)) d.w d.inn) 1 4
def layersS (d : Dim) (w : S_api_Weights) (L : List S_ref08_Kept) (x : List Int) : Nat → S_ref08_Kept × List Int
  | 0 => (zK, x)
  | n + 1 =>
    let s := layersS d w L x n
    let b := w.Blocks.getD n zB
    let k : S_ref08_Kept := ⟨s.1.K ++ [kS d b L.length s.2], s.1.V ++ [vS d b s.2]⟩
    (k, tailS d b s.2 (attS d (L ++ [k]) n (qS d b L.length s.2) d.h))
def inS (d : Dim) (w : S_api_Weights) (t : Nat) : List Int := tabl d.w fun i => IntKind.i32.wrap (16 * IntKind.i32.wrap (w.Embed.V.getD (t * d.w + i) 0))
def keptS (d : Dim) (w : S_api_Weights) (L : List S_ref08_Kept) (t : Nat) : S_ref08_Kept := (layersS d w L (inS d w t) d.ly).1
def outS (d : Dim) (w : S_api_Weights) (L : List S_ref08_Kept) (t : Nat) : List Int := applyS w.Head (normS w.Last (layersS d w L (inS d w t) d.ly).2) d.voc d.w
theorem getD_in {α : Type} (l : List α) (z : α) (k : Nat) (h : k < l.length) : l.getD k z ∈ l := by
  rw [List.getD_eq_getElem?_getD, List.getElem?_eq_getElem h]; exact List.getElem_mem h
theorem matR_eta (m : S_api_Mat) : (⟨m.Rows, m.Cols, m.V⟩ : S_api_Mat) = m := rfl
section
variable {d : Dim} (hd : DOK d)
include hd
theorem dw16 : d.w ≤ 16 := hd.w
theorem headS_len (L : List S_ref08_Kept) (n : Nat) (q : List Int) (h : Nat) : (headS d L n q h).length = d.wd := mixS_len _ _ _
theorem attS_len (L : List S_ref08_Kept) (n : Nat) (q : List Int) : ∀ k, (attS d L n q k).length = k * d.wd
  | 0 => by simp [attS]
  | k + 1 => by rw [attS, List.length_append, attS_len L n q k, headS_len hd, Nat.succ_mul]
theorem partw_is (x : List Int) (h : Nat) (hx : x.length = d.w) (hh : h < d.h) : (0 : Int) ≤ IntKind.i64.wrap ((h : Int) * (d.wd : Int)) ∧ IntKind.i64.wrap ((h : Int) * (d.wd : Int)) ≤ IntKind.i64.wrap (IntKind.i64.wrap ((h : Int) + 1) * (d.wd : Int)) ∧ IntKind.i64.wrap (IntKind.i64.wrap ((h : Int) + 1) * (d.wd : Int)) ≤ ((x.length : Nat) : Int) ∧ ((x.take (IntKind.i64.wrap (IntKind.i64.wrap ((h : Int) + 1) * (d.wd : Int))).toNat).drop (IntKind.i64.wrap ((h : Int) * (d.wd : Int))).toNat) = part x d.wd h := by
  have h1 : (h + 1) * d.wd ≤ d.h * d.wd := Nat.mul_le_mul_right _ (by omega)
  have h2 := hd.w
  have h3 : (h + 1) * d.wd = h * d.wd + d.wd := Nat.succ_mul _ _
  have e1 : (h : Int) * (d.wd : Int) = ((h * d.wd : Nat) : Int) := by simp
  have e2 : ((h + 1 : Nat) : Int) * (d.wd : Int) = (((h + 1) * d.wd : Nat) : Int) := by simp
  rw [W_succ h (by have := hd.h; omega), e1, e2, W_in (x := ((h * d.wd : Nat) : Int)) (by omega), W_in (by omega), Int.toNat_natCast, Int.toNat_natCast]
  have : d.w = d.h * d.wd := rfl
  exact ⟨by omega, by omega, by omega, rfl⟩
theorem relu_loop {N : Nat} (hN : 200 < N) (j69 : Int) (b : S_api_Block) (j256 : S_ref08_Run) (r271 u : List Int) (hu : u.length ≤ 100) (k2 : S_ref08_Run → List Int → Int → Option (List Int × S_ref08_Run)) :
    ∃ m, ref08_Run_One.L4 N j69 b j256 r271 u k2 N u 0 = ref08_Run_One.L4 N j69 b j256 r271 u k2 (m + 1) (reluS u) ((u.length : Nat) : Int) := by
  obtain ⟨m', s', hs, e⟩ := loop_to (fun m (s : List Int) i => ref08_Run_One.L4 N j69 b j256 r271 u k2 m s i) (fun i => (i : Int)) u.length (fun i s => s = tabl u.length fun k => if k < i ∧ u.getD k 0 < 0 then 0 else u.getD k 0) (fun m i s hi hs => by
    refine ⟨_, rfl, ?_⟩
    subst hs
    show ref08_Run_One.L4 N j69 b j256 r271 u k2 (m + 1) _ (i : Int) = _
    rw [ref08_Run_One.L4, if_pos (by omega), idx_t _ hi, Option.bind_some, if_neg (show ¬ (i < i ∧ u.getD i 0 < 0) by omega)]
    by_cases c : u.getD i 0 < 0
    · rw [if_pos c, Option.bind_some, ref08_Run_One.J5, W_succ i (by omega), Int.toNat_natCast, tabl_set]
      congr 1
      refine tabl_congr fun j hj => ?_
      by_cases e : j = i
      · subst e; rw [if_pos rfl, if_pos ⟨by omega, c⟩]
      · rw [if_neg e]
        by_cases e2 : j < i ∧ u.getD j 0 < 0
        · rw [if_pos e2, if_pos ⟨by omega, e2.2⟩]
        · rw [if_neg e2, if_neg (by omega)]
    · rw [if_neg c, ref08_Run_One.J5, W_succ i (by omega)]
      congr 1
      refine tabl_congr fun j hj => ?_
      by_cases e : j = i
      · subst e; rw [if_neg (by omega), if_neg (by omega)]
      · by_cases e2 : j < i ∧ u.getD j 0 < 0
        · rw [if_pos e2, if_pos ⟨by omega, e2.2⟩]
        · rw [if_neg e2, if_neg (by omega)]) N u (by omega) (by
    conv => lhs; rw [tab_of u 0]
    exact tabl_congr fun j hj => by rw [if_neg (by omega)])
  refine ⟨m', e.trans ?_⟩
  show ref08_Run_One.L4 N j69 b j256 r271 u k2 (m' + 1) s' ((u.length : Nat) : Int) = _
  rw [hs]
  congr 1
  refine tabl_congr fun j hj => ?_
  by_cases e : u.getD j 0 < 0
  · rw [if_pos ⟨hj, e⟩, if_pos e]
  · rw [if_neg (fun h => e h.2), if_neg e]
theorem head_is {N : Nat} (hN : 200 < N) (x0 j256 : S_ref08_Run) (L : List S_ref08_Kept) (n : Nat) (hn : n < d.ly) (hL : L.length ≤ 100) (hL0 : L ≠ []) (hj : j256.L = L) (hx0 : x0.L.length + 1 = L.length) (hK : ∀ k ∈ L, n < k.K.length ∧ n < k.V.length ∧ (∀ r ∈ k.K, r.length = d.w) ∧ ∀ r ∈ k.V, r.length = d.w)
    (q j257 : List Int) (hq : q.length = d.w) (h : Nat) (hh : h < d.h) (hj2 : j257.length ≤ 1000) (k3 : S_ref08_Run → List Int → Int → Option (List Int × S_ref08_Run)) :
    ref08_Run_One.L6 N x0 (d.wd : Int) (n : Int) q j256 j257 (h : Int) k3 N [] [] 0 = k3 j256 (j257 ++ headS d L n q h) ((h + 1 : Nat) : Int) := by
  have hlp : 0 < L.length := List.length_pos_iff.2 hL0
  have hdd := hd.h; have hly := hd.ly; have hw := hd.w; have hwd := hd.wd
  have hkk : ∀ p, p < L.length → ((L.getD p zK).K.getD n []).length = d.w ∧ ((L.getD p zK).V.getD n []).length = d.w := fun p hp => by
    obtain ⟨a, b, c, e⟩ := hK _ (getD_in L zK p hp)
    exact ⟨c _ (getD_in _ _ _ a), e _ (getD_in _ _ _ b)⟩
  refine loop_c (fun m (s : List Int × List (List Int)) i => ref08_Run_One.L6 N x0 (d.wd : Int) (n : Int) q j256 j257 (h : Int) k3 m s.1 s.2 i) (fun p => (tabl p fun p => IntKind.i32.wrap (dots (part q d.wd h) (part ((L.getD p zK).K.getD n []) d.wd h) d.wd), tabl p fun p => part ((L.getD p zK).V.getD n []) d.wd h)) L.length _ (fun m p hp => ?_) (fun m => ?_) N (by omega)
  · show ref08_Run_One.L6 N x0 _ _ q j256 j257 _ k3 (m + 1) (tabl p _) (tabl p _) (p : Int) = ref08_Run_One.L6 N x0 _ _ q j256 j257 _ k3 m (tabl (p + 1) _) (tabl (p + 1) _) _
    obtain ⟨a, b, c, e⟩ := hK _ (getD_in L zK p hp)
    obtain ⟨k1, k2⟩ := hkk p hp
    obtain ⟨q1, q2, q3, q4⟩ := partw_is hd q h hq hh
    obtain ⟨p1, p2, p3, p4⟩ := partw_is hd _ h k1 hh
    obtain ⟨v1, v2, v3, v4⟩ := partw_is hd _ h k2 hh
    have lq := part_len q d.wd h d.h (by rw [hq]; rfl) hh
    have lk := part_len _ d.wd h d.h (by rw [k1]; rfl) hh
    have hdot := dot_is (N := N) (part q d.wd h) (part ((L.getD p zK).K.getD n []) d.wd h) (by rw [lq, lk]) (by rw [lq]; omega) (by rw [lq]; omega)
    rw [lq] at hdot
    rw [ref08_Run_One.L6, if_pos (by omega), chk_ok _ ⟨q1, q2, q3⟩, hj, idx_d L zK hp, Option.bind_some, idx_d _ [] a, Option.bind_some, chk_ok _ ⟨p1, p2, p3⟩, q4, p4, hdot, Option.bind_some, app_ok _ _ (by rw [tabl_len]; simp only [List.length_cons, List.length_nil]; omega), Option.bind_some, idx_d _ [] b, Option.bind_some, chk_ok _ ⟨v1, v2, v3⟩, v4, app_ok _ _ (by rw [tabl_len]; simp only [List.length_cons, List.length_nil]; omega), Option.bind_some, W_succ p (by omega), tabl_succ, tabl_succ]
  · show ref08_Run_One.L6 N x0 _ _ q j256 j257 _ k3 (m + 1) (tabl L.length _) (tabl L.length _) (L.length : Int) = _
    have hmx := mix_is (N := N) (softS 64 0 (tabl L.length fun p => IntKind.i32.wrap (dots (part q d.wd h) (part ((L.getD p zK).K.getD n []) d.wd h) d.wd))) (tabl L.length fun p => part ((L.getD p zK).V.getD n []) d.wd h) d.wd (by rw [softS_len, tabl_len, tabl_len]) (by rw [tabl_len]; exact hlp) (by rw [tabl_len]; omega) (fun i hi => by
      rw [tabl_len] at hi
      rw [tabl_getD _ _ _ _ hi]
      exact part_len _ d.wd h d.h (by rw [(hkk i hi).2]; rfl) hh) (by omega) hN
    rw [ref08_Run_One.L6, if_neg (by omega), softmax_is _ _ _ (by rw [tabl_len]; omega) hN, Option.bind_some, hmx, Option.bind_some, app_ok _ _ (by rw [mixS_len]; omega), Option.bind_some, W_succ h (by omega)]
    rfl
end
theorem set_last {α : Type} (l : List α) (a b : α) : (l ++ [a]).set (((l.length : Nat) : Int)).toNat b = l ++ [b] := by
  rw [Int.toNat_natCast]; simp
theorem idx_last {α : Type} (l : List α) (a : α) : idx (l ++ [a]) ((l.length : Nat) : Int) = some a := by rw [idx_nat]; simp
section
variable {d : Dim} (hd : DOK d)
include hd
theorem kS_len {b : S_api_Block} (hb : BOK d b) (place : Nat) (x : List Int) : (kS d b place x).length = d.w := by
  rw [kS, turnedS_len place d.wd _ d.h (by rw [quantsS_len]; rfl) hd.wd.2.1 d.h (Nat.le_refl _)]; rfl
theorem qS_len {b : S_api_Block} (hb : BOK d b) (place : Nat) (x : List Int) : (qS d b place x).length = d.w := by
  rw [qS, turnedS_len place d.wd _ d.h (by rw [quantsS_len]; rfl) hd.wd.2.1 d.h (Nat.le_refl _)]; rfl
theorem vS_len (b : S_api_Block) (x : List Int) : (vS d b x).length = d.w := quantsS_len _ _ _ _
theorem tailS_len (b : S_api_Block) (x heads : List Int) (hx : x.length = d.w) : (tailS d b x heads).length = d.w := by
  unfold tailS; dsimp only; rw [joinS_len, joinS_len, hx]
theorem layersS_ok {w : S_api_Weights} (hw : WOK d w) (L : List S_ref08_Kept) (x : List Int) (hx : x.length = d.w) : ∀ n, n ≤ d.ly → KOK d n (layersS d w L x n).1 ∧ (layersS d w L x n).2.length = d.w
  | 0, _ => ⟨⟨rfl, rfl, by simp [layersS, zK], by simp [layersS, zK]⟩, hx⟩
  | n + 1, hn => by
    obtain ⟨⟨a, b, c, e⟩, f⟩ := layersS_ok hw L x hx n (by omega)
    have hb : BOK d (w.Blocks.getD n zB) := hw.blocks _ (getD_in _ _ _ (by have := hw.blen; omega))
    rw [layersS]
    dsimp only
    refine ⟨⟨by simp [a], by simp [b], fun r hr => ?_, fun r hr => ?_⟩, tailS_len hd _ _ _ f⟩
    · rcases List.mem_append.1 hr with h | h
      · exact c r h
      · rw [List.mem_singleton] at h; rw [h]; exact kS_len hd hb _ _
    · rcases List.mem_append.1 hr with h | h
      · exact e r h
      · rw [List.mem_singleton] at h; rw [h]; exact vS_len hd _ _
theorem tail_is {N : Nat} (hN : 200 < N) {b : S_api_Block} (hb : BOK d b) (n : Nat) (j256 : S_ref08_Run) (x heads : List Int) (hx : x.length = d.w) (hh : heads.length = d.w) (hn : n ≤ 100) (k2 : S_ref08_Run → List Int → Int → Option (List Int × S_ref08_Run)) :
    ((ref04_Apply N (⟨b.O.Rows, b.O.Cols, b.O.V⟩ : S_api_Mat) heads).bind fun r265 => (ref05_Join N x r265.1 1 4).bind fun r271 => (ref05_Norm N b.Second r271).bind fun r278 => (ref08_quants N (⟨b.Up.Rows, b.Up.Cols, b.Up.V⟩ : S_api_Mat) r278).bind fun r284 => ref08_Run_One.L4 N (n : Int) b j256 r271 r284 k2 N r284 0) = k2 j256 (tailS d b x heads) ((n + 1 : Nat) : Int) := by
  have hw := dw16 hd; have hi := hd.inn
  try rw [matR_eta]
  rw [apply_is hb.o (by omega) (by omega) hN _ hh, Option.bind_some, join_is _ _ _ _ (by rw [applyS_len, hx]) (by omega) hN, Option.bind_some]
  have hx1 := joinS_len x (applyS b.O heads d.w d.w) 1 4
  rw [norm_is hN _ _ (by rw [hx1, hx]; exact hb.second) (by rw [hx1]; omega), Option.bind_some, matR_eta, quants_is hb.up (by omega) (by omega) hN _ (by rw [normS_len, hx1, hx]), Option.bind_some]
  have hq := quantsS_len b.Up (normS b.Second (joinS x (applyS b.O heads d.w d.w) 1 4)) d.inn d.w
  obtain ⟨m, e⟩ := relu_loop hd hN (n : Int) b j256 (joinS x (applyS b.O heads d.w d.w) 1 4) (quantsS b.Up (normS b.Second (joinS x (applyS b.O heads d.w d.w) 1 4)) d.inn d.w) (by omega) k2
  rw [e, ref08_Run_One.L4, if_neg (by omega), matR_eta, apply_is hb.down (by omega) (by omega) hN _ (by rw [reluS, tabl_len, hq]), Option.bind_some, join_is _ _ _ _ (by rw [applyS_len, hx1, hx]) (by omega) hN, Option.bind_some, W_succ n (by omega)]
  rfl
theorem one_is {N : Nat} (hN : 200 < N) {w : S_api_Weights} (hw : WOK d w) (L : List S_ref08_Kept) (hL : L.length ≤ 50) (hK : ∀ k ∈ L, KOK d d.ly k) (t : Nat) (ht : t < d.voc) :
    ref08_Run_One N ⟨w, L⟩ (t : Int) = some (outS d w L t, ⟨w, L ++ [keptS d w L t]⟩) := by
  have hww := dw16 hd; have hi := hd.inn; have hh := hd.h; have hwd := hd.wd; have hly := hd.ly; have hvo := hd.voc
  have hdw : d.w = d.h * d.wd := rfl
  have e26 : IntKind.i64.wrap (Int.tdiv w.Shape.Width w.Shape.Heads) = (d.wd : Int) := by
    rw [hw.width, hw.heads, hdw]
    have : ((d.h * d.wd : Nat) : Int) = (d.h : Int) * (d.wd : Int) := by simp
    rw [this, Int.mul_tdiv_cancel_left _ (by omega), W_in (by omega)]
  have hin : (inS d w t).length = d.w := tabl_len _ _
  unfold ref08_Run_One
  rw [chk_ok _ (by show w.Shape.Heads ≠ 0; rw [hw.heads]; omega)]
  show (some (IntKind.i64.wrap (Int.tdiv w.Shape.Width w.Shape.Heads))).bind _ = _
  rw [e26, Option.bind_some]
  have htw : ∀ i, i < d.w → t * d.w + i < d.voc * d.w := fun i hi => by
    have : (t + 1) * d.w ≤ d.voc * d.w := Nat.mul_le_mul_right _ (by omega)
    have h2 : (t + 1) * d.w = t * d.w + d.w := Nat.succ_mul _ _
    omega
  have hvw : d.voc * d.w ≤ 10 * 16 := Nat.mul_le_mul hvo.2 hww
  refine loop_c (fun m (s : List Int) i => ref08_Run_One.L1 N ⟨w, L⟩ (t : Int) (d.wd : Int) m s i) (fun i => tabl i fun i => IntKind.i32.wrap (16 * IntKind.i32.wrap (w.Embed.V.getD (t * d.w + i) 0))) d.w _ (fun m i hi => ?_) (fun m => ?_) N (by omega)
  · show ref08_Run_One.L1 N ⟨w, L⟩ _ _ (m + 1) _ (i : Int) = ref08_Run_One.L1 N ⟨w, L⟩ _ _ m _ _
    have h1 := htw i hi
    have e : IntKind.i64.wrap (IntKind.i64.wrap ((t : Int) * w.Shape.Width) + (i : Int)) = ((t * d.w + i : Nat) : Int) := by
      rw [hw.width]
      have : (t : Int) * ((d.w : Nat) : Int) = ((t * d.w : Nat) : Int) := by simp
      rw [this, W_in (x := ((t * d.w : Nat) : Int)) (by omega), W_in (by omega)]
      omega
    rw [ref08_Run_One.L1]
    show (if (i : Int) < w.Shape.Width then (idx w.Embed.V (IntKind.i64.wrap (IntKind.i64.wrap ((t : Int) * w.Shape.Width) + (i : Int)))).bind _ else _) = _
    rw [if_pos (by rw [hw.width]; omega), e, idx_d w.Embed.V 0 (by rw [hw.embed.2.2]; omega), Option.bind_some, app_ok _ _ (by rw [tabl_len]; simp only [List.length_cons, List.length_nil]; omega), Option.bind_some, W_succ i (by omega), tabl_succ]
  · show ref08_Run_One.L1 N ⟨w, L⟩ _ _ (m + 1) _ (d.w : Int) = _
    rw [ref08_Run_One.L1]
    show (if (d.w : Int) < w.Shape.Width then _ else (app L [(⟨[], []⟩ : S_ref08_Kept)]).bind fun z57 => ref08_Run_One.L2 N ⟨w, L⟩ (d.wd : Int) N ⟨w, z57⟩ (inS d w t) 0) = _
    rw [if_neg (by rw [hw.width]; omega), app_ok _ _ (by simp only [List.length_cons, List.length_nil]; omega), Option.bind_some]
    -- layer by layer
    refine loop_c (fun m (s : S_ref08_Run × List Int) i => ref08_Run_One.L2 N ⟨w, L⟩ (d.wd : Int) m s.1 s.2 i) (fun n => (⟨w, L ++ [(layersS d w L (inS d w t) n).1]⟩, (layersS d w L (inS d w t) n).2)) d.ly _ (fun m n hn => ?_) (fun m => ?_) N (by omega)
    · obtain ⟨⟨k1, k2, k3, k4⟩, k5⟩ := layersS_ok hd hw L (inS d w t) hin n (by omega)
      have hb : BOK d (w.Blocks.getD n zB) := hw.blocks _ (getD_in _ _ _ (by have := hw.blen; omega))
      show ref08_Run_One.L2 N ⟨w, L⟩ (d.wd : Int) (m + 1) ⟨w, L ++ [(layersS d w L (inS d w t) n).1]⟩ (layersS d w L (inS d w t) n).2 (n : Int) = ref08_Run_One.L2 N ⟨w, L⟩ (d.wd : Int) m ⟨w, L ++ [(layersS d w L (inS d w t) (n + 1)).1]⟩ (layersS d w L (inS d w t) (n + 1)).2 ((n + 1 : Nat) : Int)
      rw [layersS]
      dsimp only
      generalize layersS d w L (inS d w t) n = s at k1 k2 k3 k4 k5 ⊢
      generalize hbb : w.Blocks.getD n zB = b at hb ⊢
      have hib : idx w.Blocks (n : Int) = some b := by rw [idx_d w.Blocks zB (by have := hw.blen; omega), hbb]
      have hnl : (normS b.First s.2).length = d.w := by rw [normS_len, k5]
      rw [ref08_Run_One.L2]
      show (if (n : Int) < w.Shape.Layers then (idx w.Blocks (n : Int)).bind _ else _) = _
      rw [if_pos (by rw [hw.layers]; omega), hib, Option.bind_some, norm_is hN _ _ (by rw [k5]; exact hb.first) (by omega), Option.bind_some, matR_eta, quants_is hb.q (by omega) (by omega) hN _ hnl, Option.bind_some, turned_is hN L.length d.wd d.h (by omega) _ (by rw [quantsS_len]; rfl) (by omega) hwd.1 hwd.2.1 (by omega), Option.bind_some]
      show (idx (L ++ [s.1]) ((L.length : Nat) : Int)).bind _ = _
      rw [idx_last, Option.bind_some, matR_eta, quants_is hb.k (by omega) (by omega) hN _ hnl, Option.bind_some, turned_is hN L.length d.wd d.h (by omega) _ (by rw [quantsS_len]; rfl) (by omega) hwd.1 hwd.2.1 (by omega), Option.bind_some, app_ok _ _ (by simp only [List.length_cons, List.length_nil]; omega), Option.bind_some, matR_eta, quants_is hb.v (by omega) (by omega) hN _ hnl, Option.bind_some, app_ok _ _ (by simp only [List.length_cons, List.length_nil]; omega), Option.bind_some]
      show ref08_Run_One.L3 N ⟨w, L⟩ (d.wd : Int) s.2 (n : Int) b (qS d b L.length s.2) (ref08_Run_One.L2 N ⟨w, L⟩ (d.wd : Int) m) N ⟨w, (L ++ [s.1]).set (((L.length : Nat) : Int)).toNat ⟨s.1.K ++ [kS d b L.length s.2], s.1.V ++ [vS d b s.2]⟩⟩ [] 0 = _
      rw [set_last]
      -- head by head
      have hKL : ∀ k ∈ L ++ [(⟨s.1.K ++ [kS d b L.length s.2], s.1.V ++ [vS d b s.2]⟩ : S_ref08_Kept)], n < k.K.length ∧ n < k.V.length ∧ (∀ r ∈ k.K, r.length = d.w) ∧ ∀ r ∈ k.V, r.length = d.w := by
        intro k hk
        rcases List.mem_append.1 hk with h | h
        · obtain ⟨a, b', c, e⟩ := hK k h
          exact ⟨by omega, by omega, c, e⟩
        · rw [List.mem_singleton] at h
          subst h
          refine ⟨by simp [k1], by simp [k2], fun r hr => ?_, fun r hr => ?_⟩
          · rcases List.mem_append.1 hr with h | h
            · exact k3 r h
            · rw [List.mem_singleton] at h; rw [h]; exact kS_len hd hb _ _
          · rcases List.mem_append.1 hr with h | h
            · exact k4 r h
            · rw [List.mem_singleton] at h; rw [h]; exact vS_len hd _ _
      refine loop_c (fun q (z : List Int) i => ref08_Run_One.L3 N ⟨w, L⟩ (d.wd : Int) s.2 (n : Int) b (qS d b L.length s.2) (ref08_Run_One.L2 N ⟨w, L⟩ (d.wd : Int) m) q ⟨w, L ++ [⟨s.1.K ++ [kS d b L.length s.2], s.1.V ++ [vS d b s.2]⟩]⟩ z i) (fun h => attS d (L ++ [⟨s.1.K ++ [kS d b L.length s.2], s.1.V ++ [vS d b s.2]⟩]) n (qS d b L.length s.2) h) d.h _ (fun q h hh2 => ?_) (fun q => ?_) N (by omega)
      · show ref08_Run_One.L3 N ⟨w, L⟩ (d.wd : Int) s.2 (n : Int) b _ _ (q + 1) _ _ (h : Int) = _
        have hal := attS_len hd (L ++ [(⟨s.1.K ++ [kS d b L.length s.2], s.1.V ++ [vS d b s.2]⟩ : S_ref08_Kept)]) n (qS d b L.length s.2) h
        have hhw : h * d.wd ≤ d.h * d.wd := Nat.mul_le_mul_right _ (by omega)
        rw [ref08_Run_One.L3]
        show (if (h : Int) < w.Shape.Heads then _ else _) = _
        rw [if_pos (by rw [hw.heads]; omega)]
        exact head_is hd hN ⟨w, L⟩ _ _ n hn (by simp; omega) (by simp) rfl (by simp) hKL _ _ (qS_len hd hb _ _) h hh2 (by omega) _
      · show ref08_Run_One.L3 N ⟨w, L⟩ (d.wd : Int) s.2 (n : Int) b _ _ (q + 1) _ _ (d.h : Int) = _
        rw [ref08_Run_One.L3]
        show (if (d.h : Int) < w.Shape.Heads then _ else _) = _
        rw [if_neg (by rw [hw.heads]; omega)]
        have hal := attS_len hd (L ++ [(⟨s.1.K ++ [kS d b L.length s.2], s.1.V ++ [vS d b s.2]⟩ : S_ref08_Kept)]) n (qS d b L.length s.2) d.h
        exact tail_is hd hN hb n _ s.2 _ k5 hal (by omega) _
    · obtain ⟨k, k5⟩ := layersS_ok hd hw L (inS d w t) hin d.ly (Nat.le_refl _)
      show ref08_Run_One.L2 N ⟨w, L⟩ (d.wd : Int) (m + 1) ⟨w, L ++ [(layersS d w L (inS d w t) d.ly).1]⟩ (layersS d w L (inS d w t) d.ly).2 (d.ly : Int) = _
      rw [ref08_Run_One.L2]
      show (if (d.ly : Int) < w.Shape.Layers then _ else (ref05_Norm N w.Last _).bind _) = _
      rw [if_neg (by rw [hw.layers]; omega), norm_is hN _ _ (by rw [k5]; exact hw.last) (by omega), Option.bind_some]
      show (ref04_Apply N ⟨w.Head.Rows, w.Head.Cols, w.Head.V⟩ _).bind _ = _
      try rw [matR_eta]
      rw [apply_is hw.head (by omega) (by omega) hN _ (by rw [normS_len, k5]), Option.bind_some]
      rfl
end
section
variable {d : Dim} (hd : DOK d)
include hd
end
section
variable {d : Dim} (hd : DOK d)
include hd
end
section
variable {d : Dim} (hd : DOK d)
include hd
end
theorem rest7_is (x : Int) (m : Nat) (h : 0 < m) (hb : m ≤ 1000) : ∃ k : Nat, k < m ∧ ref07_rest x (m : Int) = some (k : Int) := by
  obtain ⟨k, hk, e⟩ := W_restN x m h (by omega)
  refine ⟨k, hk, ?_⟩
  unfold ref07_rest
  rw [chk_ok _ (by omega), chk_ok _ (by omega), e, Option.bind_some]
def shapeS (d : Dim) : S_api_Shape := ⟨(d.ly : Int), ((d.w : Nat) : Int), (d.h : Int), (d.inn : Int), (d.voc : Int), (d.pl : Int)⟩
theorem tiny_is (n : A6_i64) : ∃ d : Dim, DOK d ∧ 2 ≤ d.voc ∧ 4 ≤ d.pl ∧ ref07_Tiny n = some (shapeS d) := by
  obtain ⟨a, ha, ea⟩ := rest7_is n.c2 3 (by decide) (by decide)
  obtain ⟨b, hb, eb⟩ := rest7_is n.c0 3 (by decide) (by decide)
  obtain ⟨c, hc, ec⟩ := rest7_is n.c1 2 (by decide) (by decide)
  obtain ⟨e, he, ee⟩ := rest7_is n.c3 8 (by decide) (by decide)
  obtain ⟨f, hf, ef⟩ := rest7_is n.c4 9 (by decide) (by decide)
  obtain ⟨g, hg, eg⟩ := rest7_is n.c5 9 (by decide) (by decide)
  have hh : ∃ h : Nat, 0 < h ∧ h ≤ 4 ∧ idx ([1, 2, 4] : List Int) (a : Int) = some (h : Int) := by
    match a, ha with
    | 0, _ => exact ⟨1, by decide, by decide, rfl⟩
    | 1, _ => exact ⟨2, by decide, by decide, rfl⟩
    | 2, _ => exact ⟨4, by decide, by decide, rfl⟩
  obtain ⟨h, h0, h4, eh⟩ := hh
  have hw : h * (2 * (1 + c)) ≤ 4 * 4 := Nat.mul_le_mul h4 (by omega)
  refine ⟨⟨1 + b, h, 2 * (1 + c), 1 + e, 2 + f, 4 + g⟩, ⟨by dsimp only; omega, by dsimp only; omega, by dsimp only; omega, hw, by dsimp only; omega, by dsimp only; omega, by dsimp only; omega⟩, by dsimp only; omega, by dsimp only; omega, ?_⟩
  have ea' : ref07_rest n.c2 3 = some (a : Int) := ea
  have eb' : ref07_rest n.c0 3 = some (b : Int) := eb
  have ec' : ref07_rest n.c1 2 = some (c : Int) := ec
  have ee' : ref07_rest n.c3 8 = some (e : Int) := ee
  have ef' : ref07_rest n.c4 9 = some (f : Int) := ef
  have eg' : ref07_rest n.c5 9 = some (g : Int) := eg
  unfold ref07_Tiny
  rw [ea', Option.bind_some, eh, Option.bind_some, eb', Option.bind_some, ec', Option.bind_some, ee', Option.bind_some, ef', Option.bind_some, eg', Option.bind_some]
  have e1 : IntKind.i64.wrap (1 + (b : Int)) = ((1 + b : Nat) : Int) := by rw [W_in (by omega)]; omega
  have e2 : IntKind.i64.wrap (IntKind.i64.wrap (2 * (h : Int)) * IntKind.i64.wrap (1 + (c : Int))) = ((h * (2 * (1 + c)) : Nat) : Int) := by
    rw [W_in (x := 2 * (h : Int)) (by omega), W_in (x := 1 + (c : Int)) (by omega)]
    have : 2 * (h : Int) * (1 + (c : Int)) = ((h * (2 * (1 + c)) : Nat) : Int) := by
      rw [Int.natCast_mul, Int.natCast_mul, Int.natCast_add, Int.mul_comm 2 (h : Int), Int.mul_assoc]; rfl
    rw [this, W_in (by omega)]
  have e3 : IntKind.i64.wrap (1 + (e : Int)) = ((1 + e : Nat) : Int) := by rw [W_in (by omega)]; omega
  have e4 : IntKind.i64.wrap (2 + (f : Int)) = ((2 + f : Nat) : Int) := by rw [W_in (by omega)]; omega
  have e5 : IntKind.i64.wrap (4 + (g : Int)) = ((4 + g : Nat) : Int) := by rw [W_in (by omega)]; omega
  rw [e1, e2, e3, e4, e5]
  rfl
def perL (d : Dim) : Nat := d.w + 4 * (d.w * d.w) + d.w + d.inn * d.w + d.w * d.inn
def countS (d : Dim) : Nat := d.voc * d.w + d.ly * perL d + d.w + d.voc * d.w
def layR (d : Dim) : List S_ref07_Row := [⟨true, ((d.w : Nat) : Int)⟩, ⟨false, ((d.w * d.w : Nat) : Int)⟩, ⟨false, ((d.w * d.w : Nat) : Int)⟩, ⟨false, ((d.w * d.w : Nat) : Int)⟩, ⟨false, ((d.w * d.w : Nat) : Int)⟩, ⟨true, ((d.w : Nat) : Int)⟩, ⟨false, ((d.inn * d.w : Nat) : Int)⟩, ⟨false, ((d.w * d.inn : Nat) : Int)⟩]
def rowsS (d : Dim) : Nat → List S_ref07_Row
  | 0 => [⟨false, ((d.voc * d.w : Nat) : Int)⟩]
  | k + 1 => rowsS d k ++ layR d
def sumN : List S_ref07_Row → Int
  | [] => 0
  | r :: rs => r.N + sumN rs
theorem sumN_app (a b : List S_ref07_Row) : sumN (a ++ b) = sumN a + sumN b := by
  induction a with
  | nil => simp [sumN]
  | cons r rs ih => rw [List.cons_append, sumN, sumN, ih]; omega
section
variable {d : Dim} (hd : DOK d)
include hd
theorem w_mulN (a b : Nat) (h : a * b ≤ 100000) : IntKind.i64.wrap ((a : Int) * (b : Int)) = ((a * b : Nat) : Int) := by
  have : (a : Int) * (b : Int) = ((a * b : Nat) : Int) := by simp
  rw [this, W_in (by omega)]
theorem prods : d.w * d.w ≤ 256 ∧ d.inn * d.w ≤ 128 ∧ d.w * d.inn ≤ 128 ∧ d.voc * d.w ≤ 160 := by
  have h := dw16 hd; have h1 := hd.inn; have h2 := hd.voc
  exact ⟨Nat.mul_le_mul h h, Nat.mul_le_mul h1.2 h, Nat.mul_le_mul h h1.2, Nat.mul_le_mul h2.2 h⟩
theorem rowsS_len : ∀ k, (rowsS d k).length = 1 + 8 * k
  | 0 => rfl
  | k + 1 => by rw [rowsS, List.length_append, rowsS_len k]; simp [layR]; omega
theorem rowsS_sum : ∀ k, sumN (rowsS d k) = ((d.voc * d.w + k * perL d : Nat) : Int)
  | 0 => by simp [rowsS, sumN]
  | k + 1 => by
    rw [rowsS, sumN_app, rowsS_sum k]
    have e : sumN (layR d) = ((perL d : Nat) : Int) := by simp only [layR, sumN, perL]; omega
    rw [e, Nat.succ_mul]; omega
theorem rows_is {N : Nat} (hN : 200 < N) : ref07_Rows N (shapeS d) = some (rowsS d d.ly ++ [⟨true, ((d.w : Nat) : Int)⟩, ⟨false, ((d.voc * d.w : Nat) : Int)⟩]) := by
  obtain ⟨p1, p2, p3, p4⟩ := prods hd
  have hly := hd.ly
  unfold ref07_Rows
  have e0 : IntKind.i64.wrap ((shapeS d).Vocab * (shapeS d).Width) = ((d.voc * d.w : Nat) : Int) := w_mulN hd d.voc d.w (by omega)
  have e1 : IntKind.i64.wrap ((shapeS d).Width * (shapeS d).Width) = ((d.w * d.w : Nat) : Int) := w_mulN hd d.w d.w (by omega)
  have e2 : IntKind.i64.wrap ((shapeS d).Inner * (shapeS d).Width) = ((d.inn * d.w : Nat) : Int) := w_mulN hd d.inn d.w (by omega)
  have e3 : IntKind.i64.wrap ((shapeS d).Width * (shapeS d).Inner) = ((d.w * d.inn : Nat) : Int) := w_mulN hd d.w d.inn (by omega)
  rw [e0]
  refine loop_c (fun m (s : List S_ref07_Row) i => ref07_Rows.L1 (shapeS d) m s i) (fun i => rowsS d i) d.ly _ (fun m i hi => ?_) (fun m => ?_) N (by omega)
  · show ref07_Rows.L1 (shapeS d) (m + 1) _ (i : Int) = ref07_Rows.L1 (shapeS d) m _ _
    have hl := rowsS_len hd i
    rw [ref07_Rows.L1, if_pos (by show (i : Int) < (d.ly : Int); omega), e1, e2, e3, app_ok _ _ (by simp only [List.length_cons, List.length_nil]; omega), Option.bind_some, W_succ i (by omega)]
    rfl
  · show ref07_Rows.L1 (shapeS d) (m + 1) _ (d.ly : Int) = _
    have hl := rowsS_len hd d.ly
    rw [ref07_Rows.L1, if_neg (by show ¬ (d.ly : Int) < (d.ly : Int); omega), e0, app_ok _ _ (by simp only [List.length_cons, List.length_nil]; omega), Option.bind_some]
    rfl
theorem grown_is {N : Nat} (hN : 5000 ≤ N) (seed : Int) : ∃ l : List Int, ref07_Grown N (shapeS d) seed = some l ∧ l.length = countS d := by
  obtain ⟨p1, p2, p3, p4⟩ := prods hd
  have hly := hd.ly; have hw := dw16 hd
  unfold ref07_Grown
  try rw [show (⟨(shapeS d).Layers, (shapeS d).Width, (shapeS d).Heads, (shapeS d).Inner, (shapeS d).Vocab, (shapeS d).Places⟩ : S_api_Shape) = shapeS d from rfl]
  rw [rows_is hd (by omega), Option.bind_some]
  generalize hrs : rowsS d d.ly ++ [(⟨true, ((d.w : Nat) : Int)⟩ : S_ref07_Row), ⟨false, ((d.voc * d.w : Nat) : Int)⟩] = rs
  have hlen : rs.length = 8 * d.ly + 3 := by rw [← hrs, List.length_append, rowsS_len hd]; simp; omega
  have hsum : sumN rs = ((countS d : Nat) : Int) := by
    rw [← hrs, sumN_app, rowsS_sum hd]; simp only [sumN, countS]; omega
  have hrange : ∀ r ∈ rs, 0 ≤ r.N ∧ r.N ≤ 256 := by
    have hlay : ∀ r ∈ layR d, 0 ≤ r.N ∧ r.N ≤ 256 := by
      intro r hr
      simp only [layR, List.mem_cons, List.not_mem_nil, or_false] at hr
      rcases hr with rfl | rfl | rfl | rfl | rfl | rfl | rfl | rfl <;> dsimp only <;> omega
    have hro : ∀ k, ∀ r ∈ rowsS d k, 0 ≤ r.N ∧ r.N ≤ 256 := by
      intro k
      induction k with
      | zero => intro r hr; simp only [rowsS, List.mem_singleton] at hr; subst hr; dsimp only; omega
      | succ k ih => intro r hr; rw [rowsS] at hr; rcases List.mem_append.1 hr with h | h; exact ih r h; exact hlay r h
    intro r hr
    rw [← hrs] at hr
    rcases List.mem_append.1 hr with h | h
    · exact hro _ r h
    · simp only [List.mem_cons, List.not_mem_nil, or_false] at h
      rcases h with rfl | rfl <;> dsimp only <;> omega
  obtain ⟨m', s', hs1, e⟩ := loop_to (fun m (s : List Int × Int) i => ref07_Grown.L1 N rs m s.1 s.2 i) (fun i => (i : Int)) rs.length (fun i s => ((s.1.length : Nat) : Int) = sumN (rs.take i)) (fun m i s hi hs1 => by
    have hri := hrange rs[i] (List.getElem_mem hi)
    obtain ⟨n, hn⟩ := Int.eq_ofNat_of_zero_le hri.1
    have hbnd : sumN (rs.take i) ≤ 256 * i := by
      have : ∀ k, k ≤ rs.length → sumN (rs.take k) ≤ 256 * k := by
        intro k
        induction k with
        | zero => intro _; simp [sumN]
        | succ k ih =>
          intro hk
          have h1 := ih (by omega)
          have h2 := hrange rs[k] (List.getElem_mem (by omega))
          rw [List.take_succ_eq_append_getElem (by omega), sumN_app]
          simp only [sumN]; omega
      exact this i (by omega)
    obtain ⟨m2, z, hz1, e2⟩ := loop_to (fun q (z : List Int × Int) j => ref07_Grown.L2 N rs (i : Int) (ref07_Grown.L1 N rs m) q z.1 z.2 j) (fun j => (j : Int)) n (fun j z => z.1.length = s.1.length + j) (fun q j z hj hz1 => by
      have j3 : ∀ g : Int, ∃ z' : List Int × Int, z'.1.length = s.1.length + (j + 1) ∧ ref07_Grown.J3 z.1 (j : Int) (IntKind.u64.wrap (IntKind.u64.wrap (z.2 * 6364136223846793005) + 1442695040888963407)) (ref07_Grown.L2 N rs (i : Int) (ref07_Grown.L1 N rs m) q) g = ref07_Grown.L2 N rs (i : Int) (ref07_Grown.L1 N rs m) q z'.1 z'.2 ((j + 1 : Nat) : Int) := by
        intro g
        refine ⟨(z.1 ++ [IntKind.i8.wrap g], IntKind.u64.wrap (IntKind.u64.wrap (z.2 * 6364136223846793005) + 1442695040888963407)), by simp [hz1]; omega, ?_⟩
        · unfold ref07_Grown.J3
          rw [app_ok _ _ (by simp only [List.length_cons, List.length_nil]; omega), Option.bind_some, W_succ j (by omega)]
      show ∃ s', _ ∧ ref07_Grown.L2 N rs (i : Int) (ref07_Grown.L1 N rs m) (q + 1) z.1 z.2 (j : Int) = _
      rw [ref07_Grown.L2, idx_get _ _ hi, Option.bind_some, if_pos (by omega), Option.bind_some, Option.bind_some, Option.bind_some]
      by_cases c : rs[i].Gain = true
      · rw [if_pos c, Option.bind_some]; exact j3 _
      · rw [if_neg c]; exact j3 _) N s (by omega) rfl
    refine ⟨z, ?_, ?_⟩
    · rw [List.take_succ_eq_append_getElem hi, sumN_app, ← hs1]
      simp only [sumN]; omega
    · show ref07_Grown.L1 N rs (m + 1) s.1 s.2 (i : Int) = ref07_Grown.L1 N rs m z.1 z.2 ((i + 1 : Nat) : Int)
      rw [ref07_Grown.L1, if_pos (by omega)]
      refine Eq.trans e2 ?_
      show ref07_Grown.L2 N rs (i : Int) (ref07_Grown.L1 N rs m) (m2 + 1) z.1 z.2 (n : Int) = _
      rw [ref07_Grown.L2, idx_get _ _ hi, Option.bind_some, if_neg (by omega), W_succ i (by omega)]) N ([], seed) (by omega) (by simp [sumN])
  refine ⟨s'.1, ?_, ?_⟩
  · refine Eq.trans e ?_
    show ref07_Grown.L1 N rs (m' + 1) s'.1 s'.2 (rs.length : Int) = _
    rw [ref07_Grown.L1, if_neg (by omega)]
  · rw [List.take_length, hsum] at hs1; omega
theorem take_is (l : List Int) (at_ n : Nat) (h : at_ + n ≤ l.length) (hl : l.length ≤ 100000) : ref08_taker_take ⟨l, (at_ : Int)⟩ (n : Int) = some ((l.take (at_ + n)).drop at_, ⟨l, ((at_ + n : Nat) : Int)⟩) := by
  unfold ref08_taker_take
  show chk (0 ≤ (at_ : Int) ∧ (at_ : Int) ≤ IntKind.i64.wrap ((at_ : Int) + (n : Int)) ∧ IntKind.i64.wrap ((at_ : Int) + (n : Int)) ≤ ((l.length : Nat) : Int)) ((app [] ((l.take (IntKind.i64.wrap ((at_ : Int) + (n : Int))).toNat).drop ((at_ : Int)).toNat)).bind fun z10 => some (z10, (⟨l, IntKind.i64.wrap ((at_ : Int) + (n : Int))⟩ : S_ref08_taker))) = _
  have e : IntKind.i64.wrap ((at_ : Int) + (n : Int)) = ((at_ + n : Nat) : Int) := by rw [W_in (by omega)]; omega
  rw [e, chk_ok _ (by omega), Int.toNat_natCast, Int.toNat_natCast, app_ok _ _ (by simp; omega), Option.bind_some, List.nil_append]
theorem takeL (l : List Int) (a n : Nat) (h : a + n ≤ l.length) : ((l.take (a + n)).drop a).length = n := by simp; omega
theorem mat_is (l : List Int) (at_ r c : Nat) (h : at_ + r * c ≤ l.length) (hl : l.length ≤ 100000) : ref08_taker_mat ⟨l, (at_ : Int)⟩ (r : Int) (c : Int) = some (⟨(r : Int), (c : Int), (l.take (at_ + r * c)).drop at_⟩, ⟨l, ((at_ + r * c : Nat) : Int)⟩) := by
  unfold ref08_taker_mat
  rw [w_mulN hd r c (by omega), take_is hd l at_ (r * c) h hl, Option.bind_some]
end
section
variable {d : Dim} (hd : DOK d)
include hd
theorem matR_mk (l : List Int) (at_ r c : Nat) (h : at_ + r * c ≤ l.length) : matR ⟨(r : Int), (c : Int), (l.take (at_ + r * c)).drop at_⟩ r c := ⟨rfl, rfl, takeL hd l at_ (r * c) h⟩
theorem of_is {N : Nat} (hN : 200 < N) (l : List Int) (hl : l.length = countS d) : ∃ w, ref08_Of N (shapeS d) l = some w ∧ WOK d w ∧ w.Shape = shapeS d := by
  obtain ⟨p1, p2, p3, p4⟩ := prods hd
  have hly := hd.ly; have hw := dw16 hd
  have hper : perL d ≤ 1400 := by unfold perL; omega
  have hlp : ∀ i, i ≤ d.ly → i * perL d ≤ d.ly * perL d := fun i hi => Nat.mul_le_mul_right _ hi
  have hl3 : d.ly * perL d ≤ 3 * 1400 := Nat.mul_le_mul hly.2 hper
  have hc : countS d = d.voc * d.w + d.ly * perL d + d.w + d.voc * d.w := rfl
  have hbig : l.length ≤ 100000 := by omega
  have hW : (shapeS d).Width = ((d.w : Nat) : Int) := rfl
  have hV : (shapeS d).Vocab = (d.voc : Int) := rfl
  have hI : (shapeS d).Inner = (d.inn : Int) := rfl
  have hLy : (shapeS d).Layers = (d.ly : Int) := rfl
  unfold ref08_Of
  have e0 : ref08_taker_mat ⟨l, 0⟩ (shapeS d).Vocab (shapeS d).Width = some (⟨(d.voc : Int), ((d.w : Nat) : Int), (l.take (0 + d.voc * d.w)).drop 0⟩, ⟨l, ((0 + d.voc * d.w : Nat) : Int)⟩) := mat_is hd l 0 d.voc d.w (by omega) hbig
  have hemb := matR_mk hd l 0 d.voc d.w (by omega)
  rw [e0, Option.bind_some]
  generalize hm0 : (⟨(d.voc : Int), ((d.w : Nat) : Int), (l.take (0 + d.voc * d.w)).drop 0⟩ : S_api_Mat) = m0 at hemb ⊢
  obtain ⟨m', s', ⟨h1, h2, h3⟩, e⟩ := loop_to (fun m (s : S_ref08_taker × List S_api_Block) i => ref08_Of.L1 (shapeS d) (m0, ⟨l, ((0 + d.voc * d.w : Nat) : Int)⟩) m s.1 s.2 i) (fun i => (i : Int)) d.ly (fun i s => s.1 = ⟨l, ((d.voc * d.w + i * perL d : Nat) : Int)⟩ ∧ s.2.length = i ∧ ∀ b ∈ s.2, BOK d b) (fun m i s hi hs => by
    obtain ⟨h1, h2, h3⟩ := hs
    have hp1 := hlp (i + 1) (by omega)
    have hp2 : (i + 1) * perL d = i * perL d + perL d := Nat.succ_mul _ _
    have hpd : perL d = d.w + 4 * (d.w * d.w) + d.w + d.inn * d.w + d.w * d.inn := rfl
    generalize hA : d.voc * d.w + i * perL d = A at h1
    have hAl : A + perL d ≤ l.length := by omega
    obtain ⟨s1, s2⟩ := s
    dsimp only at h1 h2 h3
    subst h1
    show ∃ s', _ ∧ ref08_Of.L1 (shapeS d) _ (m + 1) _ _ (i : Int) = _
    rw [ref08_Of.L1, hLy, hW, hI, if_pos (by omega), take_is hd l A d.w (by omega) hbig, Option.bind_some, mat_is hd l (A + d.w) d.w d.w (by omega) hbig, Option.bind_some, mat_is hd l (A + d.w + d.w * d.w) d.w d.w (by omega) hbig, Option.bind_some, mat_is hd l (A + d.w + d.w * d.w + d.w * d.w) d.w d.w (by omega) hbig, Option.bind_some,
      mat_is hd l (A + d.w + d.w * d.w + d.w * d.w + d.w * d.w) d.w d.w (by omega) hbig, Option.bind_some, take_is hd l (A + d.w + d.w * d.w + d.w * d.w + d.w * d.w + d.w * d.w) d.w (by omega) hbig, Option.bind_some, mat_is hd l (A + d.w + d.w * d.w + d.w * d.w + d.w * d.w + d.w * d.w + d.w) d.inn d.w (by omega) hbig, Option.bind_some,
      mat_is hd l (A + d.w + d.w * d.w + d.w * d.w + d.w * d.w + d.w * d.w + d.w + d.inn * d.w) d.w d.inn (by omega) hbig, Option.bind_some, app_ok _ _ (by simp only [List.length_cons, List.length_nil]; omega), Option.bind_some, W_succ i (by omega)]
    refine ⟨(_, _), ⟨?_, ?_, ?_⟩, rfl⟩
    · dsimp only
      rw [show A + d.w + d.w * d.w + d.w * d.w + d.w * d.w + d.w * d.w + d.w + d.inn * d.w + d.w * d.inn = d.voc * d.w + (i + 1) * perL d by omega]
    · dsimp only; rw [len_app1, h2]
    · intro b hb
      rcases List.mem_append.1 hb with h | h
      · exact h3 b h
      · rw [List.mem_singleton] at h
        subst h
        exact ⟨takeL hd l _ _ (by omega), takeL hd l _ _ (by omega), matR_mk hd l _ _ _ (by omega), matR_mk hd l _ _ _ (by omega), matR_mk hd l _ _ _ (by omega), matR_mk hd l _ _ _ (by omega), matR_mk hd l _ _ _ (by omega), matR_mk hd l _ _ _ (by omega)⟩) N (⟨l, ((0 + d.voc * d.w : Nat) : Int)⟩, []) (by omega) ⟨by dsimp only; rw [show 0 + d.voc * d.w = d.voc * d.w + 0 * perL d by omega], rfl, by simp⟩
  obtain ⟨s1, s2⟩ := s'
  dsimp only at h1 h2 h3
  subst h1
  refine ⟨⟨shapeS d, m0, s2, (l.take (d.voc * d.w + d.ly * perL d + d.w)).drop (d.voc * d.w + d.ly * perL d), ⟨(d.voc : Int), ((d.w : Nat) : Int), (l.take (d.voc * d.w + d.ly * perL d + d.w + d.voc * d.w)).drop (d.voc * d.w + d.ly * perL d + d.w)⟩⟩, e.trans ?_, ⟨rfl, rfl, rfl, rfl, rfl, rfl, hemb, h2, h3, takeL hd l _ _ (by omega), matR_mk hd l _ _ _ (by omega)⟩, rfl⟩
  show ref08_Of.L1 (shapeS d) _ (m' + 1) _ s2 (d.ly : Int) = _
  rw [ref08_Of.L1, hLy, hW, hV, if_neg (by omega), take_is hd l _ d.w (by omega) hbig, Option.bind_some, mat_is hd l (d.voc * d.w + d.ly * perL d + d.w) d.voc d.w (by omega) hbig, Option.bind_some]
  rfl
end
theorem made_is {N : Nat} (hN : 5000 ≤ N) (n : A6_i64) (seed : Int) (xs : List Int) (hx : xs.length ≤ 2000) : ∃ (d : Dim) (w : S_api_Weights), DOK d ∧ 2 ≤ d.voc ∧ 4 ≤ d.pl ∧ WOK d w ∧ w.Shape = shapeS d ∧ ref08_Made N n seed xs = some w := by
  obtain ⟨d, hd, hv, hp, et⟩ := tiny_is n
  obtain ⟨l, el, hl⟩ := grown_is hd hN seed
  have hfin : ∀ l' : List Int, l'.length = countS d → ∃ w, (ref08_Of N (shapeS d) l').bind (fun r29 => some (⟨(⟨r29.Shape.Layers, r29.Shape.Width, r29.Shape.Heads, r29.Shape.Inner, r29.Shape.Vocab, r29.Shape.Places⟩ : S_api_Shape), (⟨r29.Embed.Rows, r29.Embed.Cols, r29.Embed.V⟩ : S_api_Mat), r29.Blocks, r29.Last, (⟨r29.Head.Rows, r29.Head.Cols, r29.Head.V⟩ : S_api_Mat)⟩ : S_api_Weights)) = some w ∧ WOK d w ∧ w.Shape = shapeS d := by
    intro l' h'
    obtain ⟨w, e, hw, hs⟩ := of_is hd (N := N) (by omega) l' h'
    exact ⟨w, by rw [e]; rfl, hw, hs⟩
  obtain ⟨m', s', hs, e⟩ := loop_to (fun m (s : List Int) i => ref08_Made.L1 N xs (shapeS d) l m s i) (fun i => (i : Int)) (min l.length xs.length) (fun i s => s.length = countS d) (fun m i s hi hs => by
    have hi1 : i < l.length := by omega
    have hi2 : i < xs.length := by omega
    refine ⟨s.set i xs[i], by simp [hs], ?_⟩
    show ref08_Made.L1 N xs (shapeS d) l (m + 1) s (i : Int) = _
    rw [ref08_Made.L1, if_pos (by omega), decide_eq_true (by omega), ref08_Made.J2, if_pos rfl, idx_get xs i hi2, Option.bind_some, idx_get s i (by omega), Option.bind_some, W_succ i (by omega), Int.toNat_natCast]) N l (by omega) hl
  obtain ⟨w, ew, hw, hsh⟩ := hfin s' hs
  refine ⟨d, w, hd, hv, hp, hw, hsh, ?_⟩
  unfold ref08_Made
  try rw [show (⟨n.c0, n.c1, n.c2, n.c3, n.c4, n.c5⟩ : A6_i64) = n from rfl]
  rw [et, Option.bind_some]
  show (ref07_Grown N (shapeS d) seed).bind _ = _
  rw [el, Option.bind_some]
  refine Eq.trans e ?_
  have hJ : ref08_Made.J2 N xs (shapeS d) s' ((min l.length xs.length : Nat) : Int) (ref08_Made.L1 N xs (shapeS d) l m') false = some w := by
    unfold ref08_Made.J2
    rw [if_neg (by decide)]
    exact ew
  show ref08_Made.L1 N xs (shapeS d) l (m' + 1) s' ((min l.length xs.length : Nat) : Int) = _
  rw [ref08_Made.L1]
  by_cases c : ((min l.length xs.length : Nat) : Int) < ((l.length : Nat) : Int)
  · rw [if_pos c, decide_eq_false (by omega)]; exact hJ
  · rw [if_neg c]; exact hJ
end Go.Proofs.YtbfiagimgokccaaGreat

namespace Go.Proofs.YtbfiagimgokccaaGreat
open Go Go.Hp
set_option linter.unusedVariables false
theorem and_low (k : IntKind) (hk : k = .i64 ∨ k = .u64) (i : Nat) (hi : i < 63) (x : Int) : iand k x (2 ^ i - 1) = x % 2 ^ i := by
  have hb : k.bits = 64 := by rcases hk with rfl | rfl <;> rfl
  have hpos : 0 < 2 ^ i := Nat.two_pow_pos i
  have hlt : 2 ^ i ≤ 2 ^ 62 := Nat.pow_le_pow_right (by decide) (by omega)
  have hc : ((2 : Int) ^ i - 1) = ((2 ^ i - 1 : Nat) : Int) := by
    rw [Int.natCast_sub hpos]; simp
  have hnn : 0 ≤ x % 18446744073709551616 := Int.emod_nonneg _ (by decide)
  obtain ⟨a, ha⟩ := Int.eq_ofNat_of_zero_le hnn
  have hal : a < 18446744073709551616 := by omega
  have e1 : (BitVec.ofInt 64 x).toNat = a := by
    rw [BitVec.toNat_ofInt]
    show (x % ((2 ^ 64 : Nat) : Int)).toNat = a
    have : ((2 ^ 64 : Nat) : Int) = 18446744073709551616 := by decide
    rw [this, ha]
    rfl
  have e2 : (BitVec.ofInt 64 (((2 ^ i - 1 : Nat) : Int))).toNat = 2 ^ i - 1 := by
    rw [BitVec.ofInt_natCast, BitVec.toNat_ofNat]
    exact Nat.mod_eq_of_lt (by omega)
  have hdvd : (2 : Int) ^ i ∣ 18446744073709551616 := by
    refine ⟨2 ^ (64 - i), ?_⟩
    rw [← Int.pow_add, show i + (64 - i) = 64 by omega]
    decide
  have hmm : x % 2 ^ i = ((a % 2 ^ i : Nat) : Int) := by
    rw [← Int.emod_emod_of_dvd x hdvd, ha]
    simp
  have hml : a % 2 ^ i < 2 ^ i := Nat.mod_lt _ hpos
  rw [hc, hmm]
  have hw : ∀ z : Nat, z < 2 ^ 62 → k.wrap (z : Int) = (z : Int) := by
    intro z hz
    rcases hk with rfl | rfl
    · rw [IntKind.wrap_i64]; omega
    · rw [IntKind.wrap_u64]; omega
  have e3 : (BitVec.ofInt 64 x &&& BitVec.ofInt 64 (((2 ^ i - 1 : Nat) : Int))).toNat = a % 2 ^ i := by rw [BitVec.toNat_and, e1, e2, Nat.and_two_pow_sub_one_eq_mod]
  have e4 : iand k x (((2 ^ i - 1 : Nat) : Int)) = k.wrap ((BitVec.ofInt 64 x &&& BitVec.ofInt 64 (((2 ^ i - 1 : Nat) : Int))).toNat : Int) := by rcases hk with rfl | rfl <;> rfl
  rw [e4, e3]
  exact hw _ (by omega)
theorem shift_is (x n : Int) (hx : -9223372036854775808 ≤ x ∧ x ≤ 9223372036854775807) : round_Shift x n = some (sh x (min (max n 0) 62).toNat) := by
  obtain ⟨k, hk⟩ := Int.eq_ofNat_of_zero_le (show 0 ≤ min (max n 0) 62 by omega)
  have hk2 : k ≤ 62 := by omega
  have hp := pow_pos' k
  have h62 := pow_le62 k hk2
  have e1 : ishr .i64 x (k : Int) = x / 2 ^ k := by
    unfold ishr
    rw [show min ((k : Int).toNat) IntKind.i64.bits = k by show min ((k:Int).toNat) 64 = k; omega, Int.fdiv_eq_ediv_of_nonneg _ (by omega)]
  have e2 : ishl .u64 1 (k : Int) = 2 ^ k := by
    unfold ishl
    rw [show min ((k : Int).toNat) IntKind.u64.bits = k by show min ((k:Int).toNat) 64 = k; omega, Int.one_mul, IntKind.wrap_u64]; omega
  have e3 : ishr .u64 (2 ^ k) 1 = 2 ^ k / 2 := by
    unfold ishr
    rw [show min ((1 : Int).toNat) IntKind.u64.bits = 1 from rfl, Int.fdiv_eq_ediv_of_nonneg _ (by omega)]
    rfl
  have e4 : IntKind.u64.wrap ((2:Int) ^ k - 1) = 2 ^ k - 1 := by rw [IntKind.wrap_u64]; omega
  have e5 : iand .u64 (IntKind.u64.wrap x) (2 ^ k - 1) = x % 2 ^ k := by
    rw [and_low _ (.inr rfl) k (by omega), IntKind.wrap_u64]
    refine Int.emod_emod_of_dvd x ?_
    refine ⟨2 ^ (64 - k), ?_⟩
    rw [← Int.pow_add, show k + (64 - k) = 64 by omega]; decide
  have e6 : ∀ z : Int, iand .i64 z 1 = z % 2 := fun z => and_low .i64 (.inl rfl) 1 (by omega) z
  unfold round_Shift
  rw [hk]
  simp only [chk_ok _ (show (0:Int) ≤ (k:Int) by omega), Option.bind_some, e1, e2, e4, e5, e3, e6]
  unfold sh
  rw [Int.toNat_natCast]
  by_cases h0 : 0 < k
  · have hd := half_in x hx k h0
    have hw : IntKind.i64.wrap (x / 2 ^ k + 1) = x / 2 ^ k + 1 := W_in (by omega)
    by_cases c1 : x % 2 ^ k > 2 ^ k / 2
    · rw [if_pos c1, if_pos c1, round_Shift.J1, if_pos rfl, hw]
    · rw [if_neg c1, if_neg c1]
      by_cases c2 : x % 2 ^ k = 2 ^ k / 2
      · rw [if_pos c2, if_pos c2, if_pos (show (k : Int) > 0 by omega), if_pos h0, round_Shift.J1]
        by_cases c3 : x / 2 ^ k % 2 = 1
        · rw [if_pos (by simp only [c3, decide_true]), if_pos c3, hw]
        · rw [if_neg (by simp only [c3, decide_false]; decide), if_neg c3]
      · rw [if_neg c2, if_neg c2, round_Shift.J1, if_neg (by decide)]
  · obtain rfl : k = 0 := by omega
    have z1 : x % (2 : Int) ^ 0 = 0 := by simp
    have z2 : (2 : Int) ^ 0 / 2 = 0 := by decide
    rw [z1, z2, if_neg (by decide), if_pos rfl, if_neg (by decide), if_neg (by decide), if_pos rfl, if_neg (by decide), round_Shift.J1, if_neg (by decide)]

theorem fill_step {α : Type} (n : Nat) (f : Nat → α) (z : α) (i : Nat) : (tabl n fun k => if k < i then f k else z).set ((i : Int)).toNat (f i) = tabl n fun k => if k < i + 1 then f k else z := by
  rw [Int.toNat_natCast, tabl_set]
  refine tabl_congr fun j hj => ?_
  by_cases h : j = i
  · subst h; rw [if_pos rfl, if_pos (by omega)]
  · rw [if_neg h]
    by_cases h2 : j < i
    · rw [if_pos h2, if_pos (by omega)]
    · rw [if_neg h2, if_neg (by omega)]
theorem fill_0 {α : Type} (n : Nat) (f : Nat → α) (z : α) : List.replicate n z = tabl n fun k => if k < 0 then f k else z := by
  rw [tabl_rep]
  exact tabl_congr fun j hj => (if_neg (by omega)).symm
theorem fill_n {α : Type} (n : Nat) (f : Nat → α) (z : α) : (tabl n fun k => if k < n then f k else z) = tabl n f := tabl_congr fun j hj => if_pos hj
theorem w8_is (x : Int) : IntKind.i8.wrap x = (x + 128) % 256 - 128 := by
  simp [IntKind.wrap, IntKind.bits, IntKind.signed]
  split <;> omega
theorem sat8_is (x : Int) : round_Sat8 x = some (min (max x (-128)) 127) := by
  unfold round_Sat8 round_near_int8
  simp only [Option.bind_some]
  congr 1
  rw [w8_is]; omega
theorem sat32_is (x : Int) : round_Sat32 x = some (min (max x (-2147483648)) 2147483647) := by
  unfold round_Sat32 round_near_int32
  simp only [Option.bind_some]
  congr 1
  rw [IntKind.wrap_i32]; omega
theorem scale_is (x b n : Int) : round_Scale x b n = some (scl x b n (-2147483648) 2147483647) := by
  unfold round_Scale
  rw [shift_is _ _ (W_range _), Option.bind_some, sat32_is, Option.bind_some]
  rfl
theorem quant_is (x b n : Int) : round_Quant x b n = some (scl x b n (-128) 127) := by
  unfold round_Quant
  rw [shift_is _ _ (W_range _), Option.bind_some, sat8_is, Option.bind_some]
  rfl
theorem scl8 (x b n : Int) : IntKind.i8.wrap (scl x b n (-128) 127) = scl x b n (-128) 127 := by
  unfold scl
  rw [w8_is]; omega
theorem roundQuants_is {N : Nat} (b n : Int) (xs : List Int) (hl : xs.length < N) (h2 : xs.length ≤ 100000) : round_Quants N b n xs = some (tabl xs.length fun i => scl (xs.getD i 0) b n (-128) 127) := by
  unfold round_Quants
  rw [chk_ok _ (by omega), Int.toNat_natCast, fill_0 xs.length (fun i => scl (xs.getD i 0) b n (-128) 127) 0]
  refine loop_c (fun m (s : List Int) i => round_Quants.L1 b n xs m s i) (fun i => tabl xs.length fun k => if k < i then scl (xs.getD k 0) b n (-128) 127 else 0) xs.length _ (fun m i hi => ?_) (fun m => ?_) N hl
  · show round_Quants.L1 b n xs (m + 1) _ (i : Int) = round_Quants.L1 b n xs m _ _
    rw [round_Quants.L1, if_pos (by omega), idx_d xs 0 hi, Option.bind_some, quant_is, Option.bind_some, idx_t _ hi, Option.bind_some, W_succ i (by omega), fill_step xs.length (fun k => scl (xs.getD k 0) b n (-128) 127) 0 i]
  · show round_Quants.L1 b n xs (m + 1) _ (xs.length : Int) = _
    rw [round_Quants.L1, if_neg (by omega), fill_n]
theorem rdot_is {N : Nat} (a b : List Int) (h : a.length = b.length) (hl : a.length < N) (h2 : a.length ≤ 1000000) : round_Dot N a b = some (IntKind.i32.wrap (dots a b a.length)) := by
  unfold round_Dot
  have h0 : (0 : Int) = IntKind.i32.wrap (dots a b 0) := rfl
  refine (congrArg (fun z => round_Dot.L1 a b N z 0) h0).trans ?_
  refine loop_c (fun m (s : Int) i => round_Dot.L1 a b m s i) (fun i => IntKind.i32.wrap (dots a b i)) a.length _ (fun m i hi => ?_) (fun m => ?_) N hl
  · show round_Dot.L1 a b (m + 1) _ (i : Int) = round_Dot.L1 a b m _ _
    rw [round_Dot.L1, if_pos (by omega), idx_d a 0 hi, Option.bind_some, idx_d b 0 (by omega), Option.bind_some, W_succ i (by omega)]
    congr 1
    rw [dots]
    generalize dots a b i = d
    generalize a.getD i 0 = x
    generalize b.getD i 0 = y
    have e : IntKind.i32.wrap (IntKind.i32.wrap x * IntKind.i32.wrap y) = IntKind.i32.wrap (x * y) := by
      obtain ⟨p, hp⟩ : ∃ p, IntKind.i32.wrap x = x + 4294967296 * p := ⟨-((x + 2147483648) / 4294967296), by rw [IntKind.wrap_i32]; omega⟩
      obtain ⟨q, hq⟩ : ∃ q, IntKind.i32.wrap y = y + 4294967296 * q := ⟨-((y + 2147483648) / 4294967296), by rw [IntKind.wrap_i32]; omega⟩
      rw [hp, hq, show (x + 4294967296 * p) * (y + 4294967296 * q) = x * y + 4294967296 * (p * y + x * q + 4294967296 * (p * q)) by
        rw [Int.add_mul, Int.mul_add, Int.mul_add]
        generalize x * y = xy
        rw [show x * (4294967296 * q) = 4294967296 * (x * q) by rw [Int.mul_left_comm], Int.mul_assoc 4294967296 p y, show 4294967296 * p * (4294967296 * q) = 4294967296 * (4294967296 * (p * q)) by rw [Int.mul_assoc, Int.mul_left_comm p]]
        omega]
      simp only [IntKind.wrap_i32]
      omega
    rw [e]
    simp only [IntKind.wrap_i32]
    omega
  · show round_Dot.L1 a b (m + 1) _ (a.length : Int) = _
    rw [round_Dot.L1, if_neg (by omega)]
end Go.Proofs.YtbfiagimgokccaaGreat

namespace Go.Proofs.YtbfiagimgokccaaGreat
open Go Go.Hp
set_option linter.unusedVariables false
theorem matP {m : S_api_Mat} {r c : Nat} (h : matR m r c) (hr : r ≤ 200) (hc : c ≤ 200) : matmul_wrong m = some false := by
  obtain ⟨h1, h2, h3⟩ := h
  have hrc : r * c ≤ 40000 := Nat.le_trans (Nat.mul_le_mul hr hc) (by decide)
  have e : ((r * c : Nat) : Int) = (r : Int) * (c : Int) := by simp
  have hs : ∀ k : Nat, k ≤ 200 → matmul_side (k : Int) = some true := fun k hk => by
    unfold matmul_side
    rw [if_pos (by omega), decide_eq_true (by omega)]
  unfold matmul_wrong
  rw [h1, h2, hs r hr, Option.bind_some, if_pos rfl, hs c hc, Option.bind_some, if_pos rfl, h3, W_in (by rw [← e]; omega), if_neg (by rw [← e]; omega), decide_eq_false (by omega)]
theorem rowAt {m : S_api_Mat} {r c i : Nat} (h : matR m r c) (hr : r ≤ 200) (hc : c ≤ 200) (hi : i < r) :
    IntKind.i64.wrap ((i : Int) * m.Cols) = ((i * c : Nat) : Int) ∧ IntKind.i64.wrap (IntKind.i64.wrap ((i : Int) + 1) * m.Cols) = (((i + 1) * c : Nat) : Int) ∧ (i + 1) * c ≤ m.V.length := by
  obtain ⟨h1, h2, h3⟩ := h
  have a1 : (i + 1) * c ≤ r * c := Nat.mul_le_mul_right c (by omega)
  have a2 : r * c ≤ 40000 := Nat.le_trans (Nat.mul_le_mul hr hc) (by decide)
  have a3 : i * c ≤ (i + 1) * c := Nat.mul_le_mul_right c (by omega)
  refine ⟨?_, ?_, by omega⟩
  · rw [h2, show (i : Int) * (c : Int) = ((i * c : Nat) : Int) by simp, W_in (by omega)]
  · rw [h2, W_succ i (by omega), show ((i + 1 : Nat) : Int) * (c : Int) = (((i + 1) * c : Nat) : Int) by simp, W_in (by omega)]
theorem row_part {m : S_api_Mat} {r c i : Nat} (h : matR m r c) (hi : (i + 1) * c ≤ m.V.length) : ((m.V.take ((i + 1) * c)).drop (i * c)).length = c ∧ ∀ j, j < c → ((m.V.take ((i + 1) * c)).drop (i * c)).getD j 0 = m.V.getD (i * c + j) 0 := by
  have e : (i + 1) * c = i * c + c := Nat.succ_mul i c
  refine ⟨by simp; omega, fun j hj => ?_⟩
  rw [List.getD_eq_getElem?_getD, List.getElem?_drop, List.getElem?_take, if_pos (by omega), ← List.getD_eq_getElem?_getD]
theorem papply_is {N : Nat} {m : S_api_Mat} {r c : Nat} (h : matR m r c) (hr : r ≤ 200) (hc : c ≤ 200) (hN : 200 < N) (x : List Int) (hx : x.length = c) : matmul_Apply N m x = some (applyS m x r c, 0) := by
  unfold matmul_Apply
  try rw [show (⟨m.Rows, m.Cols, m.V⟩ : S_api_Mat) = m from rfl]
  rw [matP h hr hc, Option.bind_some, if_neg (by decide), if_neg (by rw [h.2.1]; omega), chk_ok _ (by rw [h.1]; omega), h.1, Int.toNat_natCast]
  rw [fill_0 r (fun i => IntKind.i32.wrap (dots (rowOf m c i) x c)) 0]
  refine loop_c (fun k (s : List Int) i => matmul_Apply.L1 N m x k s i) (fun i => tabl r fun k => if k < i then IntKind.i32.wrap (dots (rowOf m c k) x c) else 0) r _ (fun k i hi => ?_) (fun k => ?_) N (by omega)
  · show matmul_Apply.L1 N m x (k + 1) _ (i : Int) = matmul_Apply.L1 N m x k _ _
    obtain ⟨w1, w2, w3⟩ := rowAt h hr hc hi
    obtain ⟨l1, l2⟩ := row_part h w3
    have a3 : i * c ≤ (i + 1) * c := Nat.mul_le_mul_right c (by omega)
    rw [matmul_Apply.L1, if_pos (by rw [h.1, Int.toNat_natCast]; omega), w1, w2, chk_ok _ (by omega), Int.toNat_natCast, Int.toNat_natCast, rdot_is _ _ (by rw [l1, hx]) (by omega) (by omega), Option.bind_some, idx_t _ hi, Option.bind_some, W_succ i (by omega), l1]
    have hd : dots ((m.V.take ((i + 1) * c)).drop (i * c)) x c = dots (rowOf m c i) x c := dots_congr _ _ _ _ c fun j hj => ⟨by rw [l2 j hj, rowOf, tabl_getD _ _ _ _ hj], rfl⟩
    rw [hd, fill_step r (fun k => IntKind.i32.wrap (dots (rowOf m c k) x c)) 0 i]
  · show matmul_Apply.L1 N m x (k + 1) _ (r : Int) = _
    rw [matmul_Apply.L1, if_neg (by rw [h.1, Int.toNat_natCast]; omega), fill_n]
    rfl
theorem pquants_is {N : Nat} {m : S_api_Mat} {r c : Nat} (h : matR m r c) (hr : r ≤ 200) (hc : c ≤ 200) (hN : 200 < N) (x : List Int) (hx : x.length = c) : block_quants N m x = some (quantsS m x r c) := by
  unfold block_quants
  try rw [show (⟨m.Rows, m.Cols, m.V⟩ : S_api_Mat) = m from rfl]
  rw [papply_is h hr hc hN x hx, Option.bind_some, roundQuants_is _ _ _ (by rw [applyS_len]; omega) (by rw [applyS_len]; omega), Option.bind_some, applyS_len]
  congr 1
  exact tabl_congr fun i hi => (scl8 _ _ _).symm
theorem pjoin_is {N : Nat} (x y : List Int) (by_ n : Int) (h : y.length = x.length) (hl : x.length ≤ 200) (hN : 200 < N) : norm_Join N x y by_ n = some (joinS x y by_ n, 0) := by
  have hs : ∀ a b : Int, round_Sum N [a, b] = some (IntKind.i32.wrap (a + b)) := fun a b => by
    obtain ⟨k, rfl⟩ : ∃ k, N = k + 3 := ⟨N - 3, by omega⟩
    unfold round_Sum
    rw [round_Sum.L1, if_pos (by simp), show idx [a, b] 0 = some a from rfl, Option.bind_some, Option.bind_some, show IntKind.i64.wrap (0 + 1) = 1 from rfl, round_Sum.L1, if_pos (by simp), show idx [a, b] 1 = some b from rfl, Option.bind_some, Option.bind_some, show IntKind.i64.wrap (1 + 1) = 2 from rfl, round_Sum.L1, if_neg (by simp)]
    congr 1
    simp only [IntKind.wrap_i32, IntKind.wrap_u32]
    omega
  unfold norm_Join
  rw [if_neg (by omega), chk_ok _ (by omega), Int.toNat_natCast, fill_0 x.length (fun i => IntKind.i32.wrap (x.getD i 0 + scl (y.getD i 0) by_ n (-2147483648) 2147483647)) 0]
  refine loop_c (fun k (s : List Int) i => norm_Join.L1 N x y by_ n k s i) (fun i => tabl x.length fun k => if k < i then IntKind.i32.wrap (x.getD k 0 + scl (y.getD k 0) by_ n (-2147483648) 2147483647) else 0) x.length _ (fun k i hi => ?_) (fun k => ?_) N (by omega)
  · show norm_Join.L1 N x y by_ n (k + 1) _ (i : Int) = norm_Join.L1 N x y by_ n k _ _
    rw [norm_Join.L1, if_pos (by omega), idx_d x 0 hi, Option.bind_some, idx_d y 0 (by omega), Option.bind_some, scale_is, Option.bind_some, hs, Option.bind_some, idx_t _ hi, Option.bind_some, W_succ i (by omega), fill_step x.length (fun i => IntKind.i32.wrap (x.getD i 0 + scl (y.getD i 0) by_ n (-2147483648) 2147483647)) 0 i]
  · show norm_Join.L1 N x y by_ n (k + 1) _ (x.length : Int) = _
    rw [norm_Join.L1, if_neg (by omega), fill_n]
    rfl
end Go.Proofs.YtbfiagimgokccaaGreat

namespace Go.Proofs.YtbfiagimgokccaaGreat
open Go Go.Hp
set_option linter.unusedVariables false
theorem shr_is (x : Int) (k : Nat) (hk : k ≤ 62) : ishr .i64 x (k : Int) = x / 2 ^ k := by
  unfold ishr
  have hp := pow_pos' k
  rw [show min ((k : Int).toNat) IntKind.i64.bits = k by show min ((k:Int).toNat) 64 = k; omega, Int.fdiv_eq_ediv_of_nonneg _ (by omega)]
theorem step_is (i : Nat) (h : i ≤ 33) : rope_step (i : Int) = some (sinT.getD (min i 32) 0) := by
  have key : ∀ i : Fin 34, rope_step ((i.val : Nat) : Int) = some (sinT.getD (min i.val 32) 0) := by decide +kernel
  exact key ⟨i, by omega⟩
theorem psin_is (a : Int) (ha : -9223372036854775808 ≤ a ∧ a ≤ 9223372036854775807) : rope_Sin a = some (sinS a) := by
  have hr : 0 ≤ a % 65536 ∧ a % 65536 < 65536 := by omega
  have e0 : iand .i64 a 65535 = a % 65536 := and_low .i64 (.inl rfl) 16 (by omega) a
  unfold rope_Sin sinS
  rw [e0]
  generalize a % 65536 = r at hr ⊢
  dsimp only
  have eq : IntKind.i64.wrap (Int.tdiv r 16384) = r / 16384 := by rw [Int.tdiv_eq_ediv_of_nonneg hr.1, W_in (by omega)]
  have em : Int.tmod r 16384 = r % 16384 := Int.tmod_eq_emod_of_nonneg hr.1
  have hq : 0 ≤ r / 16384 ∧ r / 16384 ≤ 3 := by omega
  rw [eq, em, Option.bind_some, Option.bind_some]
  have e1 : ∀ q : Int, iand .i64 q 1 = q % 2 := fun q => and_low .i64 (.inl rfl) 1 (by omega) q
  rw [e1]
  generalize r / 16384 = q at hq ⊢
  have j1 : ∀ f : Int, 0 ≤ f → f ≤ 16384 → rope_Sin.J1 q f = some (if q = 2 ∨ q = 3 then IntKind.i32.wrap (IntKind.i64.wrap (0 - arcS f)) else IntKind.i32.wrap (arcS f)) := by
    intro f h0 h1
    obtain ⟨i, hi⟩ := Int.eq_ofNat_of_zero_le (show 0 ≤ f / 512 by omega)
    have hi2 : i ≤ 32 := by omega
    have e9 : ishr .i64 f 9 = (i : Int) := (shr_is f 9 (by omega)).trans hi
    have e5 : iand .i64 f 511 = f % 512 := and_low .i64 (.inl rfl) 9 (by omega) f
    have ea : IntKind.i64.wrap (sinT.getD (min i 32) 0 + sh (IntKind.i64.wrap (IntKind.i64.wrap (sinT.getD (min (i + 1) 32) 0 - sinT.getD (min i 32) 0) * (f % 512))) 9) = arcS f := by
      unfold arcS
      by_cases c : f / 512 < 32
      · rw [if_pos c, hi, Int.toNat_natCast, show min i 32 = i by omega, show min (i + 1) 32 = i + 1 by omega]
      · obtain rfl : i = 32 := by omega
        rw [if_neg c, show f % 512 = 0 by omega]
        decide +kernel
    unfold rope_Sin.J1
    rw [e9, e5, W_succ i (by omega), step_is i (by omega), step_is (i + 1) (by omega), Option.bind_some, Option.bind_some, Option.bind_some, shift_is _ _ (W_range _), Option.bind_some, show (min (max (9 : Int) 0) 62).toNat = 9 from rfl, ea]
    by_cases c : q ≥ 2
    · rw [if_pos c, if_pos (show q = 2 ∨ q = 3 by omega)]; rfl
    · rw [if_neg c, if_neg (show ¬ (q = 2 ∨ q = 3) by omega)]; rfl
  by_cases c1 : q % 2 = 1
  · rw [if_pos c1, W_in (by omega), Option.bind_some, j1 _ (by omega) (by omega), if_pos (show q = 1 ∨ q = 3 by omega)]
  · rw [if_neg c1, j1 _ (by omega) (by omega), if_neg (show ¬ (q = 1 ∨ q = 3) by omega)]
theorem pcos_is (a : Int) (ha : -9223372036854775808 ≤ a ∧ a ≤ 9223372036854775807) : rope_Cos a = some (cosS a) := by
  unfold rope_Cos cosS
  have e0 : iand .i64 a 65535 = a % 65536 := and_low .i64 (.inl rfl) 16 (by omega) a
  rw [e0, W_in (by omega), psin_is _ (by omega), Option.bind_some]
theorem pangle_is (place pair : Nat) (hp : place ≤ 1000) (hq : pair ≤ 13) : rope_Angle (place : Int) (pair : Int) = some (angS place pair) := by
  unfold rope_Angle
  have e2 : IntKind.u64.wrap (pair : Int) = (pair : Int) := by rw [IntKind.wrap_u64]; omega
  have hk : (0 : Int) < 2 ^ pair := pow_pos' pair
  have hd : (0 : Int) ≤ 8192 / 2 ^ pair ∧ (8192 : Int) / 2 ^ pair ≤ 8192 := ⟨Int.ediv_nonneg (by decide) (by omega), Int.ediv_le_self _ (by decide)⟩
  have hm : (0 : Int) ≤ (place : Int) * (8192 / 2 ^ pair) ∧ (place : Int) * (8192 / 2 ^ pair) ≤ 8192000 := by
    refine ⟨Int.mul_nonneg (by omega) hd.1, ?_⟩
    have := Int.mul_le_mul (show (place : Int) ≤ 1000 by omega) hd.2 hd.1 (by decide)
    omega
  rw [if_neg (by omega), if_neg (by omega), if_neg (by omega), e2, show min (pair : Int) 14 = (pair : Int) by omega, chk_ok _ (by omega), shr_is 8192 pair (by omega), Option.bind_some, W_in (by omega)]
  congr 1
  exact and_low .i64 (.inl rfl) 16 (by omega) _
end Go.Proofs.YtbfiagimgokccaaGreat

namespace Go.Proofs.YtbfiagimgokccaaGreat
open Go Go.Hp
set_option linter.unusedVariables false
theorem ppair_is (place : Nat) (x : List Int) (i : Nat) : rope_pairOf (x.getD (2 * i) 0) (x.getD (2 * i + 1) 0) ⟨cosS (angS place i), sinS (angS place i)⟩ = some (turnA place x i, turnB place x i) := by
  have w8r : ∀ z : Int, IntKind.i8.wrap (min (max z (-128)) 127) = min (max z (-128)) 127 := fun z => by rw [w8_is]; omega
  unfold rope_pairOf
  rw [shift_is _ _ (W_range _), Option.bind_some, sat8_is, Option.bind_some, shift_is _ _ (W_range _), Option.bind_some, sat8_is, Option.bind_some]
  unfold turnA turnB
  rw [w8r, w8r]
  rfl
theorem pturn_is {N : Nat} (hN : 200 < N) (place : Nat) (hp : place ≤ 1000) (x : List Int) (p : Nat) (hx : x.length = 2 * p) (hl : p ≤ 13) : rope_Turn N (place : Int) x = some (turnS place x, 0) := by
  unfold rope_Turn
  rw [if_neg (by rw [Int.tmod_eq_emod_of_nonneg (by omega)]; omega), if_neg (by omega), if_neg (by omega), chk_ok _ (by omega), Int.toNat_natCast]
  let f : Nat → Int := fun k => if k % 2 = 0 then turnA place x (k / 2) else turnB place x (k / 2)
  have ht : turnS place x = tabl x.length f := by
    unfold turnS
    rw [show 2 * (x.length / 2) = x.length by omega]
  obtain ⟨m', s', hs', e⟩ := loop_to (fun m (s : List Int) i => rope_Turn.L1 (place : Int) x m s i) (fun i => ((2 * i : Nat) : Int)) p (fun i s => s = tabl x.length fun k => if k < 2 * i then f k else 0) (fun m i s hi hs => by
    subst hs
    refine ⟨_, rfl, ?_⟩
    have a1 : IntKind.i64.wrap (Int.tdiv ((2 * i : Nat) : Int) 2) = (i : Int) := by rw [Int.tdiv_eq_ediv_of_nonneg (by omega), W_in (by omega)]; omega
    have a2 : IntKind.i64.wrap (((2 * i : Nat) : Int) + 1) = ((2 * i + 1 : Nat) : Int) := W_succ (2 * i) (by omega)
    have a3 : IntKind.i64.wrap (((2 * i : Nat) : Int) + 2) = ((2 * (i + 1) : Nat) : Int) := by rw [W_in (by omega)]; omega
    have hr : -9223372036854775808 ≤ angS place i ∧ angS place i ≤ 9223372036854775807 := by unfold angS; omega
    have fA : turnA place x i = f (2 * i) := by show _ = if 2 * i % 2 = 0 then turnA place x (2 * i / 2) else _; rw [if_pos (by omega), show 2 * i / 2 = i by omega]
    have fB : turnB place x i = f (2 * i + 1) := by show _ = if (2 * i + 1) % 2 = 0 then _ else turnB place x ((2 * i + 1) / 2); rw [if_neg (by omega), show (2 * i + 1) / 2 = i by omega]
    show rope_Turn.L1 (place : Int) x (m + 1) _ ((2 * i : Nat) : Int) = _
    rw [rope_Turn.L1, if_pos (by omega), a1, a2, a3, pangle_is place i hp (by omega), Option.bind_some, idx_d x 0 (by omega), Option.bind_some, idx_d x 0 (by omega), Option.bind_some, pcos_is _ hr, Option.bind_some, psin_is _ hr, Option.bind_some, ppair_is, Option.bind_some, idx_t _ (by omega), Option.bind_some]
    show (idx ((tabl x.length fun k => if k < 2 * i then f k else 0).set (((2 * i : Nat) : Int)).toNat (turnA place x i)) ((2 * i + 1 : Nat) : Int)).bind _ = _
    rw [fA, fill_step x.length f 0 (2 * i), idx_t _ (by omega), Option.bind_some]
    show rope_Turn.L1 (place : Int) x m ((tabl x.length fun k => if k < 2 * i + 1 then f k else 0).set (((2 * i + 1 : Nat) : Int)).toNat (turnB place x i)) _ = _
    rw [fB, fill_step x.length f 0 (2 * i + 1)]
    rfl) N (List.replicate x.length 0) (by omega) (fill_0 x.length f 0)
  subst hs'
  refine e.trans ?_
  show rope_Turn.L1 (place : Int) x (m' + 1) _ ((2 * p : Nat) : Int) = _
  rw [rope_Turn.L1, if_neg (by omega), ht, show 2 * p = x.length from hx.symm, fill_n]
theorem pturned_is {N : Nat} (hN : 200 < N) (place w n : Nat) (hp : place ≤ 1000) (x : List Int) (hx : x.length = n * w) (hn : n ≤ 150) (hw : 0 < w) (hw2 : w % 2 = 0) (hw3 : w ≤ 26) : block_turned N (place : Int) (w : Int) x = some (turnedS place w x n) := by
  have hnw : n * w ≤ 3900 := Nat.mul_le_mul hn hw3
  unfold block_turned
  rw [chk_ok _ (by omega), Int.toNat_natCast]
  have key : ∀ (d m k : Nat), k + d = n → d < m → block_turned.L N (place : Int) w x m (turnedS place w x k) (k * w) = some (turnedS place w x n) := by
    intro d
    induction d with
    | zero =>
      intro m k hk hm
      obtain ⟨m, rfl⟩ : ∃ q, m = q + 1 := ⟨m - 1, by omega⟩
      obtain rfl : k = n := by omega
      rw [block_turned.L, if_neg (by omega)]
    | succ d ih =>
      intro m k hk hm
      obtain ⟨m, rfl⟩ : ∃ q, m = q + 1 := ⟨m - 1, by omega⟩
      have e1 : (k + 1) * w = k * w + w := Nat.succ_mul k w
      have e2 : (k + 1) * w ≤ n * w := Nat.mul_le_mul_right w (by omega)
      have e3 : k * w + min w (x.length - k * w) = (k + 1) * w := by omega
      have hpl : (part x w k).length = w := part_len x w k n hx (by omega)
      have hT := pturn_is hN place hp (part x w k) (w / 2) (by omega) (by omega)
      have hl := turnedS_len place w x n hx hw2 k (by omega)
      rw [block_turned.L, if_pos (by omega), e3, show (x.take ((k + 1) * w)).drop (k * w) = part x w k from rfl, hT, Option.bind_some]
      show (chk ((turnedS place w x k).length + (turnS place (part x w k)).length ≤ 4294967296) <| block_turned.L N (place : Int) w x m (turnedS place w x k ++ turnS place (part x w k)) (k * w + w)) = _
      rw [chk_ok _ (by rw [hl, turnS_len]; omega), ← e1]
      exact ih m (k + 1) (by omega) (by omega)
  have := key n N 0 (by omega) (by omega)
  rw [Nat.zero_mul] at this
  exact this
end Go.Proofs.YtbfiagimgokccaaGreat

namespace Go.Proofs.YtbfiagimgokccaaGreat
open Go Go.Hp
set_option linter.unusedVariables false
theorem estep_is (i : Nat) (h : i < 33) : curve_step (i : Int) = some (tbl.getD i 0) := by
  have key : ∀ i : Fin 33, curve_step ((i.val : Nat) : Int) = some (tbl.getD i.val 0) := by decide +kernel
  exact key ⟨i, by omega⟩
theorem pexp_is (x : Int) : curve_Exp x = some (expS x) := by
  unfold curve_Exp
  by_cases h0 : x ≥ 0
  · rw [if_pos h0]
    by_cases h1 : x > 0
    · unfold expS
      rw [if_pos h1]
    · obtain rfl : x = 0 := by omega
      decide +kernel
  rw [if_neg h0]
  by_cases h1 : x < -4294967296
  · rw [if_pos h1]
    unfold expS
    rw [if_neg (by omega), if_pos (by omega)]
  rw [if_neg h1]
  have e3 : ishr .i64 (IntKind.i64.wrap (IntKind.i64.wrap (0 - x) * 94548)) 16 = (0 - x) * 94548 / 65536 := by
    rw [W_in (x := 0 - x) (by omega), W_in (x := (0 - x) * 94548) (by omega)]
    exact shr_is _ 16 (by omega)
  have ht : 0 ≤ (0 - x) * 94548 / 65536 ∧ (0 - x) * 94548 / 65536 ≤ 8000000000 := by omega
  have hbig : x < -10000000 → (0 - x) * 94548 / 65536 / 65536 > 31 := fun h => by omega
  rw [e3, Option.bind_some]
  unfold expS
  rw [if_neg (show ¬ x > 0 by omega)]
  dsimp only
  generalize (0 - x) * 94548 / 65536 = t at ht hbig ⊢
  have e4 : ishr .i64 t 16 = t / 65536 := shr_is t 16 (by omega)
  rw [e4]
  by_cases h3 : t / 65536 > 31
  · rw [if_pos h3, if_pos h3]
    split <;> rfl
  rw [if_neg h3, if_neg (fun h => h3 (hbig h)), if_neg h3]
  obtain ⟨i, hi⟩ := Int.eq_ofNat_of_zero_le (show 0 ≤ t % 65536 / 2048 by omega)
  have hi2 : i < 32 := by omega
  have a1 : iand .i64 t 65535 = t % 65536 := and_low .i64 (.inl rfl) 16 (by omega) t
  have a2 : iand .i64 (t % 65536) 2047 = t % 65536 % 2048 := and_low .i64 (.inl rfl) 11 (by omega) _
  have a3 : ishr .i64 (t % 65536) 11 = (i : Int) := (shr_is _ 11 (by omega)).trans hi
  rw [a1, a2, a3, Option.bind_some, Option.bind_some, estep_is i (by omega), Option.bind_some, Option.bind_some, W_succ i (by omega), estep_is (i + 1) (by omega), Option.bind_some, shift_is _ _ (W_range _), Option.bind_some, shift_is _ _ (W_range _), Option.bind_some, hi, Int.toNat_natCast, show min (max (t / 65536) 0) 62 = t / 65536 by omega]
  rfl
end Go.Proofs.YtbfiagimgokccaaGreat

namespace Go.Proofs.YtbfiagimgokccaaGreat
open Go Go.Hp
set_option linter.unusedVariables false
theorem wu_id {x : Int} (h : 0 ≤ x ∧ x < 18446744073709551616) : IntKind.u64.wrap x = x := by rw [IntKind.wrap_u64]; omega
theorem pshares_is {N : Nat} (x : List Int) (h : in32 x) (hl : x.length ≤ 200) (hN : 200 < N) : curve_Shares N 65536 x = some (sharesS 65536 x) := by
  unfold curve_Shares
  rw [chk_ok _ (by omega)]
  refine loop_c (fun m (s : Int) i => curve_Shares.L1 N 65536 x m s i) (fun i => sumS x i) x.length _ (fun m i hi => ?_) (fun m => ?_) N (by omega)
  · show curve_Shares.L1 N 65536 x (m + 1) _ (i : Int) = curve_Shares.L1 N 65536 x m _ _
    obtain ⟨a, b, c⟩ := sumS_range x h i
    have hx := h i
    rw [curve_Shares.L1, if_pos (by omega), idx_d x 0 hi, Option.bind_some, Option.bind_some, W_succ i (by omega), wu_id (x := max (x.getD i 0) 0) (by omega), wu_id (by omega), sumS]
    congr 1
    by_cases hk : x.getD i 0 > 0
    · rw [if_pos hk]; omega
    · rw [if_neg hk]; omega
  · show curve_Shares.L1 N 65536 x (m + 1) _ (x.length : Int) = _
    rw [curve_Shares.L1, if_neg (by omega), Int.toNat_natCast]
    let f : Nat → Int := fun i => if x.getD i 0 > 0 ∧ (65536 : Int) > 0 then IntKind.i32.wrap (IntKind.i64.wrap (Int.tdiv (IntKind.i64.wrap (IntKind.i64.wrap (x.getD i 0) * IntKind.i64.wrap 65536)) (sumS x x.length))) else 0
    rw [fill_0 x.length f 0]
    refine loop_c (fun m (s : List Int) i => curve_Shares.L2 65536 x (sumS x x.length) m s i) (fun i => tabl x.length fun k => if k < i then f k else 0) x.length _ (fun m i hi => ?_) (fun m => ?_) N (by omega)
    · show curve_Shares.L2 65536 x _ (m + 1) _ (i : Int) = curve_Shares.L2 65536 x _ m _ _
      obtain ⟨a, b, c⟩ := sumS_range x h x.length
      have hx := c i hi
      have h32 := h i
      rw [curve_Shares.L2, if_pos (by omega), idx_d x 0 hi, Option.bind_some]
      by_cases hk : x.getD i 0 > 0
      · rw [if_pos hk, show decide ((65536 : Int) > 0) = true from rfl, curve_Shares.J4, if_pos rfl, chk_ok _ (by omega), idx_t _ hi, Option.bind_some, curve_Shares.J3, W_succ i (by omega)]
        have hd : 0 ≤ Int.tdiv (x.getD i 0 * 65536) (sumS x x.length) ∧ Int.tdiv (x.getD i 0 * 65536) (sumS x x.length) ≤ x.getD i 0 * 65536 := by
          rw [Int.tdiv_eq_ediv_of_nonneg (by omega)]
          exact ⟨Int.ediv_nonneg (by omega) (by omega), Int.ediv_le_self _ (by omega)⟩
        have e : IntKind.i32.wrap (IntKind.u64.wrap (Int.tdiv (IntKind.u64.wrap (IntKind.u64.wrap (x.getD i 0) * IntKind.u64.wrap 65536)) (sumS x x.length))) = f i := by
          show _ = if x.getD i 0 > 0 ∧ (65536 : Int) > 0 then IntKind.i32.wrap (IntKind.i64.wrap (Int.tdiv (IntKind.i64.wrap (IntKind.i64.wrap (x.getD i 0) * IntKind.i64.wrap 65536)) (sumS x x.length))) else 0
          rw [if_pos ⟨hk, by decide⟩, wu_id (x := x.getD i 0) (by omega), show IntKind.u64.wrap 65536 = 65536 from rfl, show IntKind.i64.wrap 65536 = 65536 from rfl, W_in (x := x.getD i 0) (by omega), wu_id (x := x.getD i 0 * 65536) (by omega), W_in (x := x.getD i 0 * 65536) (by omega), wu_id (by omega), W_in (by omega)]
        rw [e, fill_step x.length f 0 i]
      · rw [if_neg hk, curve_Shares.J4, if_neg (by decide), curve_Shares.J3, W_succ i (by omega)]
        congr 1
        refine tabl_congr fun j hj => ?_
        by_cases h1 : j < i
        · rw [if_pos h1, if_pos (by omega)]
        · rw [if_neg h1]
          by_cases h2 : j = i
          · subst h2
            rw [if_pos (by omega)]
            exact (if_neg (fun h => hk h.1)).symm
          · rw [if_neg (by omega)]
    · show curve_Shares.L2 65536 x _ (m + 1) _ (x.length : Int) = _
      rw [curve_Shares.L2, if_neg (by omega), fill_n]
      rfl
end Go.Proofs.YtbfiagimgokccaaGreat

namespace Go.Proofs.YtbfiagimgokccaaGreat
open Go Go.Hp
set_option linter.unusedVariables false
theorem pmax_is {N : Nat} (x : List Int) (h0 : 0 < x.length) (hl : x.length ≤ 200) (hN : 201 < N) : slices_Max_s_int32_int32 N x = some (topS x (x.getD 0 0) x.length) := by
  unfold slices_Max_s_int32_int32
  rw [if_neg (by omega), show idx x (0 : Int) = some (x.getD 0 0) from idx_d x 0 h0, Option.bind_some]
  have ht : ∀ k, topS x (x.getD 0 0) k ≥ x.getD 0 0 := by
    intro k
    induction k with
    | zero => exact Int.le_refl _
    | succ k ih => rw [topS]; split <;> omega
  have key : ∀ (d m k : Nat), k + d = x.length → d < m → slices_Max_s_int32_int32.L1 x m (topS x (x.getD 0 0) k) (k : Int) = some (topS x (x.getD 0 0) x.length) := by
    intro d
    induction d with
    | zero =>
      intro m k hk hm
      obtain ⟨m, rfl⟩ : ∃ q, m = q + 1 := ⟨m - 1, by omega⟩
      obtain rfl : k = x.length := by omega
      rw [slices_Max_s_int32_int32.L1, if_neg (by omega)]
    | succ d ih =>
      intro m k hk hm
      obtain ⟨m, rfl⟩ : ∃ q, m = q + 1 := ⟨m - 1, by omega⟩
      rw [slices_Max_s_int32_int32.L1, if_pos (by omega), idx_d x 0 (by omega), Option.bind_some, W_succ k (by omega), show max (topS x (x.getD 0 0) k) (x.getD k 0) = topS x (x.getD 0 0) (k + 1) by rw [topS]; split <;> omega]
      exact ih m (k + 1) (by omega) (by omega)
  have e1 : topS x (x.getD 0 0) 1 = x.getD 0 0 := by rw [topS, topS]; split <;> omega
  have := key (x.length - 1) N 1 (by omega) (by omega)
  rw [e1] at this
  exact this
theorem topS_ge (x : List Int) (t : Int) : ∀ k, topS x t k ≥ t ∧ (∀ j, j < k → topS x t k ≥ x.getD j 0) ∧ (topS x t k = t ∨ ∃ j, j < k ∧ topS x t k = x.getD j 0)
  | 0 => ⟨Int.le_refl _, fun j hj => by omega, .inl rfl⟩
  | k + 1 => by
    obtain ⟨a, b, c⟩ := topS_ge x t k
    rw [topS]
    by_cases h : x.getD k 0 > topS x t k
    · rw [if_pos h]
      refine ⟨by omega, fun j hj => ?_, .inr ⟨k, by omega, rfl⟩⟩
      by_cases e : j = k
      · subst e; omega
      · have := b j (by omega); omega
    · rw [if_neg h]
      refine ⟨a, fun j hj => ?_, c.imp id fun ⟨j, h1, h2⟩ => ⟨j, by omega, h2⟩⟩
      by_cases e : j = k
      · subst e; omega
      · exact b j (by omega)
theorem topS_same (x : List Int) (i j : Nat) (hi : i < x.length) (hj : j < x.length) : topS x (x.getD i 0) x.length = topS x (x.getD j 0) x.length := by
  obtain ⟨a1, b1, c1⟩ := topS_ge x (x.getD i 0) x.length
  obtain ⟨a2, b2, c2⟩ := topS_ge x (x.getD j 0) x.length
  have u1 := b1 j hj
  have u2 := b2 i hi
  rcases c1 with e1 | ⟨p, hp, e1⟩ <;> rcases c2 with e2 | ⟨q, hq, e2⟩
  · omega
  · have := b1 q hq; omega
  · have := b2 p hp; omega
  · have := b1 q hq; have := b2 p hp; omega
theorem psoftmax_is {N : Nat} (by_ n : Int) (x : List Int) (h0 : 0 < x.length) (hl : x.length ≤ 200) (hN : 201 < N) : norm_Softmax N by_ n x = some (softS by_ n x) := by
  unfold norm_Softmax
  rw [if_neg (by omega), pmax_is x h0 hl hN, Option.bind_some, chk_ok _ (by omega), Int.toNat_natCast]
  let f : Nat → Int := fun i => expS (sh (IntKind.i64.wrap (IntKind.i64.wrap (IntKind.i64.wrap (x.getD i 0) - IntKind.i64.wrap (topS x (x.getD i 0) x.length)) * IntKind.i64.wrap by_)) (min (max n 0) 62).toNat)
  rw [fill_0 x.length f 0]
  refine loop_c (fun m (s : List Int) i => norm_Softmax.L1 N by_ n x (topS x (x.getD 0 0) x.length) m s i) (fun i => tabl x.length fun k => if k < i then f k else 0) x.length _ (fun m i hi => ?_) (fun m => ?_) N (by omega)
  · show norm_Softmax.L1 N by_ n x _ (m + 1) _ (i : Int) = norm_Softmax.L1 N by_ n x _ m _ _
    rw [norm_Softmax.L1, if_pos (by omega), idx_d x 0 hi, Option.bind_some, shift_is _ _ (W_range _), Option.bind_some, pexp_is, Option.bind_some, idx_t _ hi, Option.bind_some, W_succ i (by omega), topS_same x 0 i h0 hi]
    exact congrArg (fun z => norm_Softmax.L1 N by_ n x _ m z _) (fill_step x.length f 0 i)
  · show norm_Softmax.L1 N by_ n x _ (m + 1) _ (x.length : Int) = _
    rw [norm_Softmax.L1, if_neg (by omega), fill_n]
    have hp : in32 (powS by_ n x) := by
      intro k
      by_cases hk : k < x.length
      · rw [powS, tabl_getD _ _ _ _ hk]; exact expS_range _
      · rw [List.getD_eq_getElem?_getD, List.getElem?_eq_none (by rw [powS, tabl_len]; omega)]; decide
    have := pshares_is (N := N) (powS by_ n x) hp (by rw [powS, tabl_len]; omega) (by omega)
    rw [powS] at this
    rw [this, Option.bind_some]
    rfl
end Go.Proofs.YtbfiagimgokccaaGreat

namespace Go.Proofs.YtbfiagimgokccaaGreat
open Go Go.Hp
set_option linter.unusedVariables false
theorem pmix_is {N : Nat} (ws : List Int) (rows : List (List Int)) (n : Nat) (hw : ws.length = rows.length) (h0 : 0 < rows.length) (hr : rows.length ≤ 200) (hn : ∀ i, i < rows.length → (rows.getD i []).length = n) (hn2 : n ≤ 200) (hN : 200 < N) : norm_Mix N ws rows = some (mixS ws rows n, 0) := by
  unfold norm_Mix
  have hl0 := hn 0 h0
  rw [if_neg (by omega), if_neg (by omega), show idx rows (0 : Int) = some (rows.getD 0 []) from idx_d rows [] h0, Option.bind_some, chk_ok _ (by omega)]
  generalize hy : rows.getD 0 [] = y at hl0 ⊢
  have hz : (List.replicate (((y.length : Nat) : Int)).toNat 0 : List Int) = tabl n fun k => accS ws rows k 0 := by rw [Int.toNat_natCast, hl0, tabl_rep]; rfl
  rw [hz]
  refine loop_c (fun m (s : List Int) i => norm_Mix.L1 N ws rows y m s i) (fun i => tabl n fun k => accS ws rows k i) rows.length _ (fun m i hi => ?_) (fun m => ?_) N (by omega)
  · show norm_Mix.L1 N ws rows y (m + 1) _ (i : Int) = norm_Mix.L1 N ws rows y m _ _
    have hli := hn i hi
    rw [norm_Mix.L1, if_pos (by omega), idx_d rows [] hi, Option.bind_some, if_neg (by rw [hli, Int.toNat_natCast, hl0]; omega)]
    have hs : (tabl n fun k => accS ws rows k i) = tabl n fun k => if k < 0 then accS ws rows k (i + 1) else accS ws rows k i := tabl_congr fun j hj => (if_neg (by omega)).symm
    rw [hs]
    refine loop_c (fun q (s : List Int) j => norm_Mix.L3 ws (i : Int) (rows.getD i []) (norm_Mix.L1 N ws rows y m) q s j) (fun j => tabl n fun k => if k < j then accS ws rows k (i + 1) else accS ws rows k i) n _ (fun q j hj => ?_) (fun q => ?_) N (by omega)
    · show norm_Mix.L3 ws _ _ _ (q + 1) _ (j : Int) = norm_Mix.L3 ws _ _ _ q _ _
      rw [norm_Mix.L3, if_pos (by omega), idx_d (rows.getD i []) 0 (by omega), Option.bind_some, idx_t _ hj, Option.bind_some, idx_d ws 0 (by omega), Option.bind_some, Option.bind_some, W_succ j (by omega), if_neg (show ¬ j < j by omega), Int.toNat_natCast, tabl_set]
      congr 1
      refine tabl_congr fun p hp => ?_
      by_cases e : p = j
      · subst e; rw [if_pos rfl, if_pos (by omega)]; rfl
      · rw [if_neg e]
        by_cases e2 : p < j
        · rw [if_pos e2, if_pos (by omega)]
        · rw [if_neg e2, if_neg (by omega)]
    · show norm_Mix.L3 ws _ _ _ (q + 1) _ (n : Int) = _
      rw [norm_Mix.L3, if_neg (by omega), W_succ i (by omega)]
      congr 1
      exact tabl_congr fun p hp => if_pos hp
  · show norm_Mix.L1 N ws rows y (m + 1) _ (rows.length : Int) = _
    rw [norm_Mix.L1, if_neg (by omega), Int.toNat_natCast, hl0, chk_ok _ (by omega), Int.toNat_natCast]
    let f : Nat → Int := fun k => IntKind.i8.wrap (min (max (sh (accS ws rows k rows.length) 16) (-128)) 127)
    rw [fill_0 n f 0]
    refine loop_c (fun q (s : List Int) j => norm_Mix.L2 y (tabl n fun k => accS ws rows k rows.length) q s j) (fun j => tabl n fun k => if k < j then f k else 0) n _ (fun q j hj => ?_) (fun q => ?_) N (by omega)
    · show norm_Mix.L2 y _ (q + 1) _ (j : Int) = norm_Mix.L2 y _ q _ _
      rw [norm_Mix.L2, if_pos (by rw [Int.toNat_natCast, hl0]; omega), idx_t _ hj, Option.bind_some, shift_is _ _ (accS_range ws rows j _), Option.bind_some, sat8_is, Option.bind_some, idx_t _ hj, Option.bind_some, W_succ j (by omega)]
      have e : min (max (sh (accS ws rows j rows.length) (min (max (16 : Int) 0) 62).toNat) (-128)) 127 = f j := by
        show _ = IntKind.i8.wrap (min (max (sh (accS ws rows j rows.length) 16) (-128)) 127)
        rw [w8_is, show (min (max (16 : Int) 0) 62).toNat = 16 from rfl]; omega
      rw [e, fill_step n f 0 j]
    · show norm_Mix.L2 y _ (q + 1) _ (n : Int) = _
      rw [norm_Mix.L2, if_neg (by rw [Int.toNat_natCast, hl0]; omega), fill_n]
      rfl
end Go.Proofs.YtbfiagimgokccaaGreat

namespace Go.Proofs.YtbfiagimgokccaaGreat
open Go Go.Hp
set_option linter.unusedVariables false
theorem u64w {n : Int} (h0 : 0 ≤ n) (h1 : n < 18446744073709551616) : IntKind.u64.wrap n = n := by rw [IntKind.wrap_u64]; omega
theorem u64_wraps (n : Int) (h0 : 0 ≤ n) (h1 : n < 2 ^ 64) : IntKind.u64.wrap n = n := u64w h0 (by have : (2 : Int) ^ 64 = 18446744073709551616 := by decide
                                                                                                   omega)
theorem ior_pow (i : Nat) (x : Int) (h0 : 0 ≤ x) (h1 : x < 18446744073709551616) (hx : x % 2 ^ (i + 1) = 0) (hi : i < 64) : ior .u64 x (2 ^ i) = x + 2 ^ i := by
  have hp : (2 : Int) ^ 64 = 18446744073709551616 := by decide
  have h2 : (2 : Int) ^ i < 2 ^ (i + 1) := by
    have : (2 : Nat) ^ i < 2 ^ (i + 1) := Nat.pow_lt_pow_right (by decide) (by omega)
    exact_mod_cast this
  have h3 : (2 : Int) ^ i < 2 ^ 64 := by
    have : (2 : Nat) ^ i < 2 ^ 64 := Nat.pow_lt_pow_right (by decide) hi
    exact_mod_cast this
  have h4 : (0 : Int) ≤ 2 ^ i := by
    have : (0 : Nat) ≤ 2 ^ i := Nat.zero_le _
    exact_mod_cast this
  exact bits_join .u64 64 (by decide) u64_wraps (i + 1) x (2 ^ i) h0 hx (by omega) h4 h2 h3
theorem ishl_one (b : Nat) (hb : b < 64) : ishl .u64 1 (b : Int) = 2 ^ b := by
  unfold ishl
  have e : min ((b : Int).toNat) IntKind.u64.bits = b := by
    show min ((b : Int).toNat) 64 = b
    omega
  rw [e, Int.one_mul]
  refine u64_wraps _ ?_ ?_
  · have : (0 : Nat) ≤ 2 ^ b := Nat.zero_le _
    exact_mod_cast this
  · have : (2 : Nat) ^ b < 2 ^ 64 := Nat.pow_lt_pow_right (by decide) hb
    exact_mod_cast this
theorem mul_u64 {a b : Int} (ha0 : 0 ≤ a) (ha : a < 4294967296) (hb0 : 0 ≤ b) (hb : b < 4294967296) : 0 ≤ a * b ∧ a * b < 18446744073709551616 := by
  refine ⟨Int.mul_nonneg ha0 hb0, ?_⟩
  have h1 : a * b ≤ 4294967295 * b := Int.mul_le_mul_of_nonneg_right (by omega) hb0
  omega
theorem root_one {a b n : Nat} (h1 : a * a ≤ n) (h2 : n < (a + 1) * (a + 1)) (h3 : b * b ≤ n) (h4 : n < (b + 1) * (b + 1)) : a = b := by
  rcases Nat.lt_trichotomy a b with h | h | h
  · have : (a + 1) * (a + 1) ≤ b * b := Nat.mul_le_mul (by omega) (by omega)
    omega
  · exact h
  · have : (b + 1) * (b + 1) ≤ a * a := Nat.mul_le_mul (by omega) (by omega)
    omega
theorem bitLen_lt (x : Nat) (hx : x < 2 ^ 64) : x < 2 ^ Lib.bitLen x := by
  have key : ∀ (f y : Nat), y < 2 ^ f → y < 2 ^ Lib.bitLenAux f y := by
    intro f
    induction f with
    | zero => intro y hy; simpa [Lib.bitLenAux] using hy
    | succ f ih =>
      intro y hy
      simp only [Lib.bitLenAux]
      split
      · rename_i h; subst h; decide
      · have := ih (y / 2) (by rw [Nat.pow_succ] at hy; omega)
        rw [Nat.add_comm, Nat.pow_succ]
        omega
  exact key 64 x hx
theorem bitLen_le (x : Nat) : Lib.bitLen x ≤ 64 := by
  have key : ∀ (f y : Nat), Lib.bitLenAux f y ≤ f := by
    intro f
    induction f with
    | zero => intro y; simp [Lib.bitLenAux]
    | succ f ih =>
      intro y
      simp only [Lib.bitLenAux]
      split
      · omega
      · have := ih (y / 2); omega
  exact key 64 x
theorem mul64_small (a b : Int) (ha0 : 0 ≤ a) (ha : a < 4294967296) (hb0 : 0 ≤ b) (hb : b < 4294967296) : bits_Mul64 a b = some (0, a * b) := by
  obtain ⟨hp0, hp1⟩ := mul_u64 ha0 ha hb0 hb
  have m : ∀ x : Int, 0 ≤ x → x < 18446744073709551616 → iand .u64 x 4294967295 = x % 4294967296 := fun x h0 h1 => and_low .u64 (.inr rfl) 32 (by decide) x
  have s : ∀ x : Int, 0 ≤ x → ishr .u64 x 32 = x / 4294967296 := fun x h0 => by
    show x.fdiv (2 ^ min (32 : Int).toNat IntKind.u64.bits) = _
    rw [show (2 : Int) ^ min (32 : Int).toNat IntKind.u64.bits = 4294967296 from rfl, Int.fdiv_eq_ediv_of_nonneg _ (by decide)]
  have da : a / 4294967296 = 0 := by omega
  have db : b / 4294967296 = 0 := by omega
  have ma : iand .u64 a 4294967295 = a := by rw [m a ha0 (by omega)]; omega
  have mb : iand .u64 b 4294967295 = b := by rw [m b hb0 (by omega)]; omega
  have sa : ishr .u64 a 32 = 0 := by rw [s a ha0]; exact da
  have sb : ishr .u64 b 32 = 0 := by rw [s b hb0]; exact db
  unfold bits_Mul64
  rw [ma, mb, sa, sb, Option.bind_some, u64w hp0 hp1, Option.bind_some]
  have e2 : IntKind.u64.wrap (IntKind.u64.wrap (0 * b) + ishr .u64 (a * b) 32) = a * b / 4294967296 := by
    rw [s _ hp0, Int.zero_mul, u64w (n := 0) (by decide) (by decide), u64w (n := 0 + a * b / 4294967296) (by omega) (by omega)]; omega
  have q0 : 0 ≤ a * b / 4294967296 ∧ a * b / 4294967296 < 4294967296 := by omega
  have e3 : IntKind.u64.wrap (iand .u64 (a * b / 4294967296) 4294967295 + IntKind.u64.wrap (a * 0)) = a * b / 4294967296 := by
    rw [m _ q0.1 (by omega), Int.mul_zero, u64w (n := 0) (by decide) (by decide), Int.add_zero, u64w (by omega) (by omega)]; omega
  have e4 : a * b / 4294967296 / 4294967296 = 0 := by omega
  rw [e2, Option.bind_some, e3, Option.bind_some, s _ q0.1, e4]
  rfl
theorem root_loop (n : Nat) (b : Nat) : ∀ (k r : Nat), b < k → r % 2 ^ b = 0 → r * r ≤ n → n < (r + 2 ^ b) * (r + 2 ^ b) → r + 2 ^ b ≤ 4294967296 →
    ∃ q : Nat, curve_Root.L1 (n : Int) k (r : Int) (b : Int) = some (q : Int) ∧ q * q ≤ n ∧ n < (q + 1) * (q + 1) ∧ q < 4294967296 := by
  induction b with
  | zero =>
    intro k r hk _ h1 h2 h3
    obtain ⟨k, rfl⟩ : ∃ m, k = m + 1 := ⟨k - 1, by omega⟩
    refine ⟨r, ?_, h1, by simpa using h2, by omega⟩
    rw [curve_Root.L1, if_neg (by decide)]
  | succ b ih =>
    intro k r hk hm h1 h2 h3
    obtain ⟨k, rfl⟩ : ∃ m, k = m + 1 := ⟨k - 1, by omega⟩
    have hb : b < 32 := by
      rcases Nat.lt_or_ge b 32 with h | h
      · exact h
      · have : 2 ^ 33 ≤ 2 ^ (b + 1) := Nat.pow_le_pow_right (by decide) (by omega)
        omega
    have hpow : 2 ^ (b + 1) = 2 ^ b * 2 := Nat.pow_succ 2 b
    have hpos : 0 < 2 ^ b := Nat.two_pow_pos b
    have hup : r + 2 ^ b < 4294967296 := by omega
    have e0 : IntKind.u64.wrap (((b + 1 : Nat) : Int) - 1) = (b : Int) := by rw [u64w] <;> omega
    have e1 : ior .u64 (r : Int) (2 ^ b) = ((r + 2 ^ b : Nat) : Int) := by
      rw [ior_pow b (r : Int) (by omega) (by omega) (by exact_mod_cast hm) (by omega)]
      simp
    have step : ∀ q : Bool, curve_Root.J3 (r : Int) ((b + 1 : Nat) : Int) ((r + 2 ^ b : Nat) : Int) (curve_Root.L1 (n : Int) k) q = curve_Root.L1 (n : Int) k (((if q = true then r + 2 ^ b else r : Nat) : Int)) (b : Int) := by
      intro q
      unfold curve_Root.J3 curve_Root.J2
      rw [e0]
      cases q <;> rfl
    rw [curve_Root.L1, if_pos (by omega), e0, chk_ok _ (by omega), ishl_one b (by omega), e1, Option.bind_some, mul64_small _ _ (by omega) (by omega) (by omega) (by omega), Option.bind_some, if_pos rfl, step]
    have hmod : (r + 2 ^ b) % 2 ^ b = 0 := by
      have : r % 2 ^ b = 0 := by
        have h := Nat.mod_mod_of_dvd r (show 2 ^ b ∣ 2 ^ (b + 1) from ⟨2, hpow⟩)
        rw [← h, hm]; simp
      simp [this]
    have hmod' : r % 2 ^ b = 0 := by simpa using hmod
    by_cases hle : ((r + 2 ^ b : Nat) : Int) * ((r + 2 ^ b : Nat) : Int) ≤ (n : Int)
    · rw [if_pos (decide_eq_true hle)]
      exact ih k (r + 2 ^ b) (by omega) hmod (by exact_mod_cast hle) (by rw [show r + 2 ^ b + 2 ^ b = r + 2 ^ (b + 1) by omega]; exact h2) (by omega)
    · rw [if_neg (fun e => hle (of_decide_eq_true e))]
      refine ih k r (by omega) hmod' h1 ?_ (by omega)
      have : ¬ (r + 2 ^ b) * (r + 2 ^ b) ≤ n := fun h => hle (by exact_mod_cast h)
      omega
theorem root_is (n : Nat) (hn : n < 18446744073709551616) (k : Nat) (hk : 40 ≤ k) :
    ∃ q : Nat, curve_Root k (n : Int) = some (q : Int) ∧ q * q ≤ n ∧ n < (q + 1) * (q + 1) ∧ q < 4294967296 := by
  have hL := bitLen_le n
  have hlt := bitLen_lt n (by simpa using hn)
  unfold curve_Root bits_Len64
  rw [if_pos (by omega), Option.bind_some, Int.toNat_natCast, W_in (by omega), u64w (n := (Lib.bitLen n : Int) + 1) (by omega) (by omega)]
  have e : IntKind.u64.wrap (Int.tdiv ((Lib.bitLen n : Int) + 1) 2) = (((Lib.bitLen n + 1) / 2 : Nat) : Int) := by
    rw [Int.tdiv_eq_ediv_of_nonneg (by omega), u64w] <;> omega
  rw [e, Option.bind_some]
  have h32 : 2 ^ ((Lib.bitLen n + 1) / 2) ≤ 2 ^ 32 := Nat.pow_le_pow_right (by decide) (by omega)
  refine root_loop n _ k 0 (by omega) (Nat.zero_mod _) (by omega) ?_ (by omega)
  rw [Nat.zero_add, ← Nat.pow_add]
  exact Nat.lt_of_lt_of_le hlt (Nat.pow_le_pow_right (by decide) (by omega))
theorem inverseR_is (n : Nat) (h0 : n ≠ 0) (k : Nat) (hk : 40 ≤ k) :
    ∃ q : Nat, curve_Inverse k (n : Int) = some (q : Int) ∧ q * q ≤ 281474976710656 / n ∧ 281474976710656 / n < (q + 1) * (q + 1) ∧ q < 4294967296 := by
  have hd : 281474976710656 / n ≤ 281474976710656 := Nat.div_le_self _ _
  obtain ⟨q, hq, h⟩ := root_is (281474976710656 / n) (by omega) k hk
  refine ⟨q, ?_, h⟩
  unfold curve_Inverse
  rw [if_neg (by omega), chk_ok _ (by omega), Int.tdiv_eq_ediv_of_nonneg (by decide)]
  have e : (281474976710656 : Int) / (n : Int) = ((281474976710656 / n : Nat) : Int) := by simp
  rw [e, u64w (by omega) (by omega), hq]
  rfl
end Go.Proofs.YtbfiagimgokccaaGreat

namespace Go.Proofs.YtbfiagimgokccaaGreat
open Go Go.Hp
set_option linter.unusedVariables false
theorem above_is (a n m : Nat) (ha : a < 4294967296) (hn : n < 18446744073709551616) (h0 : n ≠ 0) (hm : m < 18446744073709551616) :
    ref02_above (a : Int) (n : Int) (m : Int) = some (decide (m < a * a * n)) := by
  unfold ref02_above
  by_cases ha0 : a = 0
  · subst ha0
    rw [if_pos (by rfl)]
    simp
  · rw [if_neg (by omega), if_neg (by omega), chk_ok _ (by omega), chk_ok _ (by omega), Int.tdiv_eq_ediv_of_nonneg (a := (m : Int)) (by omega)]
    have h1 : m / n / a < a ↔ m / n < a * a := Nat.div_lt_iff_lt_mul (by omega)
    have h2 : m / n < a * a ↔ m < a * a * n := Nat.div_lt_iff_lt_mul (by omega)
    have hd : m / n ≤ m := Nat.div_le_self _ _
    have hd2 : m / n / a ≤ m / n := Nat.div_le_self _ _
    have e : (m : Int) / (n : Int) = ((m / n : Nat) : Int) := by simp
    have e2 : ((m / n : Nat) : Int) / (a : Int) = ((m / n / a : Nat) : Int) := by simp
    rw [e]
    have h3 := h1.trans h2
    clear h1 h2 e
    generalize m / n / a = y at *
    generalize m / n = x at *
    rw [u64w (n := (x : Int)) (by omega) (by omega), Int.tdiv_eq_ediv_of_nonneg (by omega), e2, u64w (by omega) (by omega)]
    congr 1
    rw [decide_eq_decide, ← h3]
    omega
theorem greatest_loop (n m : Nat) (hn : n < 18446744073709551616) (h0 : n ≠ 0) (hm : m < 18446744073709551616) (d : Nat) : ∀ (k a b : Nat), d < k → a < b → b ≤ 4294967296 → b - a ≤ 2 ^ d → a * a * n ≤ m → m < b * b * n →
    ∃ q : Nat, ref02_greatest.L1 (n : Int) (m : Int) k (a : Int) (b : Int) = some (q : Int) ∧ q * q * n ≤ m ∧ m < (q + 1) * (q + 1) * n := by
  induction d with
  | zero =>
    intro k a b hk hab hb hd h1 h2
    obtain ⟨k, rfl⟩ : ∃ m, k = m + 1 := ⟨k - 1, by omega⟩
    have e : b = a + 1 := by simp at hd; omega
    subst e
    refine ⟨a, ?_, h1, h2⟩
    rw [ref02_greatest.L1, if_neg (by rw [u64w] <;> omega)]
  | succ d ih =>
    intro k a b hk hab hb hd h1 h2
    obtain ⟨k, rfl⟩ : ∃ m, k = m + 1 := ⟨k - 1, by omega⟩
    have hpow : 2 ^ (d + 1) = 2 ^ d * 2 := Nat.pow_succ 2 d
    have hpos : 0 < 2 ^ d := Nat.two_pow_pos d
    rw [ref02_greatest.L1]
    by_cases hs : b - a ≤ 1
    · have e : b = a + 1 := by omega
      subst e
      refine ⟨a, ?_, h1, h2⟩
      rw [if_neg (by rw [u64w] <;> omega)]
    · rw [if_pos (by rw [u64w] <;> omega)]
      have e : IntKind.u64.wrap (Int.tdiv (IntKind.u64.wrap ((a : Int) + (b : Int))) 2) = (((a + b) / 2 : Nat) : Int) := by
        rw [u64w (n := (a : Int) + (b : Int)) (by omega) (by omega), Int.tdiv_eq_ediv_of_nonneg (by omega), u64w] <;> omega
      rw [e, Option.bind_some, above_is _ n m (by omega) hn h0 hm, Option.bind_some]
      by_cases hc : m < (a + b) / 2 * ((a + b) / 2) * n
      · rw [decide_eq_true hc, if_pos rfl]
        exact ih k a ((a + b) / 2) (by omega) (by omega) (by omega) (by omega) h1 hc
      · rw [decide_eq_false hc, if_neg (by decide)]
        exact ih k ((a + b) / 2) b (by omega) (by omega) (by omega) (by omega) (by omega) h2
theorem pinv_is {N : Nat} (hN : 100 ≤ N) (n : Int) (h0 : 0 ≤ n) (h1 : n < 18446744073709551616) : curve_Inverse N n = some (invS n) ∧ -9223372036854775808 ≤ invS n ∧ invS n ≤ 9223372036854775807 := by
  have hi := inverse_is (N := N) hN n
  obtain ⟨m, rfl⟩ := Int.eq_ofNat_of_zero_le h0
  by_cases hm : m = 0
  · subst hm
    have z : ∀ k, curve_Inverse k ((0 : Nat) : Int) = some 16777216 := fun k => by unfold curve_Inverse; exact if_pos rfl
    have z2 : ∀ k, ref02_Inverse k ((0 : Nat) : Int) = some 16777216 := fun k => by unfold ref02_Inverse; exact if_pos rfl
    rw [z2 N] at hi
    rw [z N, ← Option.some.inj hi]
    exact ⟨rfl, by decide⟩
  · obtain ⟨q, e, a1, a2, a3⟩ := inverseR_is m hm N (by omega)
    obtain ⟨p, ep, b1, b2⟩ : ∃ p : Nat, ref02_Inverse N (m : Int) = some (p : Int) ∧ p * p * m ≤ 281474976710656 ∧ 281474976710656 < (p + 1) * (p + 1) * m := by
      obtain ⟨p, e, b⟩ := greatest_loop m 281474976710656 (by omega) hm (by decide) 32 N 0 4294967296 (by omega) (by omega) (by omega) (by decide) (by omega) (by
        have : 4294967296 * 4294967296 * 1 ≤ 4294967296 * 4294967296 * m := Nat.mul_le_mul_left _ (by omega)
        omega)
      refine ⟨p, ?_, b⟩
      unfold ref02_Inverse ref02_greatest
      rw [if_neg (by omega)]
      show (ref02_greatest.L1 (m : Int) ((281474976710656 : Nat) : Int) N ((0 : Nat) : Int) ((4294967296 : Nat) : Int)).bind _ = _
      rw [e, Option.bind_some]
    have c1 : p * p ≤ 281474976710656 / m := (Nat.le_div_iff_mul_le (by omega)).2 b1
    have c2 : 281474976710656 / m < (p + 1) * (p + 1) := (Nat.div_lt_iff_lt_mul (by omega)).2 b2
    have hqp := root_one a1 a2 c1 c2
    rw [ep] at hi
    rw [e, ← Option.some.inj hi, hqp]
    refine ⟨rfl, ?_⟩
    omega
end Go.Proofs.YtbfiagimgokccaaGreat

namespace Go.Proofs.YtbfiagimgokccaaGreat
open Go Go.Hp
set_option linter.unusedVariables false
set_option linter.unusedSimpArgs false
set_option linter.unusedSectionVars false
theorem wu_range (x : Int) : 0 ≤ IntKind.u64.wrap x ∧ IntKind.u64.wrap x < 18446744073709551616 := by rw [IntKind.wrap_u64]; omega
theorem tame_is (y : Int) : norm_tame y = some (min (max (IntKind.i64.wrap y) (-8388608)) 8388607) := rfl
theorem square_is {N : Nat} (x : List Int) (h0 : 0 < x.length) (hl : x.length ≤ 200) (hN : 200 < N) : norm_square N x = some (IntKind.u64.wrap (Int.tdiv (sqS x x.length) (IntKind.u64.wrap ((x.length : Nat) : Int)))) := by
  unfold norm_square
  refine loop_c (fun m (s : Int) i => norm_square.L1 x m s i) (fun i => sqS x i) x.length _ (fun m i hi => ?_) (fun m => ?_) N (by omega)
  · show norm_square.L1 x (m + 1) _ (i : Int) = norm_square.L1 x m _ _
    rw [norm_square.L1, if_pos (by omega), idx_d x 0 hi, Option.bind_some, tame_is, Option.bind_some, Option.bind_some, Option.bind_some, W_succ i (by omega)]
    rfl
  · show norm_square.L1 x (m + 1) _ (x.length : Int) = _
    rw [norm_square.L1, if_neg (by omega), chk_ok _ (by rw [wu_in (by omega)]; omega), Option.bind_some]
theorem pnorm_is {N : Nat} (hN : 200 < N) (g x : List Int) (hg : g.length = x.length) (h0 : 0 < x.length) (hl : x.length ≤ 200) : norm_Norm N g x = some (normS g x, 0) := by
  have hr := wu_range (Int.tdiv (sqS x x.length) (IntKind.u64.wrap ((x.length : Nat) : Int)))
  obtain ⟨hv, _, _⟩ := pinv_is (N := N) (by omega) _ hr.1 hr.2
  unfold norm_Norm
  rw [if_neg (by omega), if_neg (by omega), if_neg (by omega), square_is x h0 hl hN, Option.bind_some, hv, Option.bind_some, chk_ok _ (by omega), Int.toNat_natCast]
  let f : Nat → Int := fun i => IntKind.i8.wrap (min (max (sh (IntKind.i64.wrap (IntKind.i64.wrap (min (max (IntKind.i64.wrap (x.getD i 0)) (-8388608)) 8388607 * IntKind.i64.wrap (invS (IntKind.u64.wrap (Int.tdiv (sqS x x.length) (IntKind.u64.wrap ((x.length : Nat) : Int)))))) * IntKind.i64.wrap (g.getD i 0))) 23) (-128)) 127)
  rw [fill_0 x.length f 0]
  refine loop_c (fun m (s : List Int) i => norm_Norm.L1 g x _ m s i) (fun i => tabl x.length fun k => if k < i then f k else 0) x.length _ (fun m i hi => ?_) (fun m => ?_) N (by omega)
  · show norm_Norm.L1 g x _ (m + 1) _ (i : Int) = norm_Norm.L1 g x _ m _ _
    rw [norm_Norm.L1, if_pos (by omega), idx_d x 0 hi, Option.bind_some, tame_is, Option.bind_some, idx_d g 0 (by omega), Option.bind_some, shift_is _ _ (W_range _), Option.bind_some, sat8_is, Option.bind_some, idx_t _ hi, Option.bind_some, W_succ i (by omega)]
    have e : min (max (sh (IntKind.i64.wrap (IntKind.i64.wrap (min (max (IntKind.i64.wrap (x.getD i 0)) (-8388608)) 8388607 * IntKind.i64.wrap (invS (IntKind.u64.wrap (Int.tdiv (sqS x x.length) (IntKind.u64.wrap ((x.length : Nat) : Int)))))) * IntKind.i64.wrap (g.getD i 0))) (min (max (23 : Int) 0) 62).toNat) (-128)) 127 = f i := by
      show _ = IntKind.i8.wrap (min (max (sh (IntKind.i64.wrap (IntKind.i64.wrap (min (max (IntKind.i64.wrap (x.getD i 0)) (-8388608)) 8388607 * IntKind.i64.wrap (invS (IntKind.u64.wrap (Int.tdiv (sqS x x.length) (IntKind.u64.wrap ((x.length : Nat) : Int)))))) * IntKind.i64.wrap (g.getD i 0))) 23) (-128)) 127)
      rw [w8_is, show (min (max (23 : Int) 0) 62).toNat = 23 from rfl]; omega
    rw [e, fill_step x.length f 0 i]
  · show norm_Norm.L1 g x _ (m + 1) _ (x.length : Int) = _
    rw [norm_Norm.L1, if_neg (by omega), fill_n]
    rfl
theorem clone8_is (x : List Int) (h : x.length ≤ 100000) : slices_Clone_s_int8_int8 x = some x := by
  unfold slices_Clone_s_int8_int8
  rw [app_ok _ _ (by simp; omega), Option.bind_some]; rfl
theorem gate_is {N : Nat} (u : List Int) (hl : u.length ≤ 300) (hN : 300 < N) : norm_Gate N u = some (reluS u) := by
  unfold norm_Gate
  rw [clone8_is u (by omega), Option.bind_some]
  let f : Nat → Int := fun i => if u.getD i 0 < 0 then 0 else u.getD i 0
  have h0 : u = tabl u.length fun k => if k < 0 then f k else u.getD k 0 := by
    conv => lhs; rw [tab_of u 0]
    exact tabl_congr fun j hj => (if_neg (by omega)).symm
  have e0 : norm_Gate.L1 u N u 0 = norm_Gate.L1 u N (tabl u.length fun k => if k < 0 then f k else u.getD k 0) 0 := congrArg (fun z => norm_Gate.L1 u N z 0) h0
  rw [e0]
  refine loop_c (fun m (s : List Int) i => norm_Gate.L1 u m s i) (fun i => tabl u.length fun k => if k < i then f k else u.getD k 0) u.length _ (fun m i hi => ?_) (fun m => ?_) N (by omega)
  · show norm_Gate.L1 u (m + 1) _ (i : Int) = norm_Gate.L1 u m _ _
    rw [norm_Gate.L1, if_pos (by omega), idx_t _ hi, Option.bind_some, Option.bind_some, W_succ i (by omega), if_neg (show ¬ i < i by omega), Int.toNat_natCast, tabl_set]
    congr 1
    refine tabl_congr fun p hp => ?_
    by_cases e : p = i
    · subst e; rw [if_pos rfl, if_pos (by omega)]
      show _ = if u.getD p 0 < 0 then 0 else u.getD p 0
      split <;> omega
    · rw [if_neg e]
      by_cases e2 : p < i
      · rw [if_pos e2, if_pos (by omega)]
      · rw [if_neg e2, if_neg (by omega)]
  · show norm_Gate.L1 u (m + 1) _ (u.length : Int) = _
    rw [norm_Gate.L1, if_neg (by omega)]
    exact congrArg some (tabl_congr fun j hj => if_pos hj)
end Go.Proofs.YtbfiagimgokccaaGreat
end
section
namespace Go.Proofs.YtbfiagimgokccaaGreat
open Go Go.Hp
set_option linter.unusedVariables false
set_option linter.unusedSimpArgs false
set_option linter.unusedSectionVars false
theorem tmodN (a b : Nat) : Int.tmod (a : Int) (b : Int) = ((a % b : Nat) : Int) := by rw [Int.tmod_eq_emod_of_nonneg (by omega)]; simp
theorem tdivN (a b : Nat) : Int.tdiv (a : Int) (b : Int) = ((a / b : Nat) : Int) := by rw [Int.tdiv_eq_ediv_of_nonneg (by omega)]; simp
theorem mulN (a b : Nat) (h : a * b ≤ 4611686018427387904) : IntKind.i64.wrap ((a : Int) * (b : Int)) = ((a * b : Nat) : Int) := by
  rw [show (a : Int) * (b : Int) = ((a * b : Nat) : Int) by simp, W_in (by omega)]
theorem W_nat (k : Nat) (h : k ≤ 4611686018427387904) : IntKind.i64.wrap (k : Int) = (k : Int) := W_in (by omega)
structure Cu where
  st : Nat
  pa : Nat
structure COK (d : Dim) (c : Cu) : Prop where
  st : 0 < c.st ∧ c.st ≤ d.ly
  pa : 0 < c.pa ∧ c.pa ≤ d.h
  h : d.h % c.pa = 0
  inn : d.inn % c.pa = 0
def cutS (c : Cu) : S_api_Cut := ⟨(c.st : Int), (c.pa : Int)⟩
def sp (i n m : Nat) : Nat := i * n / m
theorem sp_le (i n m : Nat) : sp i n m ≤ sp (i + 1) n m := Nat.div_le_div_right (Nat.mul_le_mul_right n (by omega))
theorem sp_in (i n m : Nat) (hm : 0 < m) (hi : i ≤ m) : sp i n m ≤ n := by
  have h : i * n ≤ m * n := Nat.mul_le_mul_right n hi
  exact Nat.le_trans (Nat.div_le_div_right h) (by rw [Nat.mul_comm, Nat.mul_div_cancel _ hm]; exact Nat.le_refl _)
theorem sp_even (i n m : Nat) (hm : 0 < m) (h : n % m = 0) : sp i n m = i * (n / m) := by
  obtain ⟨q, hq⟩ := Nat.dvd_of_mod_eq_zero h
  subst hq
  unfold sp
  rw [Nat.mul_div_cancel_left _ hm, Nat.mul_left_comm, Nat.mul_div_cancel_left _ hm]
theorem span_is (i n m : Nat) (hm : 0 < m) (hi : i ≤ 1000) (hn : n ≤ 1000) : ref10_Span (i : Int) (n : Int) (m : Int) = some ⟨((sp i n m : Nat) : Int), ((sp (i + 1) n m : Nat) : Int)⟩ := by
  have h1 : i * n ≤ 1000 * 1000 := Nat.mul_le_mul hi hn
  have h2 : (i + 1) * n ≤ 1001 * 1000 := Nat.mul_le_mul (by omega) hn
  have h3 : i * n / m ≤ i * n := Nat.div_le_self _ _
  have h4 : (i + 1) * n / m ≤ (i + 1) * n := Nat.div_le_self _ _
  unfold ref10_Span sp
  rw [chk_ok _ (by omega), chk_ok _ (by omega), mulN i n (by omega), W_succ i (by omega), mulN (i + 1) n (by omega), tdivN, tdivN, W_nat _ (Nat.le_trans h3 (Nat.le_trans h1 (by decide))), W_nat _ (Nat.le_trans h4 (Nat.le_trans h2 (by decide)))]
theorem pspan_is (i n m : Nat) (him : i < m) (hi : i ≤ 1000) (hn : n ≤ 1000) : slice_span true (i : Int) (n : Int) (m : Int) = some (⟨((sp i n m : Nat) : Int), ((sp (i + 1) n m : Nat) : Int)⟩, 0) := by
  have h1 : i * n ≤ 1000 * 1000 := Nat.mul_le_mul hi hn
  have h2 : (i + 1) * n ≤ 1001 * 1000 := Nat.mul_le_mul (by omega) hn
  have h3 : i * n / m ≤ i * n := Nat.div_le_self _ _
  have h4 : (i + 1) * n / m ≤ (i + 1) * n := Nat.div_le_self _ _
  unfold slice_span sp
  rw [if_pos rfl, if_neg (by omega), if_neg (by omega), chk_ok _ (by omega), chk_ok _ (by omega), mulN i n (by omega), W_succ i (by omega), mulN (i + 1) n (by omega), tdivN, tdivN, W_nat _ (Nat.le_trans h3 (Nat.le_trans h1 (by decide))), W_nat _ (Nat.le_trans h4 (Nat.le_trans h2 (by decide)))]
def partM (m : S_api_Mat) (cols r0 r1 c0 c1 : Nat) : S_api_Mat := ⟨((r1 - r0 : Nat) : Int), ((c1 - c0 : Nat) : Int), tabl ((r1 - r0) * (c1 - c0)) fun k => m.V.getD ((r0 + k / (c1 - c0)) * cols + (c0 + k % (c1 - c0))) 0⟩
theorem partM_R (m : S_api_Mat) (cols r0 r1 c0 c1 : Nat) : matR (partM m cols r0 r1 c0 c1) (r1 - r0) (c1 - c0) := ⟨rfl, rfl, tabl_len _ _⟩
theorem divmod_at (i w j : Nat) (hj : j < w) : (i * w + j) / w = i ∧ (i * w + j) % w = j := by
  rw [Nat.mul_comm i w]
  exact ⟨by rw [Nat.mul_add_div (by omega), Nat.div_eq_of_lt hj, Nat.add_zero], by rw [Nat.mul_add_mod, Nat.mod_eq_of_lt hj]⟩
theorem part_row (m : S_api_Mat) (cols r0 r1 c0 c1 i j : Nat) (hi : i < r1 - r0) (hj : j < c1 - c0) : (partM m cols r0 r1 c0 c1).V.getD (i * (c1 - c0) + j) 0 = m.V.getD ((r0 + i) * cols + (c0 + j)) 0 := by
  have h : (i + 1) * (c1 - c0) ≤ (r1 - r0) * (c1 - c0) := Nat.mul_le_mul_right _ (by omega)
  have h2 : (i + 1) * (c1 - c0) = i * (c1 - c0) + (c1 - c0) := Nat.succ_mul _ _
  obtain ⟨e1, e2⟩ := divmod_at i (c1 - c0) j hj
  unfold partM
  dsimp only
  rw [tabl_getD _ _ _ _ (by omega), e1, e2]
theorem partOf_is {N : Nat} (hN : 300 < N) {m : S_api_Mat} {rows cols : Nat} (h : matR m rows cols) (hr : rows ≤ 200) (hc : cols ≤ 200) (r0 r1 c0 c1 : Nat) (h1 : r0 ≤ r1) (h2 : r1 ≤ rows) (h3 : c0 ≤ c1) (h4 : c1 ≤ cols) (h5 : c0 < c1) :
    ref04_Part N m (r0 : Int) (r1 : Int) (c0 : Int) (c1 : Int) = some (partM m cols r0 r1 c0 c1) := by
  have hrc : rows * cols ≤ 40000 := Nat.le_trans (Nat.mul_le_mul hr hc) (by decide)
  unfold ref04_Part
  let f : Nat → Int := fun k => m.V.getD ((r0 + k / (c1 - c0)) * cols + (c0 + k % (c1 - c0))) 0
  obtain ⟨m', s', hs, e⟩ := loop_to (fun q (s : List Int) i => ref04_Part.L1 N m (r0 : Int) (r1 : Int) (c0 : Int) (c1 : Int) q s i) (fun i => ((r0 + i : Nat) : Int)) (r1 - r0) (fun i s => s = tabl (i * (c1 - c0)) f) (fun q i s hi hs => by
    subst hs
    have hb : (r0 + i + 1) * cols ≤ rows * cols := Nat.mul_le_mul_right _ (by omega)
    have hb2 : (r0 + i + 1) * cols = (r0 + i) * cols + cols := Nat.succ_mul _ _
    have hi1 : (i + 1) * (c1 - c0) = i * (c1 - c0) + (c1 - c0) := Nat.succ_mul _ _
    have hi2 : (i + 1) * (c1 - c0) ≤ 200 * 200 := Nat.mul_le_mul (by omega) (by omega)
    refine ⟨tabl ((i + 1) * (c1 - c0)) f, rfl, ?_⟩
    show ref04_Part.L1 N m (r0 : Int) (r1 : Int) (c0 : Int) (c1 : Int) (q + 1) _ ((r0 + i : Nat) : Int) = _
    rw [ref04_Part.L1, if_pos (by omega)]
    obtain ⟨m2, s2, hs2, e2⟩ := loop_to (fun t (s : List Int) j => ref04_Part.L2 m (c1 : Int) ((r0 + i : Nat) : Int) (ref04_Part.L1 N m (r0 : Int) (r1 : Int) (c0 : Int) (c1 : Int) q) t s j) (fun j => ((c0 + j : Nat) : Int)) (c1 - c0) (fun j s => s = tabl (i * (c1 - c0) + j) f) (fun t j s hj hs => by
      subst hs
      obtain ⟨e1, e2⟩ := divmod_at i (c1 - c0) j hj
      refine ⟨tabl (i * (c1 - c0) + (j + 1)) f, rfl, ?_⟩
      show ref04_Part.L2 m (c1 : Int) ((r0 + i : Nat) : Int) _ (t + 1) _ ((c0 + j : Nat) : Int) = _
      have ew : IntKind.i64.wrap (IntKind.i64.wrap (((r0 + i : Nat) : Int) * m.Cols) + ((c0 + j : Nat) : Int)) = (((r0 + i) * cols + (c0 + j) : Nat) : Int) := by
        rw [h.2.1, mulN _ _ (by omega), W_in (by omega)]; omega
      rw [ref04_Part.L2, if_pos (by omega), ew, idx_d m.V 0 (by rw [h.2.2]; omega), Option.bind_some, app_ok _ _ (by rw [tabl_len]; simp only [List.length_cons, List.length_nil]; omega), Option.bind_some, W_succ _ (by omega), ← Nat.add_assoc (i * (c1 - c0)) j 1, tabl_succ]
      have ef : f (i * (c1 - c0) + j) = m.V.getD ((r0 + i) * cols + (c0 + j)) 0 := by
        show m.V.getD ((r0 + (i * (c1 - c0) + j) / (c1 - c0)) * cols + (c0 + (i * (c1 - c0) + j) % (c1 - c0))) 0 = _
        rw [e1, e2]
      rw [ef]
      rfl) N (tabl (i * (c1 - c0)) f) (by omega) rfl
    refine Eq.trans e2 ?_
    show ref04_Part.L2 m (c1 : Int) ((r0 + i : Nat) : Int) _ (m2 + 1) s2 ((c0 + (c1 - c0) : Nat) : Int) = _
    rw [ref04_Part.L2, if_neg (by omega), W_succ _ (by omega), hs2, ← hi1]
    rfl) N [] (by omega) (by rw [Nat.zero_mul]; rfl)
  rw [show ((r0 : Nat) : Int) = ((r0 + 0 : Nat) : Int) by omega]
  refine Eq.trans e ?_
  show ref04_Part.L1 N m (r0 : Int) (r1 : Int) (c0 : Int) (c1 : Int) (m' + 1) s' ((r0 + (r1 - r0) : Nat) : Int) = _
  rw [ref04_Part.L1, if_neg (by omega), hs, W_in (by omega), W_in (by omega)]
  unfold partM
  congr 2
  · omega
  · omega
section
variable {d : Dim} (hd : DOK d)
include hd
theorem cut_is {N : Nat} (hN : 200 < N) (a b : Int) : ∃ c : Cu, COK d c ∧ ref10_Cut N (shapeS d) a b = some (cutS c) := by
  have hh := hd.h; have hly := hd.ly; have hi := hd.inn
  have key : ∀ (q m i : Nat) (l : List Int), i + q = d.h + 1 → q < m → 0 < i → (∀ v ∈ l, ∃ n : Nat, v = (n : Int) ∧ 0 < n ∧ n ≤ d.h ∧ d.h % n = 0 ∧ d.inn % n = 0) → l.length < i → (1 < i → l ≠ []) → ∃ c, COK d c ∧ ref10_Cut.L1 (shapeS d) a b m l (i : Int) = some (cutS c) := by
    intro q
    induction q with
    | zero =>
      intro m i l hi hm h0 hl hll hne
      obtain ⟨m, rfl⟩ : ∃ q, m = q + 1 := ⟨m - 1, by omega⟩
      have hpos : 0 < l.length := List.length_pos_iff.2 (hne (by omega))
      obtain ⟨k, hk, ek⟩ := W_restN b l.length hpos (by omega)
      obtain ⟨j, hj, ej⟩ := W_restN a d.ly (by omega) (by omega)
      obtain ⟨n, en, n0, n1, n2, n3⟩ := hl _ (List.getElem_mem hk)
      refine ⟨⟨j + 1, n⟩, ⟨⟨by dsimp only; omega, by dsimp only; omega⟩, ⟨n0, n1⟩, n2, n3⟩, ?_⟩
      rw [ref10_Cut.L1]
      show (if (i : Int) ≤ (d.h : Int) then _ else chk ((d.ly : Int) ≠ 0) (chk ((d.ly : Int) ≠ 0) (chk (((l.length : Nat) : Int) ≠ 0) (chk (((l.length : Nat) : Int) ≠ 0) ((idx l (Int.tmod (IntKind.i64.wrap ((Int.tmod b ((l.length : Nat) : Int)) + ((l.length : Nat) : Int))) ((l.length : Nat) : Int))).bind fun y20 => some (⟨(IntKind.i64.wrap (1 + (Int.tmod (IntKind.i64.wrap ((Int.tmod a (d.ly : Int)) + (d.ly : Int))) (d.ly : Int)))), y20⟩ : S_api_Cut)))))) = _
      rw [if_neg (by omega), chk_ok _ (by omega), chk_ok _ (by omega), chk_ok _ (by omega), chk_ok _ (by omega), ek, ej, idx_get l k hk, Option.bind_some, W_in (by omega), en]
      unfold cutS
      congr 2
      show 1 + (j : Int) = ((j + 1 : Nat) : Int)
      omega
    | succ q ih =>
      intro m i l hi hm h0 hl hll hne
      obtain ⟨m, rfl⟩ : ∃ q, m = q + 1 := ⟨m - 1, by omega⟩
      have j3 : ∀ z : Bool, (z = true → d.h % i = 0 ∧ d.inn % i = 0) → (i = 1 → z = true) → ∃ c, COK d c ∧ ref10_Cut.J3 l (i : Int) (ref10_Cut.L1 (shapeS d) a b m) z = some (cutS c) := by
        intro z hz h1
        unfold ref10_Cut.J3 ref10_Cut.J2
        cases z with
        | true =>
          obtain ⟨z1, z2⟩ := hz rfl
          rw [if_pos rfl, app_ok _ _ (by simp only [List.length_cons, List.length_nil]; omega), Option.bind_some, W_succ i (by omega)]
          refine ih m (i + 1) _ (by omega) (by omega) (by omega) (fun v hv => ?_) (by simp; omega) (fun _ => by simp)
          rcases List.mem_append.1 hv with h | h
          · exact hl v h
          · rw [List.mem_singleton] at h
            exact ⟨i, h, by omega, by omega, z1, z2⟩
        | false =>
          rw [if_neg (by decide), W_succ i (by omega)]
          refine ih m (i + 1) l (by omega) (by omega) (by omega) hl (by omega) (fun h => hne (by
            rcases Nat.lt_or_ge 1 i with h2 | h2
            · exact h2
            · have : i = 1 := by omega
              have := h1 this
              cases this))
      rw [ref10_Cut.L1]
      show ∃ c, COK d c ∧ (if (i : Int) ≤ (d.h : Int) then chk ((i : Int) ≠ 0) (if Int.tmod (d.h : Int) (i : Int) = 0 then chk ((i : Int) ≠ 0) (ref10_Cut.J3 l (i : Int) (ref10_Cut.L1 (shapeS d) a b m) (decide (Int.tmod (d.inn : Int) (i : Int) = 0))) else ref10_Cut.J3 l (i : Int) (ref10_Cut.L1 (shapeS d) a b m) false) else _) = some (cutS c)
      rw [if_pos (by omega), chk_ok _ (by omega), tmodN, tmodN]
      by_cases c1 : ((d.h % i : Nat) : Int) = 0
      · rw [if_pos c1, chk_ok _ (by omega)]
        refine j3 _ (fun e => ⟨by omega, by have := of_decide_eq_true e; omega⟩) (fun e => ?_)
        subst e
        rw [Nat.mod_one]; rfl
      · rw [if_neg c1]
        refine j3 false (fun e => by cases e) (fun e => ?_)
        subst e
        rw [Nat.mod_one] at c1
        exact absurd rfl c1
  exact key d.h N 1 [] (by omega) (by omega) (by omega) (by simp) (by simp) (fun h => by omega)
end
end Go.Proofs.YtbfiagimgokccaaGreat
end
section
namespace Go.Proofs.YtbfiagimgokccaaGreat
open Go Go.Hp
set_option linter.unusedVariables false
set_option linter.unusedSimpArgs false
set_option linter.unusedSectionVars false
def hb (d : Dim) (c : Cu) (p : Nat) : Nat := sp p d.h c.pa * d.wd
def nb (d : Dim) (c : Cu) (p : Nat) : Nat := sp p d.inn c.pa
def lb (d : Dim) (c : Cu) (s : Nat) : Nat := sp s d.ly c.st
def blkS (d : Dim) (c : Cu) (p : Nat) (b : S_api_Block) : S_api_Block :=
  ⟨b.First, b.Second, partM b.Q d.w (hb d c p) (hb d c (p + 1)) 0 d.w, partM b.K d.w (hb d c p) (hb d c (p + 1)) 0 d.w, partM b.V d.w (hb d c p) (hb d c (p + 1)) 0 d.w, partM b.O d.w 0 d.w (hb d c p) (hb d c (p + 1)), partM b.Up d.w (nb d c p) (nb d c (p + 1)) 0 d.w, partM b.Down d.inn 0 d.w (nb d c p) (nb d c (p + 1))⟩
def zM : S_api_Mat := ⟨0, 0, []⟩
def takeS (d : Dim) (w : S_api_Weights) (c : Cu) (s p : Nat) : S_api_Shard :=
  ⟨shapeS d, cutS c, (s : Int), (p : Int), if s = 0 then w.Embed else zM, tabl (lb d c (s + 1) - lb d c s) (fun i => blkS d c p (w.Blocks.getD (lb d c s + i) zB)), if s + 1 = c.st then w.Last else [], if s + 1 = c.st then w.Head else zM⟩
def hpa (d : Dim) (c : Cu) : Nat := d.h / c.pa
def ipa (d : Dim) (c : Cu) : Nat := d.inn / c.pa
section
variable {d : Dim} (hd : DOK d) {c : Cu} (hc : COK d c)
include hd hc
theorem hb_is (p : Nat) : hb d c p = p * (hpa d c * d.wd) := by
  unfold hb hpa; rw [sp_even p d.h c.pa hc.pa.1 hc.h, Nat.mul_assoc]
theorem nb_is (p : Nat) : nb d c p = p * ipa d c := sp_even p d.inn c.pa hc.pa.1 hc.inn
theorem hpa_pos : 0 < hpa d c ∧ c.pa * hpa d c = d.h := by
  have := Nat.mul_div_cancel' (Nat.dvd_of_mod_eq_zero hc.h)
  have h0 := hd.h.1
  refine ⟨?_, this⟩
  rcases Nat.eq_zero_or_pos (hpa d c) with h | h
  · unfold hpa at h; rw [h] at this; omega
  · exact h
theorem ipa_pos : 0 < ipa d c ∧ c.pa * ipa d c = d.inn := by
  have := Nat.mul_div_cancel' (Nat.dvd_of_mod_eq_zero hc.inn)
  have h0 := hd.inn.1
  refine ⟨?_, this⟩
  rcases Nat.eq_zero_or_pos (ipa d c) with h | h
  · unfold ipa at h; rw [h] at this; omega
  · exact h
theorem hb_fit (p : Nat) (hp : p < c.pa) : hb d c p < hb d c (p + 1) ∧ hb d c (p + 1) ≤ d.w ∧ hb d c (p + 1) - hb d c p = hpa d c * d.wd := by
  obtain ⟨h0, h1⟩ := hpa_pos hd hc
  have hwd := hd.wd
  have hpos : 0 < hpa d c * d.wd := Nat.mul_pos h0 hwd.1
  have h2 : (p + 1) * (hpa d c * d.wd) = p * (hpa d c * d.wd) + hpa d c * d.wd := Nat.succ_mul _ _
  have h3 : (p + 1) * (hpa d c * d.wd) ≤ c.pa * (hpa d c * d.wd) := Nat.mul_le_mul_right _ (by omega)
  have h4 : c.pa * (hpa d c * d.wd) = d.w := by rw [← Nat.mul_assoc, h1]; rfl
  rw [hb_is hd hc, hb_is hd hc]
  omega
theorem nb_fit (p : Nat) (hp : p < c.pa) : nb d c p < nb d c (p + 1) ∧ nb d c (p + 1) ≤ d.inn ∧ nb d c (p + 1) - nb d c p = ipa d c := by
  obtain ⟨h0, h1⟩ := ipa_pos hd hc
  have h2 : (p + 1) * ipa d c = p * ipa d c + ipa d c := Nat.succ_mul _ _
  have h3 : (p + 1) * ipa d c ≤ c.pa * ipa d c := Nat.mul_le_mul_right _ (by omega)
  rw [nb_is hd hc, nb_is hd hc]
  omega
theorem lb_fit (s : Nat) (hs : s < c.st) : lb d c s ≤ lb d c (s + 1) ∧ lb d c (s + 1) ≤ d.ly := ⟨sp_le _ _ _, sp_in _ _ _ hc.st.1 (by omega)⟩
structure BP (d : Dim) (c : Cu) (b : S_api_Block) : Prop where
  first : b.First.length = d.w
  second : b.Second.length = d.w
  q : matR b.Q (hpa d c * d.wd) d.w
  k : matR b.K (hpa d c * d.wd) d.w
  v : matR b.V (hpa d c * d.wd) d.w
  o : matR b.O d.w (hpa d c * d.wd)
  up : matR b.Up (ipa d c) d.w
  down : matR b.Down d.w (ipa d c)
theorem blkS_ok (p : Nat) (hp : p < c.pa) {b : S_api_Block} (hb_ : BOK d b) : BP d c (blkS d c p b) := by
  obtain ⟨a1, a2, a3⟩ := hb_fit hd hc p hp
  obtain ⟨b1, b2, b3⟩ := nb_fit hd hc p hp
  have e0 : d.w - 0 = d.w := by omega
  refine ⟨hb_.first, hb_.second, ?_, ?_, ?_, ?_, ?_, ?_⟩
  · have := partM_R b.Q d.w (hb d c p) (hb d c (p + 1)) 0 d.w; rw [a3, e0] at this; exact this
  · have := partM_R b.K d.w (hb d c p) (hb d c (p + 1)) 0 d.w; rw [a3, e0] at this; exact this
  · have := partM_R b.V d.w (hb d c p) (hb d c (p + 1)) 0 d.w; rw [a3, e0] at this; exact this
  · have := partM_R b.O d.w 0 d.w (hb d c p) (hb d c (p + 1)); rw [a3, e0] at this; exact this
  · have := partM_R b.Up d.w (nb d c p) (nb d c (p + 1)) 0 d.w; rw [b3, e0] at this; exact this
  · have := partM_R b.Down d.inn 0 d.w (nb d c p) (nb d c (p + 1)); rw [b3, e0] at this; exact this
theorem take13_is {N : Nat} (hN : 300 < N) {w : S_api_Weights} (hw : WOK d w) (hsh : w.Shape = shapeS d) (s p : Nat) (hs : s < c.st) (hp : p < c.pa) : ref11_Take N w (cutS c) (s : Int) (p : Int) = some (takeS d w c s p) := by
  have hh := hd.h; have hly := hd.ly; have hi := hd.inn; have hww := dw16 hd; have hwd := hd.wd
  have hst := hc.st; have hpa := hc.pa
  have hdw : d.w = d.h * d.wd := rfl
  have hw0 : 0 < d.w := by rw [hdw]; exact Nat.mul_pos hh.1 hwd.1
  obtain ⟨a1, a2, a3⟩ := hb_fit hd hc p hp
  obtain ⟨b1, b2, b3⟩ := nb_fit hd hc p hp
  obtain ⟨l1, l2⟩ := lb_fit hd hc s hs
  have s1 := sp_in p d.h c.pa hpa.1 (by omega)
  have s2 := sp_in (p + 1) d.h c.pa hpa.1 (by omega)
  have m1 : sp p d.h c.pa * d.wd ≤ d.h * d.wd := Nat.mul_le_mul_right _ s1
  have m2 : sp (p + 1) d.h c.pa * d.wd ≤ d.h * d.wd := Nat.mul_le_mul_right _ s2
  have ewd : IntKind.i64.wrap (Int.tdiv w.Shape.Width w.Shape.Heads) = (d.wd : Int) := by
    rw [hw.width, hw.heads, hdw]
    have : ((d.h * d.wd : Nat) : Int) = (d.h : Int) * (d.wd : Int) := by simp
    rw [this, Int.mul_tdiv_cancel_left _ (by omega), W_in (by omega)]
  have e1 : ref10_Span (s : Int) w.Shape.Layers (cutS c).Stages = some ⟨((lb d c s : Nat) : Int), ((lb d c (s + 1) : Nat) : Int)⟩ := by rw [hw.layers]; exact span_is s d.ly c.st hst.1 (by omega) (by omega)
  have e2 : ref10_Span (p : Int) w.Shape.Heads (cutS c).Parts = some ⟨((sp p d.h c.pa : Nat) : Int), ((sp (p + 1) d.h c.pa : Nat) : Int)⟩ := by rw [hw.heads]; exact span_is p d.h c.pa hpa.1 (by omega) (by omega)
  have e3 : ref10_Span (p : Int) w.Shape.Inner (cutS c).Parts = some ⟨((nb d c p : Nat) : Int), ((nb d c (p + 1) : Nat) : Int)⟩ := by rw [hw.inner]; exact span_is p d.inn c.pa hpa.1 (by omega) (by omega)
  have loop : ∀ (er ec : Int) (ev : List Int), ref11_Take.J1 N w (cutS c) (s : Int) (p : Int) (d.wd : Int) ⟨((lb d c s : Nat) : Int), ((lb d c (s + 1) : Nat) : Int)⟩ ⟨((sp p d.h c.pa : Nat) : Int), ((sp (p + 1) d.h c.pa : Nat) : Int)⟩ ⟨((nb d c p : Nat) : Int), ((nb d c (p + 1) : Nat) : Int)⟩ er ec ev =
      some ⟨shapeS d, cutS c, (s : Int), (p : Int), ⟨er, ec, ev⟩, tabl (lb d c (s + 1) - lb d c s) (fun i => blkS d c p (w.Blocks.getD (lb d c s + i) zB)), if s + 1 = c.st then w.Last else [], if s + 1 = c.st then w.Head else zM⟩ := by
    intro er ec ev
    unfold ref11_Take.J1
    obtain ⟨m', s', hs', e⟩ := loop_to (fun m (z : List S_api_Block) i => ref11_Take.L2 N w (cutS c) (s : Int) (p : Int) (d.wd : Int) ⟨((lb d c s : Nat) : Int), ((lb d c (s + 1) : Nat) : Int)⟩ ⟨((sp p d.h c.pa : Nat) : Int), ((sp (p + 1) d.h c.pa : Nat) : Int)⟩ ⟨((nb d c p : Nat) : Int), ((nb d c (p + 1) : Nat) : Int)⟩ er ec ev m z i) (fun i => ((lb d c s + i : Nat) : Int)) (lb d c (s + 1) - lb d c s) (fun i z => z = tabl i fun i => blkS d c p (w.Blocks.getD (lb d c s + i) zB)) (fun m i z hi hz => by
      subst hz
      refine ⟨_, rfl, ?_⟩
      have hb_ : BOK d (w.Blocks.getD (lb d c s + i) zB) := hw.blocks _ (getD_in _ _ _ (by have := hw.blen; omega))
      have w0 : IntKind.i64.wrap (((sp p d.h c.pa : Nat) : Int) * (d.wd : Int)) = ((hb d c p : Nat) : Int) := mulN _ _ (by omega)
      have w1 : IntKind.i64.wrap (((sp (p + 1) d.h c.pa : Nat) : Int) * (d.wd : Int)) = ((hb d c (p + 1) : Nat) : Int) := mulN _ _ (by omega)
      have z0 : (0 : Int) = ((0 : Nat) : Int) := rfl
      have hW : w.Shape.Width = ((d.w : Nat) : Int) := hw.width
      have p1 := partOf_is hN hb_.q (by omega) (by omega) (hb d c p) (hb d c (p + 1)) 0 d.w (by omega) a2 (by omega) (Nat.le_refl _) hw0
      have p2 := partOf_is hN hb_.k (by omega) (by omega) (hb d c p) (hb d c (p + 1)) 0 d.w (by omega) a2 (by omega) (Nat.le_refl _) hw0
      have p3 := partOf_is hN hb_.v (by omega) (by omega) (hb d c p) (hb d c (p + 1)) 0 d.w (by omega) a2 (by omega) (Nat.le_refl _) hw0
      have p4 := partOf_is hN hb_.o (by omega) (by omega) 0 d.w (hb d c p) (hb d c (p + 1)) (by omega) (Nat.le_refl _) (by omega) a2 a1
      have p5 := partOf_is hN hb_.up (by omega) (by omega) (nb d c p) (nb d c (p + 1)) 0 d.w (by omega) b2 (by omega) (Nat.le_refl _) hw0
      have p6 := partOf_is hN hb_.down (by omega) (by omega) 0 d.w (nb d c p) (nb d c (p + 1)) (by omega) (Nat.le_refl _) (by omega) b2 b1
      show ref11_Take.L2 N w (cutS c) (s : Int) (p : Int) (d.wd : Int) _ _ _ er ec ev (m + 1) _ ((lb d c s + i : Nat) : Int) = _
      rw [ref11_Take.L2]
      dsimp only
      rw [if_pos (by omega), idx_d _ zB (by have := hw.blen; omega), Option.bind_some, w0, w1, hW, matR_eta, matR_eta, matR_eta, matR_eta, matR_eta, matR_eta]
      show (ref04_Part N _ _ _ ((0 : Nat) : Int) _).bind _ = _
      rw [p1, Option.bind_some]
      show (ref04_Part N _ _ _ ((0 : Nat) : Int) _).bind _ = _
      rw [p2, Option.bind_some]
      show (ref04_Part N _ _ _ ((0 : Nat) : Int) _).bind _ = _
      rw [p3, Option.bind_some]
      show (ref04_Part N _ ((0 : Nat) : Int) _ _ _).bind _ = _
      rw [p4, Option.bind_some]
      show (ref04_Part N _ _ _ ((0 : Nat) : Int) _).bind _ = _
      rw [p5, Option.bind_some]
      show (ref04_Part N _ ((0 : Nat) : Int) _ _ _).bind _ = _
      rw [p6, Option.bind_some, app_ok _ _ (by rw [tabl_len]; simp only [List.length_cons, List.length_nil]; omega), Option.bind_some, W_succ _ (by omega), ← Nat.add_assoc, tabl_succ]
      rfl) N [] (by omega) rfl
    show ref11_Take.L2 N w (cutS c) (s : Int) (p : Int) (d.wd : Int) _ _ _ er ec ev N [] ((lb d c s + 0 : Nat) : Int) = _
    refine Eq.trans e ?_
    show ref11_Take.L2 N w (cutS c) (s : Int) (p : Int) (d.wd : Int) _ _ _ er ec ev (m' + 1) s' ((lb d c s + (lb d c (s + 1) - lb d c s) : Nat) : Int) = _
    rw [ref11_Take.L2]
    dsimp only
    rw [if_neg (by omega), hs']
    show (if (s : Int) = IntKind.i64.wrap ((c.st : Int) - 1) then some _ else some _) = _
    rw [W_in (by omega), hsh]
    by_cases q : s + 1 = c.st
    · rw [if_pos (by omega), if_pos q, if_pos q]
    · rw [if_neg (by omega), if_neg q, if_neg q]; rfl
  unfold ref11_Take
  rw [chk_ok _ (by rw [hw.heads]; omega), ewd, Option.bind_some, e1, Option.bind_some, e2, Option.bind_some, e3, Option.bind_some]
  unfold takeS
  by_cases q : s = 0
  · rw [if_pos (by omega), loop, if_pos q]
  · rw [if_neg (by omega), loop, if_neg q]; rfl
end
end Go.Proofs.YtbfiagimgokccaaGreat
end
section
namespace Go.Proofs.YtbfiagimgokccaaGreat
open Go Go.Hp
set_option linter.unusedVariables false
set_option linter.unusedSimpArgs false
set_option linter.unusedSectionVars false
theorem win13_is (x a b : Int) (h : a ≤ x ∧ x ≤ b) : weight_in x a b = some true := by
  unfold weight_in
  rw [if_pos (by omega), decide_eq_true h.2]
theorem pis_is {N : Nat} (hN : 5 < N) {m : S_api_Mat} {r c : Nat} (h : matR m r c) (hr : r ≤ 200) (hc : c ≤ 200) : part_is N m (r : Int) (c : Int) = some true := by
  obtain ⟨k, rfl⟩ : ∃ k, N = k + 3 := ⟨N - 3, by omega⟩
  unfold part_is
  rw [if_pos h.1, if_pos h.2.1]
  try rw [matR_eta]
  unfold matmul_Right slices_ContainsFunc_s_api_Mat_api_Mat slices_IndexFunc_s_api_Mat_api_Mat
  rw [slices_IndexFunc_s_api_Mat_api_Mat.L1, if_pos (by simp), show idx [m] 0 = some m from rfl, Option.bind_some, matP h hr hc, Option.bind_some, if_neg (by decide), show IntKind.i64.wrap (0 + 1) = 1 from rfl, slices_IndexFunc_s_api_Mat_api_Mat.L1, if_neg (by simp)]
  rfl
theorem zM_R : matR zM 0 0 := ⟨rfl, rfl, rfl⟩
theorem ints13_same {N : Nat} (xs : List Int) (hx : xs.length < N) (h2 : xs.length ≤ 100000) : ref04_Ints N xs xs = some true := by
  unfold ref04_Ints
  rw [if_neg (fun q => q rfl)]
  refine loop_c (fun m (_ : Unit) i => ref04_Ints.L1 xs xs m i) (fun _ => ()) xs.length _ (fun m i hi => ?_) (fun m => ?_) N hx
  · show ref04_Ints.L1 xs xs (m + 1) (i : Int) = _
    rw [ref04_Ints.L1, if_pos (by omega), idx_get _ _ hi, Option.bind_some, Option.bind_some, if_neg (fun q => q rfl), W_succ i (by omega)]
  · show ref04_Ints.L1 xs xs (m + 1) (xs.length : Int) = _
    rw [ref04_Ints.L1, if_neg (by omega)]
section
variable {d : Dim} (hd : DOK d)
include hd
theorem ewd13 : IntKind.i64.wrap (Int.tdiv ((d.w : Nat) : Int) (d.h : Int)) = (d.wd : Int) := by
  have hh := hd.h; have hwd := hd.wd
  rw [show ((d.w : Nat) : Int) = (d.h : Int) * (d.wd : Int) by show ((d.h * d.wd : Nat) : Int) = _; simp, Int.mul_tdiv_cancel_left _ (by omega), W_in (by omega)]
theorem wR_is (hp : 0 < d.pl) : weight_Right (shapeS d) = some true := by
  have hww := dw16 hd; have hi := hd.inn; have hh := hd.h; have hwd := hd.wd; have hly := hd.ly; have hvo := hd.voc; have hpl := hd.pl
  have hdw : d.w = d.h * d.wd := rfl
  have hw2 : 2 ≤ d.w := by
    have : 1 * 2 ≤ d.h * d.wd := Nat.mul_le_mul (by omega) (by omega)
    omega
  have hm : Int.tmod ((d.w : Nat) : Int) (IntKind.i64.wrap (2 * (d.h : Int))) = 0 := by
    rw [W_in (by omega), Int.tmod_eq_emod_of_nonneg (by omega)]
    obtain ⟨e, he⟩ : ∃ e, d.wd = 2 * e := ⟨d.wd / 2, by omega⟩
    have : ((d.w : Nat) : Int) = 2 * (d.h : Int) * (e : Int) := by
      rw [hdw, he]
      have : d.h * (2 * e) = 2 * d.h * e := by rw [Nat.mul_left_comm, Nat.mul_assoc]
      rw [this]; simp
    rw [this, Int.mul_emod_right]
  unfold weight_Right shapeS
  dsimp only
  rw [win13_is _ _ _ ⟨by omega, by omega⟩, Option.bind_some, if_pos rfl, win13_is _ _ _ ⟨by omega, by omega⟩, Option.bind_some, if_pos rfl, win13_is _ _ _ ⟨by omega, by omega⟩, Option.bind_some, if_pos rfl]
  rw [chk_ok _ (by rw [W_in (by omega)]; omega), if_pos hm, win13_is _ _ _ ⟨by omega, by omega⟩, Option.bind_some, if_pos rfl, win13_is _ _ _ ⟨by omega, by omega⟩, Option.bind_some, if_pos rfl, win13_is _ _ _ ⟨by omega, by omega⟩, Option.bind_some]
variable (hp0 : 0 < d.pl) {c : Cu} (hc : COK d c)
include hp0 hc
theorem sR_is : slice_Right (shapeS d) (cutS c) = some true := by
  have hh := hd.h; have hly := hd.ly; have hst := hc.st; have hpa := hc.pa
  have hm : c.st * c.pa ≤ 3 * 4 := Nat.mul_le_mul (by omega) (by omega)
  have hf : slice_fits (cutS c) = some true := by
    unfold slice_fits cutS
    dsimp only
    rw [if_pos (by omega), if_pos (by omega), if_pos (by omega), decide_eq_true (by omega)]
  unfold slice_Right
  show (weight_Right (shapeS d)).bind _ = _
  rw [wR_is hd hp0, Option.bind_some, if_pos rfl]
  show (slice_fits (cutS c)).bind _ = _
  rw [hf, Option.bind_some, if_pos rfl]
  show (if (c.st : Int) ≤ (d.ly : Int) then chk ((c.pa : Int) ≠ 0) (if Int.tmod (d.h : Int) (c.pa : Int) = 0 then chk ((c.pa : Int) ≠ 0) (if Int.tmod (d.inn : Int) (c.pa : Int) = 0 then some (decide ((IntKind.i64.wrap ((c.st : Int) * (c.pa : Int))) ≤ 64)) else some false) else some false) else some false) = _
  rw [if_pos (by omega), chk_ok _ (by omega), tmodN, hc.h, if_pos (show ((0 : Nat) : Int) = 0 from rfl), chk_ok _ (by omega), tmodN, hc.inn, if_pos (show ((0 : Nat) : Int) = 0 from rfl), mulN _ _ (by omega), decide_eq_true (by omega)]
theorem slayers_is (s : Nat) (hs : s < c.st) : slice_Layers (shapeS d) (cutS c) (s : Int) = some (⟨((lb d c s : Nat) : Int), ((lb d c (s + 1) : Nat) : Int)⟩, 0) := by
  have hly := hd.ly; have hst := hc.st
  unfold slice_Layers
  show (slice_Right (shapeS d) (cutS c)).bind _ = _
  rw [sR_is hd hp0 hc, Option.bind_some]
  show (slice_span true (s : Int) (d.ly : Int) (c.st : Int)).bind _ = _
  rw [pspan_is s d.ly c.st hs (by omega) (by omega), Option.bind_some]
  rfl
theorem sheads_is (p : Nat) (hp : p < c.pa) : slice_Heads (shapeS d) (cutS c) (p : Int) = some (⟨((sp p d.h c.pa : Nat) : Int), ((sp (p + 1) d.h c.pa : Nat) : Int)⟩, 0) := by
  have hh := hd.h; have hpa := hc.pa
  unfold slice_Heads
  show (slice_Right (shapeS d) (cutS c)).bind _ = _
  rw [sR_is hd hp0 hc, Option.bind_some]
  show (slice_span true (p : Int) (d.h : Int) (c.pa : Int)).bind _ = _
  rw [pspan_is p d.h c.pa hp (by omega) (by omega), Option.bind_some]
theorem sinner_is (p : Nat) (hp : p < c.pa) : slice_Inner (shapeS d) (cutS c) (p : Int) = some (⟨((nb d c p : Nat) : Int), ((nb d c (p + 1) : Nat) : Int)⟩, 0) := by
  have hi := hd.inn; have hh := hd.h; have hpa := hc.pa
  unfold slice_Inner
  show (slice_Right (shapeS d) (cutS c)).bind _ = _
  rw [sR_is hd hp0 hc, Option.bind_some]
  show (slice_span true (p : Int) (d.inn : Int) (c.pa : Int)).bind _ = _
  rw [pspan_is p d.inn c.pa hp (by omega) (by omega), Option.bind_some]
  rfl
theorem hbW (p : Nat) (hp : p ≤ c.pa) : IntKind.i64.wrap (((sp p d.h c.pa : Nat) : Int) * (d.wd : Int)) = ((hb d c p : Nat) : Int) := by
  have hh := hd.h; have hwd := hd.wd; have hpa := hc.pa
  have s1 := sp_in p d.h c.pa hpa.1 hp
  have m1 : sp p d.h c.pa * d.wd ≤ 4 * 16 := Nat.mul_le_mul (by omega) (by omega)
  exact mulN _ _ (by omega)
def spanS (d : Dim) (c : Cu) (s p : Nat) : S_part_spans := ⟨⟨((lb d c s : Nat) : Int), ((lb d c (s + 1) : Nat) : Int)⟩, ⟨((hb d c p : Nat) : Int), ((hb d c (p + 1) : Nat) : Int)⟩, ⟨((nb d c p : Nat) : Int), ((nb d c (p + 1) : Nat) : Int)⟩⟩
theorem partof_is (s p : Nat) (hs : s < c.st) (hp : p < c.pa) : part_of (shapeS d) (cutS c) (s : Int) (p : Int) = some (spanS d c s p, 0) := by
  have hh := hd.h
  unfold part_of
  show (slice_Layers (shapeS d) (cutS c) (s : Int)).bind _ = _
  rw [slayers_is hd hp0 hc s hs, Option.bind_some, if_neg (fun q => q rfl)]
  show (slice_Heads (shapeS d) (cutS c) (p : Int)).bind _ = _
  rw [sheads_is hd hp0 hc p hp, Option.bind_some, if_neg (fun q => q rfl)]
  show (slice_Inner (shapeS d) (cutS c) (p : Int)).bind _ = _
  rw [sinner_is hd hp0 hc p hp, Option.bind_some]
  show chk ((d.h : Int) ≠ 0) ((some (IntKind.i64.wrap (Int.tdiv ((d.w : Nat) : Int) (d.h : Int)))).bind _) = _
  rw [chk_ok _ (by omega), ewd13 hd, Option.bind_some]
  show some ((⟨_, (⟨IntKind.i64.wrap (((sp p d.h c.pa : Nat) : Int) * (d.wd : Int)), IntKind.i64.wrap (((sp (p + 1) d.h c.pa : Nat) : Int) * (d.wd : Int))⟩ : A2_i64), _⟩ : S_part_spans), _) = _
  rw [hbW hd hp0 hc p (by omega), hbW hd hp0 hc (p + 1) (by omega)]
  rfl
variable {w : S_api_Weights} (hw : WOK d w)
include hw
theorem ends_is {N : Nat} (hN : 10 < N) (s p : Nat) (hs : s < c.st) : part_ends N (takeS d w c s p) = some true := by
  have hww := dw16 hd; have hvo := hd.voc; have hst := hc.st
  have hly := hd.ly
  have e1 := pis_is (N := N) (by omega) hw.embed (by omega) (by omega)
  have e2 := pis_is (N := N) (by omega) hw.head (by omega) (by omega)
  have e0 := pis_is (N := N) (by omega) zM_R (by omega) (by omega)
  have key : ∀ (a b : Int) (m : S_api_Mat), part_is N m b a = some true → m = (takeS d w c s p).Embed → part_ends.J1 N (takeS d w c s p) a b = some true := by
    intro a b m hm em
    unfold part_ends.J1
    show (if (s : Int) = IntKind.i64.wrap ((c.st : Int) - 1) then _ else _) = _
    rw [W_in (by omega)]
    by_cases q : s + 1 = c.st
    · rw [if_pos (by omega)]
      unfold part_ends.J2
      try rw [matR_eta]
      rw [← em, hm, Option.bind_some, if_pos rfl]
      try rw [matR_eta]
      unfold takeS
      dsimp only
      rw [if_pos q, if_pos q]
      show (part_is N w.Head (d.voc : Int) ((d.w : Nat) : Int)).bind _ = _
      rw [e2, Option.bind_some, if_pos rfl, hw.last]
      exact congrArg some (decide_eq_true rfl)
    · rw [if_neg (by omega)]
      unfold part_ends.J2
      try rw [matR_eta]
      rw [← em, hm, Option.bind_some, if_pos rfl]
      try rw [matR_eta]
      unfold takeS
      dsimp only
      rw [if_neg q, if_neg q]
      show (part_is N zM ((0 : Nat) : Int) ((0 : Nat) : Int)).bind _ = _
      rw [e0, Option.bind_some, if_pos rfl]
      rfl
  unfold part_ends
  show (if (s : Int) = 0 then _ else _) = _
  by_cases q : s = 0
  · rw [if_pos (by omega)]
    exact key _ _ w.Embed e1 (by unfold takeS; rw [if_pos q])
  · rw [if_neg (by omega)]
    exact key _ _ zM e0 (by unfold takeS; rw [if_neg q])
theorem wrong_is {N : Nat} (hN : 10 < N) (s p : Nat) (hs : s < c.st) (hp : p < c.pa) : part_wrong N (takeS d w c s p) = some false := by
  have hww := dw16 hd; have hvo := hd.voc; have hst := hc.st; have hly := hd.ly; have hi := hd.inn; have hh := hd.h
  obtain ⟨a1, a2, a3⟩ := hb_fit hd hc p hp
  obtain ⟨b1, b2, b3⟩ := nb_fit hd hc p hp
  obtain ⟨l1, l2⟩ := lb_fit hd hc s hs
  have e1 : IntKind.i64.wrap (((hb d c (p + 1) : Nat) : Int) - ((hb d c p : Nat) : Int)) = ((hpa d c * d.wd : Nat) : Int) := by rw [W_in (by omega), ← a3]; omega
  have e2 : IntKind.i64.wrap (((nb d c (p + 1) : Nat) : Int) - ((nb d c p : Nat) : Int)) = ((ipa d c : Nat) : Int) := by rw [W_in (by omega), ← b3]; omega
  have e3 : IntKind.i64.wrap (((lb d c (s + 1) : Nat) : Int) - ((lb d c s : Nat) : Int)) = ((lb d c (s + 1) - lb d c s : Nat) : Int) := by rw [W_in (by omega)]; omega
  unfold part_wrong
  show (part_of (shapeS d) (cutS c) (s : Int) (p : Int)).bind _ = _
  rw [partof_is hd hp0 hc s p hs hp, Option.bind_some, if_neg (fun q => q rfl)]
  show (part_ends N (takeS d w c s p)).bind _ = _
  rw [ends_is hd hp0 hc hw hN s p hs, Option.bind_some, if_pos rfl]
  show (if (((takeS d w c s p).Blocks.length : Nat) : Int) ≠ IntKind.i64.wrap (((lb d c (s + 1) : Nat) : Int) - ((lb d c s : Nat) : Int)) then _ else _) = _
  rw [e3]
  have hbl : (takeS d w c s p).Blocks.length = lb d c (s + 1) - lb d c s := tabl_len _ _
  rw [if_neg (by rw [hbl]; exact fun q => q rfl)]
  unfold part_wrong.J1
  refine loop_c (fun m (_ : Unit) i => part_wrong.L2 N (takeS d w c s p) (spanS d c s p, 0) m i) (fun _ => ()) (lb d c (s + 1) - lb d c s) _ (fun m i hi => ?_) (fun m => ?_) N (by omega)
  · show part_wrong.L2 N (takeS d w c s p) (spanS d c s p, 0) (m + 1) (i : Int) = part_wrong.L2 N (takeS d w c s p) (spanS d c s p, 0) m _
    have hB : BP d c (blkS d c p (w.Blocks.getD (lb d c s + i) zB)) := blkS_ok hd hc p hp (hw.blocks _ (getD_in _ _ _ (by have := hw.blen; omega)))
    have hB' : idx (takeS d w c s p).Blocks (i : Int) = some (blkS d c p (w.Blocks.getD (lb d c s + i) zB)) := idx_t _ hi
    have k1 := pis_is (N := N) (by omega) hB.q (by omega) (by omega)
    have k2 := pis_is (N := N) (by omega) hB.k (by omega) (by omega)
    have k3 := pis_is (N := N) (by omega) hB.v (by omega) (by omega)
    have k4 := pis_is (N := N) (by omega) hB.o (by omega) (by omega)
    have k5 := pis_is (N := N) (by omega) hB.up (by omega) (by omega)
    have k6 := pis_is (N := N) (by omega) hB.down (by omega) (by omega)
    generalize blkS d c p (w.Blocks.getD (lb d c s + i) zB) = y at hB hB' k1 k2 k3 k4 k5 k6
    rw [part_wrong.L2, if_pos (by rw [hbl]; omega), hB', Option.bind_some]
    show (if ((y.First.length : Nat) : Int) ≠ ((d.w : Nat) : Int) then _ else if ((y.Second.length : Nat) : Int) ≠ ((d.w : Nat) : Int) then _ else (part_is N y.Q (IntKind.i64.wrap (((hb d c (p + 1) : Nat) : Int) - ((hb d c p : Nat) : Int))) ((d.w : Nat) : Int)).bind _) = _
    rw [if_neg (by rw [hB.first]; exact fun q => q rfl), if_neg (by rw [hB.second]; exact fun q => q rfl), e1, k1, Option.bind_some, if_pos rfl]
    show (part_is N y.K (IntKind.i64.wrap (((hb d c (p + 1) : Nat) : Int) - ((hb d c p : Nat) : Int))) ((d.w : Nat) : Int)).bind _ = _
    rw [e1, k2, Option.bind_some, if_pos rfl]
    show (part_is N y.V (IntKind.i64.wrap (((hb d c (p + 1) : Nat) : Int) - ((hb d c p : Nat) : Int))) ((d.w : Nat) : Int)).bind _ = _
    rw [e1, k3, Option.bind_some, if_pos rfl]
    show (part_is N y.O ((d.w : Nat) : Int) (IntKind.i64.wrap (((hb d c (p + 1) : Nat) : Int) - ((hb d c p : Nat) : Int)))).bind _ = _
    rw [e1, k4, Option.bind_some, if_pos rfl]
    show (part_is N y.Up (IntKind.i64.wrap (((nb d c (p + 1) : Nat) : Int) - ((nb d c p : Nat) : Int))) ((d.w : Nat) : Int)).bind _ = _
    rw [e2, k5, Option.bind_some, if_pos rfl]
    show (part_is N y.Down ((d.w : Nat) : Int) (IntKind.i64.wrap (((nb d c (p + 1) : Nat) : Int) - ((nb d c p : Nat) : Int)))).bind _ = _
    rw [e2, k6, Option.bind_some, if_pos rfl, W_succ i (by omega)]
  · show part_wrong.L2 N (takeS d w c s p) (spanS d c s p, 0) (m + 1) (((lb d c (s + 1) - lb d c s : Nat) : Int)) = _
    rw [part_wrong.L2, if_neg (by rw [hbl]; omega)]
    rfl
theorem right13_is {N : Nat} (hN : 10 < N) (s p : Nat) (hs : s < c.st) (hp : p < c.pa) : part_Right N [takeS d w c s p] = some true := by
  obtain ⟨k, rfl⟩ : ∃ k, N = k + 3 := ⟨N - 3, by omega⟩
  unfold part_Right slices_ContainsFunc_s_api_Shard_api_Shard slices_IndexFunc_s_api_Shard_api_Shard
  rw [slices_IndexFunc_s_api_Shard_api_Shard.L1, if_pos (by simp), show idx [takeS d w c s p] 0 = some (takeS d w c s p) from rfl, Option.bind_some, wrong_is hd hp0 hc hw hN s p hs hp, Option.bind_some, if_neg (by decide), show IntKind.i64.wrap (0 + 1) = 1 from rfl, slices_IndexFunc_s_api_Shard_api_Shard.L1, if_neg (by simp)]
  rfl
end
end Go.Proofs.YtbfiagimgokccaaGreat
end
section
namespace Go.Proofs.YtbfiagimgokccaaGreat
open Go Go.Hp
set_option linter.unusedVariables false
set_option linter.unusedSimpArgs false
set_option linter.unusedSectionVars false
section
variable {d : Dim} (hd : DOK d) (hp0 : 0 < d.pl) {c : Cu} (hc : COK d c) {w : S_api_Weights} (hw : WOK d w)
include hd hp0 hc hw
theorem rows13_is {N : Nat} (hN : 10 < N) (s p : Nat) (hs : s < c.st) (hp : p < c.pa) (x : List Int) (hx : x.length ≤ 1000) : block_Rows N (takeS d w c s p) x = some (if x.length = hb d c (p + 1) - hb d c p then (⟨((hb d c p : Nat) : Int), ((hb d c (p + 1) : Nat) : Int)⟩, true) else (⟨0, 0⟩, false)) := by
  have hh := hd.h; have hww := dw16 hd
  obtain ⟨a1, a2, a3⟩ := hb_fit hd hc p hp
  unfold block_Rows
  show (part_Right N [takeS d w c s p]).bind _ = _
  rw [right13_is hd hp0 hc hw hN s p hs hp, Option.bind_some, if_pos rfl]
  show (slice_Heads (shapeS d) (cutS c) (p : Int)).bind _ = _
  rw [sheads_is hd hp0 hc p hp, Option.bind_some]
  show chk ((d.h : Int) ≠ 0) ((some (IntKind.i64.wrap (Int.tdiv ((d.w : Nat) : Int) (d.h : Int)))).bind _) = _
  rw [chk_ok _ (by omega), ewd13 hd, Option.bind_some]
  show (if ((x.length : Nat) : Int) ≠ IntKind.i64.wrap (IntKind.i64.wrap (((sp (p + 1) d.h c.pa : Nat) : Int) * (d.wd : Int)) - IntKind.i64.wrap (((sp p d.h c.pa : Nat) : Int) * (d.wd : Int))) then _ else some ((⟨IntKind.i64.wrap (((sp p d.h c.pa : Nat) : Int) * (d.wd : Int)), IntKind.i64.wrap (((sp (p + 1) d.h c.pa : Nat) : Int) * (d.wd : Int))⟩ : A2_i64), true)) = _
  rw [hbW hd hp0 hc p (by omega), hbW hd hp0 hc (p + 1) (by omega), W_in (by omega)]
  by_cases q : x.length = hb d c (p + 1) - hb d c p
  · rw [if_neg (by omega), if_pos q]
  · rw [if_pos (by omega), if_neg q]
theorem enter_ok {N : Nat} (hN : 200 < N) (p : Nat) (hp : p < c.pa) (t : Nat) (ht : t < d.voc) : block_Enter N (takeS d w c 0 p) (t : Int) = some (inS d w t, 0) := by
  have hst := hc.st; have hvo := hd.voc; have hww := dw16 hd
  have h1 : (t + 1) * d.w ≤ d.voc * d.w := Nat.mul_le_mul_right _ (by omega)
  have h2 : d.voc * d.w ≤ 10 * 16 := Nat.mul_le_mul (by omega) (by omega)
  have h3 : (t + 1) * d.w = t * d.w + d.w := Nat.succ_mul _ _
  have e1 : IntKind.i64.wrap ((t : Int) * ((d.w : Nat) : Int)) = ((t * d.w : Nat) : Int) := mulN _ _ (by omega)
  have e2 : IntKind.i64.wrap (IntKind.i64.wrap ((t : Int) + 1) * ((d.w : Nat) : Int)) = (((t + 1) * d.w : Nat) : Int) := by rw [W_succ t (by omega)]; exact mulN _ _ (by omega)
  have hE : (takeS d w c 0 p).Embed = w.Embed := rfl
  have hV : w.Embed.V.length = d.voc * d.w := hw.embed.2.2
  unfold block_Enter
  show (part_Right N [takeS d w c 0 p]).bind _ = _
  rw [right13_is hd hp0 hc hw (by omega) 0 p hst.1 hp, Option.bind_some, if_pos rfl]
  show (if ((0 : Nat) : Int) ≠ 0 then _ else if (t : Int) < 0 then _ else if (t : Int) ≥ (d.voc : Int) then _ else chk (0 ≤ IntKind.i64.wrap ((t : Int) * ((d.w : Nat) : Int)) ∧ IntKind.i64.wrap ((t : Int) * ((d.w : Nat) : Int)) ≤ IntKind.i64.wrap (IntKind.i64.wrap ((t : Int) + 1) * ((d.w : Nat) : Int)) ∧ IntKind.i64.wrap (IntKind.i64.wrap ((t : Int) + 1) * ((d.w : Nat) : Int)) ≤ ((w.Embed.V.length : Nat) : Int)) _) = _
  rw [if_neg (fun q => q rfl), if_neg (by omega), if_neg (by omega), e1, e2, chk_ok _ (by omega)]
  refine loop_c (fun m (s : List Int) i => block_Enter.L1 (takeS d w c 0 p) (t : Int) m s i) (fun i => tabl i fun i => IntKind.i32.wrap (16 * IntKind.i32.wrap (w.Embed.V.getD (t * d.w + i) 0))) d.w _ (fun m i hi => ?_) (fun m => ?_) N (by omega)
  · show block_Enter.L1 (takeS d w c 0 p) (t : Int) (m + 1) _ (i : Int) = block_Enter.L1 (takeS d w c 0 p) (t : Int) m _ _
    rw [block_Enter.L1]
    show (if (i : Int) < (((IntKind.i64.wrap (IntKind.i64.wrap ((t : Int) + 1) * ((d.w : Nat) : Int))).toNat - (IntKind.i64.wrap ((t : Int) * ((d.w : Nat) : Int))).toNat : Nat) : Int) then (idx ((w.Embed.V.take (IntKind.i64.wrap (IntKind.i64.wrap ((t : Int) + 1) * ((d.w : Nat) : Int))).toNat).drop (IntKind.i64.wrap ((t : Int) * ((d.w : Nat) : Int))).toNat) (i : Int)).bind _ else _) = _
    rw [e1, e2, Int.toNat_natCast, Int.toNat_natCast, if_pos (by omega)]
    have hx : idx ((w.Embed.V.take ((t + 1) * d.w)).drop (t * d.w)) (i : Int) = some (w.Embed.V.getD (t * d.w + i) 0) := by
      rw [idx_d _ 0 (by simp; omega), List.getD_eq_getElem?_getD, List.getElem?_drop, List.getElem?_take, if_pos (by omega), ← List.getD_eq_getElem?_getD]
    have hs : ∀ y : Int, ishl .i32 (IntKind.i32.wrap y) 4 = IntKind.i32.wrap (16 * IntKind.i32.wrap y) := fun y => by
      show IntKind.i32.wrap (IntKind.i32.wrap y * 2 ^ min (4 : Int).toNat 32) = _
      rw [show (2 : Int) ^ min (4 : Int).toNat 32 = 16 from rfl, Int.mul_comm]
    rw [hx, Option.bind_some, hs, app_ok _ _ (by rw [tabl_len]; simp only [List.length_cons, List.length_nil]; omega), Option.bind_some, W_succ i (by omega), tabl_succ]
  · show block_Enter.L1 (takeS d w c 0 p) (t : Int) (m + 1) _ ((d.w : Nat) : Int) = _
    rw [block_Enter.L1]
    show (if ((d.w : Nat) : Int) < (((IntKind.i64.wrap (IntKind.i64.wrap ((t : Int) + 1) * ((d.w : Nat) : Int))).toNat - (IntKind.i64.wrap ((t : Int) * ((d.w : Nat) : Int))).toNat : Nat) : Int) then _ else _) = _
    rw [e1, e2, Int.toNat_natCast, Int.toNat_natCast, if_neg (by omega)]
    rfl
end
def colS (ys : List (List Int)) (i : Nat) : Int := tot (ys.map fun y => y.getD i 0)
def sumsS (n : Nat) (ys : List (List Int)) : List Int := tabl n fun i => IntKind.i32.wrap (colS ys i)
theorem colS_snoc (ys : List (List Int)) (y : List Int) (i : Nat) : colS (ys ++ [y]) i = colS ys i + y.getD i 0 := by unfold colS; rw [List.map_append, List.map_singleton, tot_snoc]
theorem sum2_is {N : Nat} (hN : 5 < N) (a b : Int) : round_Sum N [a, b] = some (IntKind.i32.wrap (a + b)) := by
  obtain ⟨k, rfl⟩ : ∃ k, N = k + 3 := ⟨N - 3, by omega⟩
  unfold round_Sum
  rw [round_Sum.L1, if_pos (by simp), show idx [a, b] 0 = some a from rfl, Option.bind_some, Option.bind_some, show IntKind.i64.wrap (0 + 1) = 1 from rfl, round_Sum.L1, if_pos (by simp), show idx [a, b] 1 = some b from rfl, Option.bind_some, Option.bind_some, show IntKind.i64.wrap (1 + 1) = 2 from rfl, round_Sum.L1, if_neg (by simp)]
  congr 1
  simp only [IntKind.wrap_i32, IntKind.wrap_u32]
  omega
theorem wrap_add (a b : Int) : IntKind.i32.wrap (IntKind.i32.wrap a + b) = IntKind.i32.wrap (a + b) := by
  simp only [IntKind.wrap_i32]; omega
theorem take_snoc {α : Type} (l : List α) (k : Nat) (h : k < l.length) : l.take (k + 1) = l.take k ++ [l[k]] := List.take_succ_eq_append_getElem h
theorem join_step {N : Nat} (hN : 300 < N) (x : List Int) (ys : List (List Int)) (hx : x.length ≤ 200) (hy : ys.length ≤ 100) (m k : Nat) (hk : k < ys.length) (hl : ys[k].length = x.length) :
    block_Join.L1 N x ys (m + 1) (sumsS x.length (ys.take k)) (k : Int) = block_Join.L1 N x ys m (sumsS x.length (ys.take (k + 1))) ((k + 1 : Nat) : Int) := by
  rw [block_Join.L1, if_pos (by omega), idx_get ys k hk, Option.bind_some, if_neg (by rw [hl]; exact fun q => q rfl)]
  have h0 : sumsS x.length (ys.take k) = tabl x.length fun j => if j < 0 then IntKind.i32.wrap (colS (ys.take (k + 1)) j) else IntKind.i32.wrap (colS (ys.take k) j) := tabl_congr fun j _ => (if_neg (by omega)).symm
  refine (congrArg (fun z => block_Join.L2 N (k : Int) ys[k] (block_Join.L1 N x ys m) N z 0) h0).trans ?_
  refine loop_c (fun m' (s : List Int) i => block_Join.L2 N (k : Int) ys[k] (block_Join.L1 N x ys m) m' s i) (fun i => tabl x.length fun j => if j < i then IntKind.i32.wrap (colS (ys.take (k + 1)) j) else IntKind.i32.wrap (colS (ys.take k) j)) x.length _ (fun m' i hi => ?_) (fun m' => ?_) N (by omega)
  · show block_Join.L2 N (k : Int) ys[k] (block_Join.L1 N x ys m) (m' + 1) _ (i : Int) = block_Join.L2 N (k : Int) ys[k] (block_Join.L1 N x ys m) m' _ _
    rw [block_Join.L2, if_pos (by omega), idx_t _ hi, Option.bind_some, idx_d ys[k] 0 (by omega), Option.bind_some, sum2_is (by omega), Option.bind_some, Option.bind_some, W_succ i (by omega), Int.toNat_natCast, tabl_set]
    congr 1
    refine tabl_congr fun j hj => ?_
    by_cases h : j = i
    · subst h
      rw [if_pos rfl, if_neg (show ¬ j < j by omega), if_pos (show j < j + 1 by omega), wrap_add, take_snoc ys k hk, colS_snoc]
    · rw [if_neg h]
      by_cases h2 : j < i
      · rw [if_pos h2, if_pos (by omega)]
      · rw [if_neg h2, if_neg (by omega)]
  · show block_Join.L2 N (k : Int) ys[k] (block_Join.L1 N x ys m) (m' + 1) _ ((x.length : Nat) : Int) = _
    rw [block_Join.L2, if_neg (by omega), W_succ k (by omega)]
    congr 1
    exact tabl_congr fun j hj => if_pos hj
theorem join_0 (x : List Int) (ys : List (List Int)) : List.replicate (((x.length : Nat) : Int)).toNat (0 : Int) = sumsS x.length (ys.take 0) := by
  rw [Int.toNat_natCast, tabl_rep]
  exact tabl_congr fun j _ => rfl
theorem bjoin_is {N : Nat} (hN : 300 < N) (x : List Int) (ys : List (List Int)) (hx : x.length ≤ 200) (hy : ys.length ≤ 100) (hl : ∀ y ∈ ys, y.length = x.length) : block_Join N x ys = some (joinS x (sumsS x.length ys) 1 4, 0) := by
  unfold block_Join
  rw [chk_ok _ (by omega), join_0 x ys]
  refine loop_c (fun m (s : List Int) i => block_Join.L1 N x ys m s i) (fun k => sumsS x.length (ys.take k)) ys.length _ (fun m k hk => join_step hN x ys hx hy m k hk (hl _ (List.getElem_mem hk))) (fun m => ?_) N (by omega)
  show block_Join.L1 N x ys (m + 1) _ ((ys.length : Nat) : Int) = _
  rw [block_Join.L1, if_neg (by omega), List.take_length, pjoin_is x (sumsS x.length ys) 1 4 (tabl_len _ _) (by omega) (by omega), Option.bind_some]
end Go.Proofs.YtbfiagimgokccaaGreat
end
section
namespace Go.Proofs.YtbfiagimgokccaaGreat
open Go Go.Hp
set_option linter.unusedVariables false
set_option linter.unusedSimpArgs false
set_option linter.unusedSectionVars false
def headG (wd : Nat) (Ks Vs : Nat → List Int) (n : Nat) (q : List Int) (h : Nat) : List Int :=
  mixS (softS 64 0 (tabl n fun p => IntKind.i32.wrap (dots (part q wd h) (part (Ks p) wd h) wd))) (tabl n fun p => part (Vs p) wd h) wd
def attG (wd : Nat) (Ks Vs : Nat → List Int) (n : Nat) (q : List Int) : Nat → List Int
  | 0 => []
  | k + 1 => attG wd Ks Vs n q k ++ headG wd Ks Vs n q k
theorem headG_len (wd : Nat) (Ks Vs : Nat → List Int) (n : Nat) (q : List Int) (h : Nat) : (headG wd Ks Vs n q h).length = wd := mixS_len _ _ _
theorem attG_len (wd : Nat) (Ks Vs : Nat → List Int) (n : Nat) (q : List Int) : ∀ k, (attG wd Ks Vs n q k).length = k * wd
  | 0 => by simp [attG]
  | k + 1 => by rw [attG, List.length_append, attG_len wd Ks Vs n q k, headG_len, Nat.succ_mul]
theorem patG (wd H : Nat) (x : List Int) (h : Nat) (hx : x.length = H * wd) (hh : h < H) (hb : H * wd ≤ 1000) : (0 : Int) ≤ ((h * wd : Nat) : Int) ∧ ((h * wd : Nat) : Int) ≤ IntKind.i64.wrap (((h * wd : Nat) : Int) + (wd : Int)) ∧ IntKind.i64.wrap (((h * wd : Nat) : Int) + (wd : Int)) ≤ ((x.length : Nat) : Int) ∧ (x.take (IntKind.i64.wrap (((h * wd : Nat) : Int) + (wd : Int))).toNat).drop (((h * wd : Nat) : Int)).toNat = part x wd h := by
  have h1 : (h + 1) * wd ≤ H * wd := Nat.mul_le_mul_right _ (by omega)
  have h3 : (h + 1) * wd = h * wd + wd := Nat.succ_mul _ _
  have e : IntKind.i64.wrap (((h * wd : Nat) : Int) + (wd : Int)) = (((h + 1) * wd : Nat) : Int) := by rw [W_in (by omega)]; omega
  rw [e, Int.toNat_natCast, Int.toNat_natCast]
  exact ⟨by omega, by omega, by omega, rfl⟩
theorem bhead_is {N : Nat} (hN : 300 < N) (wd H n : Nat) (hb : H * wd ≤ 200) (hn0 : 0 < n) (hn : n ≤ 50) (q : List Int) (hq : q.length = H * wd) (ks vs : List (List Int)) (hk : ks.length = n) (hv : vs.length = n) (hks : ∀ p, p < n → (ks.getD p []).length = H * wd) (hvs : ∀ p, p < n → (vs.getD p []).length = H * wd) (h : Nat) (hh : h < H) :
    block_head N (part q wd h) ks vs ((h * wd : Nat) : Int) = some (headG wd (fun p => ks.getD p []) (fun p => vs.getD p []) n q h) := by
  have lq := part_len q wd h H hq hh
  have hw : wd ≤ 200 := Nat.le_trans (Nat.le_mul_of_pos_left wd (show 0 < H by omega)) hb
  unfold block_head
  refine loop_c (fun m2 (s : List Int × List (List Int)) i => block_head.L1 N (part q wd h) ks vs ((h * wd : Nat) : Int) m2 s.1 s.2 i) (fun p => (tabl p fun p => IntKind.i32.wrap (dots (part q wd h) (part (ks.getD p []) wd h) wd), tabl p fun p => part (vs.getD p []) wd h)) n _ (fun m2 p hp2 => ?_) (fun m2 => ?_) N (by omega)
  · show block_head.L1 N (part q wd h) ks vs _ (m2 + 1) (tabl p _) (tabl p _) (p : Int) = block_head.L1 N (part q wd h) ks vs _ m2 (tabl (p + 1) _) (tabl (p + 1) _) _
    obtain ⟨p1, p2, p3, p4⟩ := patG wd H _ h (hks p hp2) hh (by omega)
    obtain ⟨v1, v2, v3, v4⟩ := patG wd H _ h (hvs p hp2) hh (by omega)
    have lk := part_len _ wd h H (hks p hp2) hh
    have hdot := rdot_is (N := N) (part q wd h) (part (ks.getD p []) wd h) (by rw [lq, lk]) (by rw [lq]; omega) (by rw [lq]; omega)
    rw [lq] at hdot
    rw [block_head.L1, if_pos (by omega), idx_d ks [] (by omega), Option.bind_some, lq, chk_ok _ ⟨p1, p2, p3⟩, p4, hdot, Option.bind_some, app_ok _ _ (by rw [tabl_len]; simp only [List.length_cons, List.length_nil]; omega), Option.bind_some, idx_d vs [] (by omega), Option.bind_some, chk_ok _ ⟨v1, v2, v3⟩, v4, app_ok _ _ (by rw [tabl_len]; simp only [List.length_cons, List.length_nil]; omega), Option.bind_some, W_succ p (by omega), tabl_succ, tabl_succ]
  · show block_head.L1 N (part q wd h) ks vs _ (m2 + 1) (tabl n _) (tabl n _) (n : Int) = _
    have hmx := pmix_is (N := N) (softS 64 0 (tabl n fun p => IntKind.i32.wrap (dots (part q wd h) (part (ks.getD p []) wd h) wd))) (tabl n fun p => part (vs.getD p []) wd h) wd (by rw [softS_len, tabl_len, tabl_len]) (by rw [tabl_len]; exact hn0) (by rw [tabl_len]; omega) (fun i hi => by
      rw [tabl_len] at hi
      rw [tabl_getD _ _ _ _ hi]
      exact part_len _ wd h H (hvs i hi) hh) (by omega) (by omega)
    rw [block_head.L1, if_neg (by omega), psoftmax_is _ _ _ (by rw [tabl_len]; exact hn0) (by rw [tabl_len]; omega) (by omega), Option.bind_some, hmx, Option.bind_some]
    rfl
end Go.Proofs.YtbfiagimgokccaaGreat
end
section
namespace Go.Proofs.YtbfiagimgokccaaGreat
open Go Go.Hp
set_option linter.unusedVariables false
set_option linter.unusedSimpArgs false
set_option linter.unusedSectionVars false
theorem bytes_is {N : Nat} (a b : List Int) (hN : a.length < N) (hl : a.length ≤ 100000) : ref04_Bytes N a b = some (decide (a = b)) := by
  unfold ref04_Bytes
  by_cases h : a.length = b.length
  · rw [if_neg (by omega)]
    have key : ∀ q i m : Nat, i + q = a.length → q < m → ref04_Bytes.L1 a b m (i : Int) = some (decide (a.drop i = b.drop i)) := by
      intro q
      induction q with
      | zero =>
        intro i m hi hm
        obtain ⟨m, rfl⟩ : ∃ q, m = q + 1 := ⟨m - 1, by omega⟩
        rw [ref04_Bytes.L1, if_neg (by omega), List.drop_of_length_le (by omega), List.drop_of_length_le (by omega), decide_eq_true rfl]
      | succ q ih =>
        intro i m hi hm
        obtain ⟨m, rfl⟩ : ∃ q, m = q + 1 := ⟨m - 1, by omega⟩
        have h1 : i < a.length := by omega
        have h2 : i < b.length := by omega
        rw [ref04_Bytes.L1, if_pos (by omega), idx_get a i h1, Option.bind_some, idx_get b i h2, Option.bind_some, List.drop_eq_getElem_cons h1, List.drop_eq_getElem_cons h2]
        by_cases e : a[i] = b[i]
        · rw [if_neg (fun q => q e), W_succ i (by omega), ih (i + 1) m (by omega) (by omega)]
          congr 1
          rw [decide_eq_decide, e]
          exact ⟨fun q => by rw [q], fun q => by injection q⟩
        · rw [if_pos e]
          congr 1
          rw [eq_comm, decide_eq_false_iff_not]
          intro q
          injection q with q1 q2
          exact e q1
    have := key a.length 0 N (by omega) hN
    rw [List.drop_zero, List.drop_zero] at this
    exact this
  · rw [if_pos (by omega)]
    congr 1
    rw [eq_comm, decide_eq_false_iff_not]
    intro q; exact h (by rw [q])
theorem equal_is {N : Nat} (a b : List Int) (hN : a.length < N) (hl : a.length ≤ 100000) : slices_Equal_s_int8_int8 N a b = some (decide (a = b)) := by
  unfold slices_Equal_s_int8_int8
  by_cases h : a.length = b.length
  · rw [if_neg (by omega)]
    have key : ∀ q i m : Nat, i + q = a.length → q < m → slices_Equal_s_int8_int8.L1 a b m (i : Int) = some (decide (a.drop i = b.drop i)) := by
      intro q
      induction q with
      | zero =>
        intro i m hi hm
        obtain ⟨m, rfl⟩ : ∃ q, m = q + 1 := ⟨m - 1, by omega⟩
        rw [slices_Equal_s_int8_int8.L1, if_neg (by omega), List.drop_of_length_le (by omega), List.drop_of_length_le (by omega), decide_eq_true rfl]
      | succ q ih =>
        intro i m hi hm
        obtain ⟨m, rfl⟩ : ∃ q, m = q + 1 := ⟨m - 1, by omega⟩
        have h1 : i < a.length := by omega
        have h2 : i < b.length := by omega
        rw [slices_Equal_s_int8_int8.L1, if_pos (by omega), idx_get a i h1, Option.bind_some, idx_get b i h2, Option.bind_some, List.drop_eq_getElem_cons h1, List.drop_eq_getElem_cons h2]
        by_cases e : a[i] = b[i]
        · rw [if_neg (fun q => q e), W_succ i (by omega), ih (i + 1) m (by omega) (by omega)]
          congr 1
          rw [decide_eq_decide, e]
          exact ⟨fun q => by rw [q], fun q => by injection q⟩
        · rw [if_pos e]
          congr 1
          rw [eq_comm, decide_eq_false_iff_not]
          intro q
          injection q with q1 q2
          exact e q1
    have := key a.length 0 N (by omega) hN
    rw [List.drop_zero, List.drop_zero] at this
    exact this
  · rw [if_pos (by omega)]
    congr 1
    rw [eq_comm, decide_eq_false_iff_not]
    intro q; exact h (by rw [q])
def putE (room : Int) (n : Nat) (g : S_api_Spot → Option S_cache_rows) (s : S_api_Spot) (k v : List Int) : Int :=
  if s.Request < 0 then 2 else if s.Layer < 0 then 2 else if s.Place < 0 then 2 else if k.length ≠ v.length then 30 else
  if s.Place > 0 ∧ g ⟨s.Request, s.Layer, s.Place - 1⟩ = none then 120 else
  match g s with
  | some r => if r.k = k ∧ r.v = v then 0 else 2
  | none => if (n : Int) ≥ room then 80 else 0
def putM (m : S_cache_Store) (s : S_api_Spot) (k v : List Int) : S_cache_Store :=
  if putE m.room m.m.length (mget m.m) s k v = 0 ∧ mget m.m s = none then ⟨m.room, mset m.m s ⟨k, v⟩⟩ else m
theorem put_is {N : Nat} (m : S_cache_Store) (s : S_api_Spot) (k v : List Int) (hs : s.Place ≤ 1000000) (hk : k.length < N) (hk2 : k.length ≤ 100000) (hv : v.length ≤ 100000) (hm : ∀ s r, mget m.m s = some r → r.k.length < N ∧ r.k.length ≤ 100000 ∧ r.v.length < N ∧ r.v.length ≤ 100000) :
    cache_Store_Put N m s k v = some (putE m.room m.m.length (mget m.m) s k v, putM m s k v) := by
  unfold cache_Store_Put putM putE
  rw [Option.bind_some]
  by_cases c1 : s.Request < 0
  · rw [if_pos c1, if_pos c1, if_neg (fun q => absurd q.1 (by decide))]
  rw [if_neg c1, if_neg c1]
  by_cases c2 : s.Layer < 0
  · rw [if_pos c2, if_pos c2, if_neg (fun q => absurd q.1 (by decide))]
  rw [if_neg c2, if_neg c2]
  by_cases c3 : s.Place < 0
  · rw [if_pos c3, if_pos c3, if_neg (fun q => absurd q.1 (by decide))]
  rw [if_neg c3, if_neg c3]
  by_cases c4 : k.length = v.length
  rotate_left
  · rw [if_pos (by omega), if_pos c4, if_neg (fun q => absurd q.1 (by decide))]
  rw [if_neg (show ¬ ((k.length : Nat) : Int) ≠ ((v.length : Nat) : Int) by omega), if_neg (show ¬ k.length ≠ v.length from fun q => q c4)]
  have ha : cache_Store_ahead m s = some (if s.Place > 0 ∧ mget m.m ⟨s.Request, s.Layer, s.Place - 1⟩ = none then false else true) := by
    unfold cache_Store_ahead
    by_cases c : s.Place = 0
    · rw [if_pos c, if_neg (fun q => by omega)]
    · rw [if_neg c, Option.bind_some, W_in (by omega)]
      congr 1
      cases hz : mget m.m ⟨s.Request, s.Layer, s.Place - 1⟩ with
      | none => rw [if_pos ⟨by omega, rfl⟩]; rfl
      | some r => rw [if_neg (fun q => by cases q.2)]; rfl
  show (cache_Store_ahead m s).bind _ = _
  by_cases c5 : s.Place > 0 ∧ mget m.m ⟨s.Request, s.Layer, s.Place - 1⟩ = none
  · have ha' : cache_Store_ahead m s = some false := by rw [ha, if_pos c5]
    rw [ha', Option.bind_some, if_neg (by decide), if_pos c5, if_neg (fun q => absurd q.1 (by decide))]
  have ha' : cache_Store_ahead m s = some true := by rw [ha, if_neg c5]
  rw [ha', Option.bind_some, if_pos rfl, if_neg c5]
  show (if (mget m.m s).isSome = true then (slices_Equal_s_int8_int8 N ((mget m.m s).getD ⟨[], []⟩).k k).bind _ else _) = _
  cases hg : mget m.m s with
  | some r =>
    obtain ⟨h1, h2, h3, h4⟩ := hm _ _ hg
    have j1 : ∀ z, cache_Store_Put.J1 m s k v z = some (if z = true then 0 else 2, m) := by
      intro z
      unfold cache_Store_Put.J1
      cases z
      · rw [if_neg (by decide)]
        show (if (mget m.m s).isSome = true then _ else _) = _
        rw [hg]
        rfl
      · rw [if_pos rfl]; rfl
    show (slices_Equal_s_int8_int8 N r.k k).bind (fun r28 => if r28 = true then (slices_Equal_s_int8_int8 N r.v v).bind _ else _) = _
    show _ = some (if r.k = k ∧ r.v = v then (0 : Int) else 2, if (if r.k = k ∧ r.v = v then (0 : Int) else 2) = 0 ∧ some r = none then _ else m)
    rw [if_neg (show ¬ ((if r.k = k ∧ r.v = v then (0 : Int) else 2) = 0 ∧ some r = none) from fun q => by cases q.2), equal_is _ _ h1 h2, Option.bind_some]
    by_cases e1 : r.k = k
    · rw [decide_eq_true e1, if_pos rfl, equal_is _ _ h3 h4, Option.bind_some, j1]
      by_cases e2 : r.v = v
      · rw [decide_eq_true e2, if_pos rfl]
        rw [if_pos ⟨e1, e2⟩]
      · rw [decide_eq_false e2, if_neg (by decide)]
        rw [if_neg (fun q => e2 q.2)]
    · rw [decide_eq_false e1, if_neg (by decide), j1, if_neg (by decide)]
      rw [if_neg (fun q => e1 q.1)]
  | none =>
    rw [if_neg (by simp)]
    unfold cache_Store_Put.J1
    rw [if_neg (by decide)]
    show (if (mget m.m s).isSome = true then _ else _) = _
    rw [hg, if_neg (by simp)]
    show _ = some (if (m.m.length : Int) ≥ m.room then (80 : Int) else 0, if (if (m.m.length : Int) ≥ m.room then (80 : Int) else 0) = 0 ∧ (none : Option S_cache_rows) = none then _ else m)
    by_cases c6 : (m.m.length : Int) ≥ m.room
    · rw [if_pos c6, if_pos c6, if_neg (fun q => absurd q.1 (by decide))]
    · rw [if_neg c6, if_neg c6, clone8_is _ hk2, Option.bind_some, clone8_is _ hv, Option.bind_some, if_pos ⟨rfl, rfl⟩]
theorem get_some {m : S_cache_Store} {s : S_api_Spot} {r : S_cache_rows} (h : mget m.m s = some r) (h1 : r.k.length ≤ 100000) (h2 : r.v.length ≤ 100000) : cache_Store_Get m s = some (r.k, r.v, true) := by
  unfold cache_Store_Get
  show (some ((mget m.m s).getD ⟨[], []⟩)).bind (fun y9 => (slices_Clone_s_int8_int8 y9.k).bind fun r20 => (slices_Clone_s_int8_int8 y9.v).bind fun r26 => some (r20, r26, (mget m.m s).isSome)) = _
  rw [h, Option.bind_some, Option.getD_some, clone8_is _ h1, Option.bind_some, clone8_is _ h2, Option.bind_some]
  rfl
theorem get_none {m : S_cache_Store} {s : S_api_Spot} (h : mget m.m s = none) : cache_Store_Get m s = some ([], [], false) := by
  unfold cache_Store_Get
  show (some ((mget m.m s).getD ⟨[], []⟩)).bind (fun y9 => (slices_Clone_s_int8_int8 y9.k).bind fun r20 => (slices_Clone_s_int8_int8 y9.v).bind fun r26 => some (r20, r26, (mget m.m s).isSome)) = _
  rw [h, Option.bind_some, Option.getD_none]
  rfl
theorem line_is {N : Nat} (m : S_cache_Store) (req ly : Int) (n : Nat) (hn : n < N) (hn2 : n ≤ 10000) (f : Nat → S_cache_rows) (hf : ∀ p, p < n → mget m.m ⟨req, ly, (p : Int)⟩ = some (f p)) (he : mget m.m ⟨req, ly, (n : Int)⟩ = none) (hl : ∀ p, p < n → (f p).k.length ≤ 100000 ∧ (f p).v.length ≤ 100000) :
    cache_Store_Line N m req ly = some (tabl n fun p => (f p).k, tabl n fun p => (f p).v) := by
  unfold cache_Store_Line
  refine loop_c (fun q (s : List (List Int) × List (List Int)) i => cache_Store_Line.L1 m req ly q s.1 s.2 i) (fun i => (tabl i fun p => (f p).k, tabl i fun p => (f p).v)) n _ (fun q i hi => ?_) (fun q => ?_) N hn
  · show cache_Store_Line.L1 m req ly (q + 1) (tabl i _) (tabl i _) (i : Int) = cache_Store_Line.L1 m req ly q (tabl (i + 1) _) (tabl (i + 1) _) _
    obtain ⟨h1, h2⟩ := hl i hi
    rw [cache_Store_Line.L1, get_some (hf i hi) h1 h2, Option.bind_some, if_pos rfl, app_ok _ _ (by rw [tabl_len]; simp only [List.length_cons, List.length_nil]; omega), Option.bind_some, app_ok _ _ (by rw [tabl_len]; simp only [List.length_cons, List.length_nil]; omega), Option.bind_some, W_succ i (by omega), tabl_succ, tabl_succ]
  · show cache_Store_Line.L1 m req ly (q + 1) _ _ (n : Int) = _
    rw [cache_Store_Line.L1, get_none he, Option.bind_some, if_neg (by decide)]
end Go.Proofs.YtbfiagimgokccaaGreat
end
section
namespace Go.Proofs.YtbfiagimgokccaaGreat
open Go Go.Hp
set_option linter.unusedVariables false
set_option linter.unusedSimpArgs false
set_option linter.unusedSectionVars false
def layS (d : Dim) (w : S_api_Weights) (c : Cu) (s p : Nat) (ly : Int) : Option S_api_Block := if ((lb d c s : Nat) : Int) ≤ ly ∧ ly < ((lb d c (s + 1) : Nat) : Int) then some (blkS d c p (w.Blocks.getD ly.toNat zB)) else none
section
variable {d : Dim} (hd : DOK d) (hp0 : 0 < d.pl) {c : Cu} (hc : COK d c) {w : S_api_Weights} (hw : WOK d w)
include hd hp0 hc hw
theorem bfits_is {N : Nat} (hN : 10 < N) (s p : Nat) (hs : s < c.st) (hp : p < c.pa) (x : List Int) : block_fits N (takeS d w c s p) x = some (decide (x.length = d.w)) := by
  unfold block_fits
  show (part_Right N [takeS d w c s p]).bind _ = _
  rw [right13_is hd hp0 hc hw hN s p hs hp, Option.bind_some, if_pos rfl]
  show some (decide (((x.length : Nat) : Int) = ((d.w : Nat) : Int))) = _
  congr 1
  rw [decide_eq_decide]
  omega
theorem blayer_is (s p : Nat) (hs : s < c.st) (hp : p < c.pa) (ly : Int) : block_layer (takeS d w c s p) ly = some (match layS d w c s p ly with | some b => (b, true) | none => (zB, false)) := by
  obtain ⟨l1, l2⟩ := lb_fit hd hc s hs
  have hly := hd.ly
  unfold block_layer
  show (slice_Layers (shapeS d) (cutS c) (s : Int)).bind _ = _
  rw [slayers_is hd hp0 hc s hs, Option.bind_some, if_neg (fun q => q rfl)]
  show (if ly < ((lb d c s : Nat) : Int) then some (zB, false) else if ly ≥ ((lb d c (s + 1) : Nat) : Int) then some (zB, false) else (idx (takeS d w c s p).Blocks (IntKind.i64.wrap (ly - ((lb d c s : Nat) : Int)))).bind fun y => some (y, true)) = _
  unfold layS
  by_cases c1 : ly < ((lb d c s : Nat) : Int)
  · rw [if_pos c1, if_neg (fun q => by omega)]
  rw [if_neg c1]
  by_cases c2 : ly ≥ ((lb d c (s + 1) : Nat) : Int)
  · rw [if_pos c2, if_neg (fun q => by omega)]
  rw [if_neg c2, if_pos ⟨by omega, by omega⟩]
  obtain ⟨n, rfl⟩ : ∃ n : Nat, ly = n := ⟨ly.toNat, by omega⟩
  have e : IntKind.i64.wrap ((n : Int) - ((lb d c s : Nat) : Int)) = ((n - lb d c s : Nat) : Int) := by rw [W_in (by omega)]; omega
  have e2 : idx (takeS d w c s p).Blocks ((n - lb d c s : Nat) : Int) = some (blkS d c p (w.Blocks.getD (lb d c s + (n - lb d c s)) zB)) := idx_t _ (by omega)
  rw [e, e2, Option.bind_some, Int.toNat_natCast, show lb d c s + (n - lb d c s) = n by omega]
theorem layS_ok (s p : Nat) (hs : s < c.st) (hp : p < c.pa) (ly : Int) (b : S_api_Block) (h : layS d w c s p ly = some b) : BP d c b ∧ 0 ≤ ly ∧ ly < d.ly := by
  obtain ⟨l1, l2⟩ := lb_fit hd hc s hs
  unfold layS at h
  by_cases c1 : ((lb d c s : Nat) : Int) ≤ ly ∧ ly < ((lb d c (s + 1) : Nat) : Int)
  · rw [if_pos c1] at h
    injection h with h
    subst h
    exact ⟨blkS_ok hd hc p hp (hw.blocks _ (getD_in _ _ _ (by have := hw.blen; omega))), by omega, by omega⟩
  · rw [if_neg c1] at h
    cases h
end
structure SW (g : S_api_Spot → Option S_cache_rows) (len pl : Nat) : Prop where
  len : ∀ s r, g s = some r → r.k.length = len ∧ r.v.length = len
  place : ∀ s r, g s = some r → 0 ≤ s.Place ∧ s.Place < pl
  down : ∀ s r, g s = some r → 0 < s.Place → ∃ r', g ⟨s.Request, s.Layer, s.Place - 1⟩ = some r'
theorem SW.all {g : S_api_Spot → Option S_cache_rows} {len pl : Nat} (h : SW g len pl) (req ly : Int) : ∀ n : Nat, (∃ r, g ⟨req, ly, (n : Int)⟩ = some r) → ∀ p : Nat, p ≤ n → ∃ r, g ⟨req, ly, (p : Int)⟩ = some r := by
  intro n
  induction n with
  | zero => intro e p hp; obtain rfl : p = 0 := by omega
            exact e
  | succ n ih =>
    intro ⟨r, e⟩ p hp
    rcases Nat.lt_or_ge n p with q | q
    · obtain rfl : p = n + 1 := by omega
      exact ⟨r, e⟩
    · refine ih ?_ p q
      obtain ⟨r', e'⟩ := h.down _ _ e (by show (0 : Int) < ((n + 1 : Nat) : Int); omega)
      refine ⟨r', ?_⟩
      rw [← e']
      congr 2
      show (n : Int) = ((n + 1 : Nat) : Int) - 1
      omega
theorem SW.ends {g : S_api_Spot → Option S_cache_rows} {len pl : Nat} (h : SW g len pl) (req ly : Int) : ∃ n : Nat, n ≤ pl ∧ (∀ p : Nat, p < n → ∃ r, g ⟨req, ly, (p : Int)⟩ = some r) ∧ g ⟨req, ly, (n : Int)⟩ = none := by
  have key : ∀ n : Nat, (∀ p : Nat, p < n → ∃ r, g ⟨req, ly, (p : Int)⟩ = some r) ∨ ∃ k : Nat, k < n ∧ (∀ p : Nat, p < k → ∃ r, g ⟨req, ly, (p : Int)⟩ = some r) ∧ g ⟨req, ly, (k : Int)⟩ = none := by
    intro n
    induction n with
    | zero => exact .inl fun p hp => by omega
    | succ n ih =>
      rcases ih with q | ⟨k, q1, q2, q3⟩
      · cases e : g ⟨req, ly, (n : Int)⟩ with
        | none => exact .inr ⟨n, by omega, q, e⟩
        | some r =>
          refine .inl fun p hp => ?_
          rcases Nat.lt_or_ge p n with z | z
          · exact q p z
          · obtain rfl : p = n := by omega
            exact ⟨r, e⟩
      · exact .inr ⟨k, by omega, q2, q3⟩
  rcases key (pl + 1) with q | ⟨k, q1, q2, q3⟩
  · obtain ⟨r, e⟩ := q pl (by omega)
    have := (h.place _ _ e).2
    exact absurd this (by show ¬ (pl : Int) < (pl : Int); omega)
  · exact ⟨k, by omega, q2, q3⟩
theorem mget_putM (m : S_cache_Store) (s : S_api_Spot) (k v : List Int) (t : S_api_Spot) : mget (putM m s k v).m t = if putE m.room m.m.length (mget m.m) s k v = 0 ∧ mget m.m s = none ∧ t = s then some ⟨k, v⟩ else mget m.m t := by
  unfold putM
  by_cases c1 : putE m.room m.m.length (mget m.m) s k v = 0 ∧ mget m.m s = none
  · rw [if_pos c1]
    show mget (mset m.m s ⟨k, v⟩) t = _
    rw [mget_mset]
    by_cases c2 : t = s
    · rw [if_pos c2, if_pos ⟨c1.1, c1.2, c2⟩]
    · rw [if_neg c2, if_neg (fun q => c2 q.2.2)]
  · rw [if_neg c1, if_neg (fun q => c1 ⟨q.1, q.2.1⟩)]
end Go.Proofs.YtbfiagimgokccaaGreat
end
section
namespace Go.Proofs.YtbfiagimgokccaaGreat
open Go Go.Hp
set_option linter.unusedVariables false
set_option linter.unusedSimpArgs false
set_option linter.unusedSectionVars false
theorem putE_0 {room : Int} {n : Nat} {g : S_api_Spot → Option S_cache_rows} {s : S_api_Spot} {k v : List Int} (h : putE room n g s k v = 0) : 0 ≤ s.Request ∧ 0 ≤ s.Layer ∧ 0 ≤ s.Place ∧ (0 < s.Place → ∃ r, g ⟨s.Request, s.Layer, s.Place - 1⟩ = some r) ∧ (g s = none ∨ g s = some ⟨k, v⟩) := by
  unfold putE at h
  by_cases c1 : s.Request < 0
  · rw [if_pos c1] at h; exact absurd h (by decide)
  rw [if_neg c1] at h
  by_cases c2 : s.Layer < 0
  · rw [if_pos c2] at h; exact absurd h (by decide)
  rw [if_neg c2] at h
  by_cases c3 : s.Place < 0
  · rw [if_pos c3] at h; exact absurd h (by decide)
  rw [if_neg c3] at h
  by_cases c4 : k.length ≠ v.length
  · rw [if_pos c4] at h; exact absurd h (by decide)
  rw [if_neg c4] at h
  by_cases c5 : s.Place > 0 ∧ g ⟨s.Request, s.Layer, s.Place - 1⟩ = none
  · rw [if_pos c5] at h; exact absurd h (by decide)
  rw [if_neg c5] at h
  refine ⟨by omega, by omega, by omega, fun q => ?_, ?_⟩
  · cases e : g ⟨s.Request, s.Layer, s.Place - 1⟩ with
    | none => exact absurd ⟨q, e⟩ c5
    | some r => exact ⟨r, rfl⟩
  · cases e : g s with
    | none => exact .inl rfl
    | some r =>
      rw [e] at h
      by_cases c6 : r.k = k ∧ r.v = v
      · right; rw [← c6.1, ← c6.2]
      · have : (if r.k = k ∧ r.v = v then (0 : Int) else 2) = 0 := h
        rw [if_neg c6] at this
        exact absurd this (by decide)
theorem putE_congr {room room' : Int} {n n' : Nat} {g g' : S_api_Spot → Option S_cache_rows} (s : S_api_Spot) (k v : List Int) (h : ∀ t, t.Request = s.Request → g t = g' t) (hn : (n : Int) ≥ room ↔ (n' : Int) ≥ room') : putE room n g s k v = putE room' n' g' s k v := by
  unfold putE
  rw [h s rfl, h ⟨s.Request, s.Layer, s.Place - 1⟩ rfl]
  by_cases c : (n : Int) ≥ room
  · have c' := hn.1 c
    simp only [if_pos c, if_pos c']
  · have c' : ¬ (n' : Int) ≥ room' := fun q => c (hn.2 q)
    simp only [if_neg c, if_neg c']
def Laid (room : Int) (n : Nat) (g g' : S_api_Spot → Option S_cache_rows) (s : S_api_Spot) (k v : List Int) : Prop := ∀ t, g' t = if putE room n g s k v = 0 ∧ g s = none ∧ t = s then some ⟨k, v⟩ else g t
theorem Laid.at {room : Int} {n : Nat} {g g' : S_api_Spot → Option S_cache_rows} {s : S_api_Spot} {k v : List Int} (h : Laid room n g g' s k v) (h0 : putE room n g s k v = 0) : g' s = some ⟨k, v⟩ := by
  obtain ⟨_, _, _, _, e⟩ := putE_0 h0
  rw [h s]
  rcases e with e | e
  · rw [if_pos ⟨h0, e, rfl⟩]
  · rw [if_neg (fun q => by rw [e] at q; cases q.2.1), e]
theorem Laid.keeps {room : Int} {n : Nat} {g g' : S_api_Spot → Option S_cache_rows} {s : S_api_Spot} {k v : List Int} (h : Laid room n g g' s k v) {t : S_api_Spot} {r : S_cache_rows} (e : g t = some r) : g' t = some r := by
  rw [h t, if_neg (fun q => by have := q.2.2; subst this; rw [e] at q; cases q.2.1), e]
theorem Laid.other {room : Int} {n : Nat} {g g' : S_api_Spot → Option S_cache_rows} {s : S_api_Spot} {k v : List Int} (h : Laid room n g g' s k v) {t : S_api_Spot} (e : t ≠ s) : g' t = g t := by
  rw [h t, if_neg (fun q => e q.2.2)]
theorem SW.put {g g' : S_api_Spot → Option S_cache_rows} {len pl : Nat} (h : SW g len pl) {room : Int} {n : Nat} {s : S_api_Spot} {k v : List Int} (hl : Laid room n g g' s k v) (hk : k.length = len) (hv : v.length = len) (hpl : s.Place < pl) : SW g' len pl := by
  have cases_ : ∀ t r, g' t = some r → g t = some r ∨ (putE room n g s k v = 0 ∧ t = s ∧ r = ⟨k, v⟩) := by
    intro t r e
    rw [hl t] at e
    by_cases c : putE room n g s k v = 0 ∧ g s = none ∧ t = s
    · rw [if_pos c] at e
      injection e with e
      exact .inr ⟨c.1, c.2.2, e.symm⟩
    · rw [if_neg c] at e
      exact .inl e
  refine ⟨fun t r e => ?_, fun t r e => ?_, fun t r e h0 => ?_⟩
  · rcases cases_ t r e with e | ⟨_, _, rfl⟩
    · exact h.len t r e
    · exact ⟨hk, hv⟩
  · rcases cases_ t r e with e | ⟨e0, rfl, _⟩
    · exact h.place t r e
    · exact ⟨(putE_0 e0).2.2.1, hpl⟩
  · rcases cases_ t r e with e | ⟨e0, rfl, _⟩
    · obtain ⟨r', e'⟩ := h.down t r e h0
      exact ⟨r', hl.keeps e'⟩
    · obtain ⟨r', e'⟩ := (putE_0 e0).2.2.2.1 h0
      exact ⟨r', hl.keeps e'⟩
theorem laid_m (m : S_cache_Store) (s : S_api_Spot) (k v : List Int) : Laid m.room m.m.length (mget m.m) (mget (putM m s k v).m) s k v := mget_putM m s k v
theorem Laid.same {room room' : Int} {n n' : Nat} {g g' h h' : S_api_Spot → Option S_cache_rows} {s : S_api_Spot} {k v : List Int} (a : Laid room n g g' s k v) (b : Laid room' n' h h' s k v) (e : ∀ t, t.Request = s.Request → g t = h t) (hn : (n : Int) ≥ room ↔ (n' : Int) ≥ room') : ∀ t, t.Request = s.Request → g' t = h' t := by
  intro t ht
  rw [a t, b t, putE_congr s k v e hn, e s rfl, e t ht]
end Go.Proofs.YtbfiagimgokccaaGreat
end
section
namespace Go.Proofs.YtbfiagimgokccaaGreat
open Go Go.Hp
set_option linter.unusedVariables false
set_option linter.unusedSimpArgs false
set_option linter.unusedSectionVars false
theorem headG_congr (wd : Nat) (Ks Vs Ks' Vs' : Nat → List Int) (n : Nat) (q : List Int) (h : Nat) (e : ∀ p, p < n → Ks p = Ks' p ∧ Vs p = Vs' p) : headG wd Ks Vs n q h = headG wd Ks' Vs' n q h := by
  unfold headG
  rw [tabl_congr fun p hp => by rw [(e p hp).1], tabl_congr (f := fun p => part (Vs p) wd h) fun p hp => by rw [(e p hp).2]]
theorem take_getD {α : Type} (l : List α) (n k : Nat) (z : α) (h : k < n) : (l.take n).getD k z = l.getD k z := by
  rw [List.getD_eq_getElem?_getD, List.getElem?_take, if_pos h, ← List.getD_eq_getElem?_getD]
theorem bheads_is {N : Nat} (hN : 300 < N) (H wd dw : Nat) (hwd : 0 < wd) (hb : H * wd ≤ 200) (hdw : dw ≤ 200) (place : Nat) (hpl : place ≤ 40) (at_ : S_api_Spot) (hat : at_.Place = (place : Int)) (b : S_api_Block) (hO : matR b.O dw (H * wd)) (q : List Int) (hq : q.length = H * wd) (e : Int × S_cache_Store) (ks vs : List (List Int)) (hks : place < ks.length) (hvs : place < vs.length) (f : Nat → S_cache_rows)
    (hf : ∀ p, p ≤ place → ks.getD p [] = (f p).k ∧ vs.getD p [] = (f p).v ∧ (f p).k.length = H * wd ∧ (f p).v.length = H * wd) :
    block_Attend.L1 N at_ (b, true) (wd : Int) q e (ks, vs) N [] 0 = some (applyS b.O (attG wd (fun p => (f p).k) (fun p => (f p).v) (place + 1) q H) dw (H * wd), 0, e.2) := by
  have ep : IntKind.i64.wrap (at_.Place + 1) = ((place + 1 : Nat) : Int) := by rw [hat, W_succ place (by omega)]
  have hH : H ≤ 200 := Nat.le_trans (Nat.le_mul_of_pos_right H hwd) hb
  obtain ⟨m', s', hs, e1⟩ := loop_to (fun m (s : List Int) i => block_Attend.L1 N at_ (b, true) (wd : Int) q e (ks, vs) m s i) (fun i => ((i * wd : Nat) : Int)) H (fun i s => s = attG wd (fun p => (f p).k) (fun p => (f p).v) (place + 1) q i) (fun m h s hh hs => by
    subst hs
    refine ⟨_, rfl, ?_⟩
    have hal := attG_len wd (fun p => (f p).k) (fun p => (f p).v) (place + 1) q h
    have hhw : (h + 1) * wd ≤ H * wd := Nat.mul_le_mul_right _ (by omega)
    have hsm : (h + 1) * wd = h * wd + wd := Nat.succ_mul _ _
    obtain ⟨q1, q2, q3, q4⟩ := patG wd H q h hq hh (by omega)
    have ew : IntKind.i64.wrap (((h * wd : Nat) : Int) + (wd : Int)) = (((h + 1) * wd : Nat) : Int) := by rw [W_in (by omega)]; omega
    have hd := bhead_is hN wd H (place + 1) hb (by omega) (by omega) q hq (ks.take (place + 1)) (vs.take (place + 1)) (by simp; omega) (by simp; omega) (fun p hp => by rw [take_getD _ _ _ _ hp, (hf p (by omega)).1]; exact (hf p (by omega)).2.2.1) (fun p hp => by rw [take_getD _ _ _ _ hp, (hf p (by omega)).2.1]; exact (hf p (by omega)).2.2.2) h hh
    rw [headG_congr wd _ _ (fun p => (f p).k) (fun p => (f p).v) (place + 1) q h (fun p hp => ⟨by rw [take_getD _ _ _ _ hp, (hf p (by omega)).1], by rw [take_getD _ _ _ _ hp, (hf p (by omega)).2.1]⟩)] at hd
    show block_Attend.L1 N at_ (b, true) (wd : Int) q e (ks, vs) (m + 1) _ ((h * wd : Nat) : Int) = _
    rw [block_Attend.L1, if_pos (by omega), chk_ok _ ⟨q1, q2, q3⟩, ep]
    dsimp only
    rw [chk_ok _ (by omega), chk_ok _ (by omega), q4, Int.toNat_natCast, hd, Option.bind_some, app_ok _ _ (by rw [hal, headG_len]; omega), Option.bind_some, Option.bind_some, ew]
    rfl) N [] (by omega) rfl
  have e0 : ((0 * wd : Nat) : Int) = 0 := by simp
  rw [show block_Attend.L1 N at_ (b, true) (wd : Int) q e (ks, vs) N [] 0 = block_Attend.L1 N at_ (b, true) (wd : Int) q e (ks, vs) N [] ((0 * wd : Nat) : Int) by rw [e0]]
  refine Eq.trans e1 ?_
  subst hs
  show block_Attend.L1 N at_ (b, true) (wd : Int) q e (ks, vs) (m' + 1) _ ((H * wd : Nat) : Int) = _
  rw [block_Attend.L1, if_neg (by omega)]
  show (matmul_Apply N b.O _).bind _ = _
  rw [papply_is hO hdw hb (by omega) _ (attG_len _ _ _ _ _ _), Option.bind_some]
end Go.Proofs.YtbfiagimgokccaaGreat
end
section
namespace Go.Proofs.YtbfiagimgokccaaGreat
open Go Go.Hp
set_option linter.unusedVariables false
set_option linter.unusedSimpArgs false
set_option linter.unusedSectionVars false
def zR : S_cache_rows := ⟨[], []⟩
def qG (d : Dim) (H : Nat) (b : S_api_Block) (place : Nat) (x : List Int) : List Int := turnedS place d.wd (quantsS b.Q (normS b.First x) (H * d.wd) d.w) H
def kG (d : Dim) (H : Nat) (b : S_api_Block) (place : Nat) (x : List Int) : List Int := turnedS place d.wd (quantsS b.K (normS b.First x) (H * d.wd) d.w) H
def vG (d : Dim) (H : Nat) (b : S_api_Block) (x : List Int) : List Int := quantsS b.V (normS b.First x) (H * d.wd) d.w
def ansG (d : Dim) (H : Nat) (b : S_api_Block) (g : S_api_Spot → Option S_cache_rows) (req ly : Int) (place : Nat) (x : List Int) : List Int :=
  applyS b.O (attG d.wd (fun p => ((g ⟨req, ly, (p : Int)⟩).getD zR).k) (fun p => ((g ⟨req, ly, (p : Int)⟩).getD zR).v) (place + 1) (qG d H b place x) H) d.w (H * d.wd)
section
variable {d : Dim} (hd : DOK d) (hp0 : 0 < d.pl) {c : Cu} (hc : COK d c) {w : S_api_Weights} (hw : WOK d w)
include hd hp0 hc hw
theorem hwd16 : hpa d c * d.wd ≤ 16 ∧ 0 < hpa d c := by
  obtain ⟨h0, h1⟩ := hpa_pos hd hc
  have h2 : hpa d c ≤ d.h := by unfold hpa; exact Nat.div_le_self _ _
  have h3 : hpa d c * d.wd ≤ d.h * d.wd := Nat.mul_le_mul_right _ h2
  have := hd.w
  exact ⟨by omega, h0⟩
theorem kG_len (b : S_api_Block) (place : Nat) (x : List Int) : (kG d (hpa d c) b place x).length = hpa d c * d.wd := turnedS_len _ _ _ _ (quantsS_len _ _ _ _) hd.wd.2.1 _ (Nat.le_refl _)
theorem qG_len (b : S_api_Block) (place : Nat) (x : List Int) : (qG d (hpa d c) b place x).length = hpa d c * d.wd := turnedS_len _ _ _ _ (quantsS_len _ _ _ _) hd.wd.2.1 _ (Nat.le_refl _)
theorem vG_len (b : S_api_Block) (x : List Int) : (vG d (hpa d c) b x).length = hpa d c * d.wd := quantsS_len _ _ _ _
theorem battend_is {N : Nat} (hN : 300 < N) (s p : Nat) (hs : s < c.st) (hp : p < c.pa) (x : List Int) (hx : x.length = d.w) (req ly : Int) (b : S_api_Block) (hb : layS d w c s p ly = some b) (place : Nat) (hpl : place < d.pl) (m : S_cache_Store) (hm : SW (mget m.m) (hpa d c * d.wd) d.pl) :
    block_Attend N (takeS d w c s p) m ⟨req, ly, (place : Int)⟩ x = some (if putE m.room m.m.length (mget m.m) ⟨req, ly, (place : Int)⟩ (kG d (hpa d c) b place x) (vG d (hpa d c) b x) = 0 then (ansG d (hpa d c) b (mget (putM m ⟨req, ly, (place : Int)⟩ (kG d (hpa d c) b place x) (vG d (hpa d c) b x)).m) req ly place x, 0, putM m ⟨req, ly, (place : Int)⟩ (kG d (hpa d c) b place x) (vG d (hpa d c) b x))
      else ([], putE m.room m.m.length (mget m.m) ⟨req, ly, (place : Int)⟩ (kG d (hpa d c) b place x) (vG d (hpa d c) b x), putM m ⟨req, ly, (place : Int)⟩ (kG d (hpa d c) b place x) (vG d (hpa d c) b x))) := by
  have hpl2 := hd.pl; have hww := dw16 hd; have hh := hd.h; have hwd := hd.wd
  obtain ⟨h16, hH0⟩ := hwd16 hd hp0 hc hw
  obtain ⟨hB, l0, l1⟩ := layS_ok hd hp0 hc hw s p hs hp ly b hb
  have hdw : d.w = d.h * d.wd := rfl
  have hw0 : 0 < d.w := by rw [hdw]; exact Nat.mul_pos hh.1 hwd.1
  have hH : hpa d c ≤ 16 := Nat.le_trans (Nat.le_mul_of_pos_right _ hwd.1) h16
  have hal : (normS b.First x).length = d.w := by rw [normS_len, hx]
  unfold block_Attend
  show (block_fits N (takeS d w c s p) x).bind _ = _
  rw [bfits_is hd hp0 hc hw (by omega) s p hs hp x, Option.bind_some, decide_eq_true hx, if_pos rfl]
  show (block_layer (takeS d w c s p) ly).bind _ = _
  rw [blayer_is hd hp0 hc hw s p hs hp ly, hb, Option.bind_some, if_pos rfl]
  show (if ((place : Nat) : Int) < 0 then _ else if ((place : Nat) : Int) ≥ (d.pl : Int) then _ else chk ((d.h : Int) ≠ 0) ((some (IntKind.i64.wrap (Int.tdiv ((d.w : Nat) : Int) (d.h : Int)))).bind _)) = _
  rw [if_neg (by omega), if_neg (by omega), chk_ok _ (by omega), ewd13 hd, Option.bind_some, pnorm_is (by omega) b.First x (by rw [hB.first, hx]) (by omega) (by omega), Option.bind_some]
  show (block_quants N b.Q (normS b.First x)).bind _ = _
  rw [pquants_is hB.q (by omega) (by omega) (by omega) _ hal, Option.bind_some, pturned_is (by omega) place d.wd (hpa d c) (by omega) _ (quantsS_len _ _ _ _) (by omega) hwd.1 hwd.2.1 (by omega), Option.bind_some]
  show (block_quants N b.K (normS b.First x)).bind _ = _
  rw [pquants_is hB.k (by omega) (by omega) (by omega) _ hal, Option.bind_some, pturned_is (by omega) place d.wd (hpa d c) (by omega) _ (quantsS_len _ _ _ _) (by omega) hwd.1 hwd.2.1 (by omega), Option.bind_some]
  show (block_quants N b.V (normS b.First x)).bind _ = _
  rw [pquants_is hB.v (by omega) (by omega) (by omega) _ hal, Option.bind_some]
  show (cache_Store_Put N m ⟨req, ly, (place : Int)⟩ (kG d (hpa d c) b place x) (vG d (hpa d c) b x)).bind _ = _
  have lk := kG_len hd hp0 hc hw b place x
  have lv := vG_len hd hp0 hc hw b x
  have lq := qG_len hd hp0 hc hw b place x
  rw [put_is m _ _ _ (by show (place : Int) ≤ 1000000; omega) (by omega) (by omega) (by omega) (fun t r e => by have := hm.len t r e; omega), Option.bind_some]
  generalize hk : kG d (hpa d c) b place x = k at *
  generalize hv : vG d (hpa d c) b x = v at *
  by_cases h0 : putE m.room m.m.length (mget m.m) ⟨req, ly, (place : Int)⟩ k v = 0
  · rw [if_pos h0]
    show (if putE m.room m.m.length (mget m.m) ⟨req, ly, (place : Int)⟩ k v ≠ 0 then _ else (cache_Store_Line N (putM m ⟨req, ly, (place : Int)⟩ k v) req ly).bind _) = _
    rw [if_neg (fun q => q h0), h0]
    have hl := laid_m m ⟨req, ly, (place : Int)⟩ k v
    have hsw := hm.put hl lk lv (by show (place : Int) < (d.pl : Int); omega)
    generalize putM m ⟨req, ly, (place : Int)⟩ k v = m' at *
    obtain ⟨n, n1, n2, n3⟩ := hsw.ends req ly
    have hat := hl.at h0
    have hpn : place < n := by
      rcases Nat.lt_or_ge place n with q | q
      · exact q
      · obtain ⟨r, e⟩ := hsw.all req ly place ⟨_, hat⟩ n q
        rw [n3] at e; cases e
    have hf : ∀ p : Nat, p < n → mget m'.m ⟨req, ly, (p : Int)⟩ = some ((mget m'.m ⟨req, ly, (p : Int)⟩).getD zR) ∧ ((mget m'.m ⟨req, ly, (p : Int)⟩).getD zR).k.length = hpa d c * d.wd ∧ ((mget m'.m ⟨req, ly, (p : Int)⟩).getD zR).v.length = hpa d c * d.wd := fun p hp => by
      obtain ⟨r, e⟩ := n2 p hp
      rw [e, Option.getD_some]
      exact ⟨rfl, hsw.len _ _ e⟩
    rw [line_is m' req ly n (by omega) (by omega) (fun p => (mget m'.m ⟨req, ly, (p : Int)⟩).getD zR) (fun p hp => (hf p hp).1) n3 (fun p hp => by have := (hf p hp).2; omega), Option.bind_some]
    exact bheads_is hN (hpa d c) d.wd d.w hwd.1 (by omega) (by omega) place (by omega) ⟨req, ly, (place : Int)⟩ rfl b hB.o (qG d (hpa d c) b place x) lq (0, m') _ _ (by rw [tabl_len]; exact hpn) (by rw [tabl_len]; exact hpn) (fun p => (mget m'.m ⟨req, ly, (p : Int)⟩).getD zR) (fun p hp => ⟨tabl_getD _ _ _ _ (by omega), tabl_getD _ _ _ _ (by omega), (hf p (by omega)).2⟩)
  · rw [if_neg h0]
    show (if putE m.room m.m.length (mget m.m) ⟨req, ly, (place : Int)⟩ k v ≠ 0 then _ else _) = _
    rw [if_pos h0]
end
end Go.Proofs.YtbfiagimgokccaaGreat
end
