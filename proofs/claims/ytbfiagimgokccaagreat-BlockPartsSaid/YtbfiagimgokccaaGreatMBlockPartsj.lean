/- What the law needs. -/
import Derived.Test.YtbfiagimgokccaaGreatMBlockPartsi
import Derived.Test.YtbfiagimgokccaaGreatMBlockPartsa
import Derived.Laws.BitsLemmas
import Derived.Lib.BitFns
section
namespace Go.Proofs.YtbfiagimgokccaaGreat
open Go Go.RowKit Go.Hp
set_option linter.unusedVariables false
set_option linter.unusedSimpArgs false
set_option maxRecDepth 100000
set_option maxHeartbeats 8000000

def law13_BlockParts.J4 (r12 : (S_api_Weights × S_api_Cut)) (j56 : Int) (j57 : Int) (j58 : Int) (j59 : Int) (j60 : Int) (j61 : Int) (j62 : Int) (j63 : Int) (j64 : Int) (j65 : Int) (j66 : Int) (j67 : Int) (j68 : (List Int)) (j72 : (List S_api_Block)) (j76 : (List Int)) (j80 : Int) (j81 : Int) (j82 : (List Int)) (j137 : Int) (y140 : S_law13_Act) (z167 : (List Int)) (r183 : ((List Int) × Int × S_ref12_Store)) (k2 : S_ref12_Store → S_cache_Store → Int → Option (Bool)) (j242 : S_cache_Store) : Option (Bool) :=
  (block_Attend_nil1 (⟨(⟨j56, j57, j58, j59, j60, j61⟩ : S_api_Shape), (⟨j62, j63⟩ : S_api_Cut), j64, j65, (⟨j66, j67, j68⟩ : S_api_Mat), j72, j76, (⟨j80, j81, j82⟩ : S_api_Mat)⟩ : S_api_Shard) y140.At (z167.take (r12.1.Shape.Width).toNat)).bind fun r266 =>
  if r266.2 ≠ 1 then
    some false
  else
    k2 r183.2.2 j242 (IntKind.i64.wrap (j137 + 1))

def law13_BlockParts.J3 (N : Nat) (r12 : (S_api_Weights × S_api_Cut)) (j56 : Int) (j57 : Int) (j58 : Int) (j59 : Int) (j60 : Int) (j61 : Int) (j62 : Int) (j63 : Int) (j64 : Int) (j65 : Int) (j66 : Int) (j67 : Int) (j68 : (List Int)) (j72 : (List S_api_Block)) (j76 : (List Int)) (j80 : Int) (j81 : Int) (j82 : (List Int)) (j137 : Int) (y140 : S_law13_Act) (z167 : (List Int)) (r177 : ((List Int) × Int × S_cache_Store)) (r183 : ((List Int) × Int × S_ref12_Store)) (k2 : S_ref12_Store → S_cache_Store → Int → Option (Bool)) : Option (Bool) :=
  if ((y140.X.length : Nat) : Int) ≠ r12.1.Shape.Width then
    (block_Attend N (⟨(⟨j56, j57, j58, j59, j60, j61⟩ : S_api_Shape), (⟨j62, j63⟩ : S_api_Cut), j64, j65, (⟨j66, j67, j68⟩ : S_api_Mat), j72, j76, (⟨j80, j81, j82⟩ : S_api_Mat)⟩ : S_api_Shard) r177.2.2 y140.At y140.X).bind fun r244 =>
    (block_Widen N (⟨(⟨j56, j57, j58, j59, j60, j61⟩ : S_api_Shape), (⟨j62, j63⟩ : S_api_Cut), j64, j65, (⟨j66, j67, j68⟩ : S_api_Mat), j72, j76, (⟨j80, j81, j82⟩ : S_api_Mat)⟩ : S_api_Shard) y140.At.Layer y140.X).bind fun r250 =>
    (block_Leave N (⟨(⟨j56, j57, j58, j59, j60, j61⟩ : S_api_Shape), (⟨j62, j63⟩ : S_api_Cut), j64, j65, (⟨j66, j67, j68⟩ : S_api_Mat), j72, j76, (⟨j80, j81, j82⟩ : S_api_Mat)⟩ : S_api_Shard) y140.X).bind fun r256 =>
    if r244.2.1 ≠ 30 then
      some false
    else
      if r250.2 ≠ 30 then
        some false
      else
        if r256.2 ≠ 30 then
          some false
        else
          law13_BlockParts.J4 r12 j56 j57 j58 j59 j60 j61 j62 j63 j64 j65 j66 j67 j68 j72 j76 j80 j81 j82 j137 y140 z167 r183 k2 r244.2.2
  else
    law13_BlockParts.J4 r12 j56 j57 j58 j59 j60 j61 j62 j63 j64 j65 j66 j67 j68 j72 j76 j80 j81 j82 j137 y140 z167 r183 k2 r177.2.2

def law13_BlockParts.L2 (N : Nat) (x1 : (List S_law13_Act)) (r12 : (S_api_Weights × S_api_Cut)) (j56 : Int) (j57 : Int) (j58 : Int) (j59 : Int) (j60 : Int) (j61 : Int) (j62 : Int) (j63 : Int) (j64 : Int) (j65 : Int) (j66 : Int) (j67 : Int) (j68 : (List Int)) (j72 : (List S_api_Block)) (j76 : (List Int)) (j80 : Int) (j81 : Int) (j82 : (List Int)) : Nat → S_ref12_Store → S_cache_Store → Int → Option (Bool)
  | 0, _, _, _ => none
  | m2 + 1, j135, j136, j137 =>
    if j137 < ((x1.length : Nat) : Int) then
      (idx x1 j137).bind fun y140 =>
      if ((y140.X.length : Nat) : Int) > 200 then
        some true
      else
        (app ([]) y140.X).bind fun z159 =>
        chk (0 ≤ r12.1.Shape.Width ∧ r12.1.Shape.Width ≤ 4294967296) <|
        (app z159 (List.replicate (r12.1.Shape.Width).toNat 0)).bind fun z167 =>
        chk (0 ≤ r12.1.Shape.Width ∧ r12.1.Shape.Width ≤ ((z167.length : Nat) : Int)) <|
        (block_Attend N (⟨(⟨j56, j57, j58, j59, j60, j61⟩ : S_api_Shape), (⟨j62, j63⟩ : S_api_Cut), j64, j65, (⟨j66, j67, j68⟩ : S_api_Mat), j72, j76, (⟨j80, j81, j82⟩ : S_api_Mat)⟩ : S_api_Shard) j136 (⟨y140.At.Request, y140.At.Layer, y140.At.Place⟩ : S_api_Spot) (z167.take (r12.1.Shape.Width).toNat)).bind fun r177 =>
        (ref13_Attend N (⟨(⟨j56, j57, j58, j59, j60, j61⟩ : S_api_Shape), (⟨j62, j63⟩ : S_api_Cut), j64, j65, (⟨j66, j67, j68⟩ : S_api_Mat), j72, j76, (⟨j80, j81, j82⟩ : S_api_Mat)⟩ : S_api_Shard) j135 (⟨y140.At.Request, y140.At.Layer, y140.At.Place⟩ : S_api_Spot) (z167.take (r12.1.Shape.Width).toNat)).bind fun r183 =>
        if r177.2.1 ≠ r183.2.1 then
          some false
        else
          (ref04_Ints N r177.1 r183.1).bind fun r193 =>
          if r193 = true then
            (cache_Store_Len r177.2.2).bind fun r196 =>
            if r196 ≠ ((r183.2.2.L.length : Nat) : Int) then
              some false
            else
              (block_Widen N (⟨(⟨j56, j57, j58, j59, j60, j61⟩ : S_api_Shape), (⟨j62, j63⟩ : S_api_Cut), j64, j65, (⟨j66, j67, j68⟩ : S_api_Mat), j72, j76, (⟨j80, j81, j82⟩ : S_api_Mat)⟩ : S_api_Shard) y140.At.Layer (z167.take (r12.1.Shape.Width).toNat)).bind fun r199 =>
              (ref13_Widen N (⟨(⟨j56, j57, j58, j59, j60, j61⟩ : S_api_Shape), (⟨j62, j63⟩ : S_api_Cut), j64, j65, (⟨j66, j67, j68⟩ : S_api_Mat), j72, j76, (⟨j80, j81, j82⟩ : S_api_Mat)⟩ : S_api_Shard) y140.At.Layer (z167.take (r12.1.Shape.Width).toNat)).bind fun r205 =>
              if r199.2 ≠ r205.2 then
                some false
              else
                (ref04_Ints N r199.1 r205.1).bind fun r212 =>
                if r212 = true then
                  (block_Leave N (⟨(⟨j56, j57, j58, j59, j60, j61⟩ : S_api_Shape), (⟨j62, j63⟩ : S_api_Cut), j64, j65, (⟨j66, j67, j68⟩ : S_api_Mat), j72, j76, (⟨j80, j81, j82⟩ : S_api_Mat)⟩ : S_api_Shard) (z167.take (r12.1.Shape.Width).toNat)).bind fun r215 =>
                  if j64 ≠ (IntKind.i64.wrap (r12.2.Stages - 1)) then
                    if r215.2 ≠ 121 then
                      some false
                    else
                      if ((r215.1.length : Nat) : Int) ≠ 0 then
                        some false
                      else
                        law13_BlockParts.J3 N r12 j56 j57 j58 j59 j60 j61 j62 j63 j64 j65 j66 j67 j68 j72 j76 j80 j81 j82 j137 y140 z167 r177 r183 (law13_BlockParts.L2 N x1 r12 j56 j57 j58 j59 j60 j61 j62 j63 j64 j65 j66 j67 j68 j72 j76 j80 j81 j82 m2)
                  else
                    (ref05_Norm N r12.1.Last (z167.take (r12.1.Shape.Width).toNat)).bind fun r223 =>
                    (ref04_Apply N (⟨r12.1.Head.Rows, r12.1.Head.Cols, r12.1.Head.V⟩ : S_api_Mat) r223).bind fun r229 =>
                    if r215.2 ≠ 0 then
                      some false
                    else
                      (ref04_Ints N r215.1 r229.1).bind fun r236 =>
                      if r236 = true then
                        law13_BlockParts.J3 N r12 j56 j57 j58 j59 j60 j61 j62 j63 j64 j65 j66 j67 j68 j72 j76 j80 j81 j82 j137 y140 z167 r177 r183 (law13_BlockParts.L2 N x1 r12 j56 j57 j58 j59 j60 j61 j62 j63 j64 j65 j66 j67 j68 j72 j76 j80 j81 j82 m2)
                      else
                        some false
                else
                  some false
          else
            some false
    else
      some true

def law13_BlockParts.J1 (N : Nat) (x1 : (List S_law13_Act)) (r12 : (S_api_Weights × S_api_Cut)) (y43 : S_cache_Store) (j54 : S_ref12_Store) (j56 : Int) (j57 : Int) (j58 : Int) (j59 : Int) (j60 : Int) (j61 : Int) (j62 : Int) (j63 : Int) (j64 : Int) (j65 : Int) (j66 : Int) (j67 : Int) (j68 : (List Int)) (j72 : (List S_api_Block)) (j76 : (List Int)) (j80 : Int) (j81 : Int) (j82 : (List Int)) : Option (Bool) :=
  law13_BlockParts.L2 N x1 r12 j56 j57 j58 j59 j60 j61 j62 j63 j64 j65 j66 j67 j68 j72 j76 j80 j81 j82 N j54 y43 0

def law13_BlockParts (N : Nat) (x0 : S_law13_Seeds) (x1 : (List S_law13_Act)) (x2 : Int) : Option (Bool) :=
  (law13_awake N).bind fun r4 =>
  if r4 = true then
    if ((x1.length : Nat) : Int) > 20 then
      (law13_awake N).bind fun r277 =>
      some r277
    else
      if x2 < 0 then
        (law13_awake N).bind fun r275 =>
        some r275
      else
        if x2 > 1000 then
          (law13_awake N).bind fun r273 =>
          some r273
        else
          (law13_made N x0).bind fun r12 =>
          (some (IntKind.i64.wrap (r12.2.Stages * r12.2.Parts))).bind fun e38 =>
          (cache_New x2).bind fun r39 =>
          optc r39.1 (
            some false) fun y43 =>
          if r39.2 ≠ 0 then
            some false
          else
            chk (e38 ≠ 0) <|
            chk (e38 ≠ 0) <|
            (some (Int.tmod (IntKind.i64.wrap ((Int.tmod (IntKind.i64.wrap ((IntKind.i64.wrap ((Int.tmod x0.A 100) * 7)) + (Int.tmod x0.B 100))) e38) + e38)) e38)).bind fun e53 =>
            chk (r12.2.Parts ≠ 0) <|
            (ref11_Take N r12.1 r12.2 (IntKind.i64.wrap (Int.tdiv e53 r12.2.Parts)) (Int.tmod e53 r12.2.Parts)).bind fun r100191 =>
            law13_BlockParts.J1 N x1 r12 y43 (⟨x2, []⟩ : S_ref12_Store) r100191.Shape.Layers r100191.Shape.Width r100191.Shape.Heads r100191.Shape.Inner r100191.Shape.Vocab r100191.Shape.Places r100191.Cut.Stages r100191.Cut.Parts r100191.Stage r100191.Part r100191.Embed.Rows r100191.Embed.Cols r100191.Embed.V r100191.Blocks r100191.Last r100191.Head.Rows r100191.Head.Cols r100191.Head.V
  else
    (law13_awake N).bind fun r7 =>
    some r7

theorem law13_BlockParts_any {N nx1 qx1 : Nat} {x0 : S_law13_Seeds} {x1 : (List S_law13_Act)} {ax1 : Option Addr} {P1 : HP} {x2 : Int} {Fr : List HP} {w : World} {r : Bool} {K : Value → World → Prop} (hrd1 : Reads P1 S_law13_Act.pr (.slice ax1 nx1 qx1) x1) (hc : Ctx w (P1 :: Fr)) (hp : law13_BlockParts N x0 x1 x2 = some r)
    (k : ∀ w', Ctx w' (P1 :: Fr) → K (.bool r) w') : Calls Tryz.prog 4 #[.agg (S_law13_Seeds.cz x0).toArray, .slice ax1 nx1 qx1, .int .i64 x2] w (Ret K) := by
 unfold law13_BlockParts at hp; refine Center3 F4 M4 rfl rfl ?_; obtain ⟨hn1, _⟩ := Ctx.rdLen hc (k := 0) rfl rfl hrd1; subst hn1; refine Wseq (Wreg ?_); refine rsE (Ctx.boxOp (cs := (S_law13_Seeds.cz x0)) (v := .agg (S_law13_Seeds.cz x0).toArray) hc rfl rfl) rfl ?_; clear hc; rintro _ w3 ⟨b1, rfl, hc⟩; refine au 1 rfl <| rn (qn (Wseq (Wseq (Wreg ?_)))); replace hp := bind_some hp; obtain ⟨r4, hr4, hp⟩ := hp; refine kz C7 ?_; refine law13_awake_any hc hr4 ?_; clear hc; intro w5 hc; cases hb6 : r4
 · replace hp := gneg hp (by rw [hb6]; exact Bool.false_ne_true); subst hb6; refine au 2 rfl ?_; (iterate 3 refine r0 rfl ?_); refine au 2 rfl ?_; (iterate 2 refine r0 rfl ?_); refine au 2 rfl ?_; (iterate 2 refine r0 rfl ?_); refine au 1 rfl <| rn (qn (Wct rfl (Wseq (Wreg ?_)))); replace hp := bind_some hp; obtain ⟨r7, hr7, hp⟩ := hp; refine kz C7 ?_; refine law13_awake_any hc hr7 ?_; clear hc; intro w8 hc; refine au 1 rfl <| rn (qn (Wret (qr ?_))); replace hc := hc.m [1]; obtain rfl := sj hp; exact fz R4 M4 (k _ hc)
 · replace hp := gpos hp hb6; subst hb6; refine au 3 rfl <| sz (ln rfl U60) <| au 3 rfl ?_; cases hb9 : (decide (((x1.length : Nat) : Int) > 20))
   · replace hp := gneg hp (of_decide_eq_false hb9); refine au 4 rfl ?_; cases hb10 : (decide (x2 < 0))
     · replace hp := gneg hp (of_decide_eq_false hb10); refine au 3 rfl <| rn (qn ?_); refine Wif hp (fun _ h => ?_) fun _ h => ?_
       · replace hp := h; clear h; refine Wskip (qn (Wseq (Wreg ?_))); refine lg G25 Z25 hc 0 ?_; replace hp := bind_some hp; obtain ⟨r12, hr12, hp⟩ := hp; refine kz C8 ?_; refine law13_made_any (x0 := x0) hc hr12 ?_; clear hc; intro a13 n14 q15 a16 n17 q18 a19 n20 q21 a22 n23 q24 w25 hc; obtain rfl := hc.rz 0 reads_ro; obtain rfl := hc.rz 1 reads_ro; obtain rfl := hc.rz 2 reads_ro; obtain rfl := hc.rz 3 reads_ro; refine au 3 rfl ?_; refine rsE (Ctx.allocOp (cs := [.int .i64 0, .int .i64 0, .int .i64 0, .int .i64 0, .int .i64 0, .int .i64 0, .int .i64 0, .int .i64 0, .slice none 0 0, .slice none 0 0, .slice none 0 0, .int .i64 0, .int .i64 0, .slice none 0 0]) hc V35 rfl) rfl ?_; clear hc; rintro _ w32 ⟨b30, rfl, hc⟩; refine rsE (Ctx.allocOp (cs := [.int .i64 0, .int .i64 0]) hc V37 rfl) rfl ?_; clear hc; rintro _ w35 ⟨b33, rfl, hc⟩; refine pa hc 1 Z35 ?_; clear hc; rintro w36 hc; refine pa hc 0 Z37 ?_; clear hc; rintro w37 hc; refine rn (qn (Wseq (Wreg ?_))); refine fq 0 U37 Z3 G3 hc 0 ?_; refine fq 1 U37 Z3 G3 hc 0 ?_; refine au 1 rfl ?_; replace hp := bind_some hp; obtain ⟨e38, he38, hp⟩ := hp; injection he38 with he38; refine sz (v := .int .i64 e38) (av (v := .int .i64 e38) (by rw [← he38]; rfl)) <| rn (qn (Wseq (Wreg ?_))); refine au 1 rfl ?_; replace hp := bind_some hp; obtain ⟨r39, hr39, hp⟩ := hp; refine kz C10 ?_; refine cache_New_any hc hr39 ?_; clear hc; intro v40 w41 hc; refine au 5 rfl <| rn (qn (Wseq (Wseq (Wreg ?_)))); refine au 1 rfl ?_; cases hb42 : r39.1
         · replace hp := optN hp hb42; rw [hb42] at hc; replace hc := Ctx.ptoN hc; obtain ⟨u44, hc⟩ := hc; subst u44; refine sz (v := .bool true) (ept U43 rfl rfl) <| au 1 rfl ?_; (iterate 2 refine r0 rfl ?_); refine au 1 rfl <| rn (qn (Wct rfl (Wseq (Wreg ?_)))); refine au 1 rfl <| rn (qn (Wret (qr ?_))); replace hc := hc.m [13, 11, 9, 7, 5, 3, 1]; obtain rfl := sj hp; exact fz R4 M4 (k _ hc)
         · rename_i y43; replace hp := optS hp hb42; rw [hb42] at hc; replace hc := Ctx.ptoS hc; obtain ⟨b45, u46, hc⟩ := hc; subst u46; refine sz (v := .bool false) (epf U43 rfl rfl) <| au 4 rfl <| rn (qn ?_); refine Wif hp (fun _ h => ?_) fun _ h => ?_
           · replace hp := h; clear h; refine Wskip (qn (Wseq (Wreg ?_))); refine au 1 rfl <| sz (v := .agg #[.int .i64 x2, .slice none 0 0]) (bd_50_0 rfl) ?_; refine rsE (Ctx.boxOp (cs := [.int .i64 x2, .slice none 0 0]) (v := .agg #[.int .i64 x2, .slice none 0 0]) hc rfl rfl) rfl ?_; clear hc; rintro _ w50 ⟨b48, rfl, hc⟩; refine au 1 rfl <| rn (qn (Wseq (Wreg ?_))); refine fq 7 U25 Z3 G3 hc 8 ?_; refine sz (rm rfl rfl (by decide)) <| au 1 rfl ?_; refine fq 8 U25 Z3 G3 hc 8 ?_; refine sz (rm rfl rfl (by decide)) <| au 2 rfl ?_; replace hp := chk_some hp; obtain ⟨hg51, hp⟩ := hp; refine sz (rm rfl rfl hg51) <| au 3 rfl ?_; replace hp := chk_some hp; obtain ⟨hg52, hp⟩ := hp; refine sz (rm rfl rfl hg52) ?_; replace hp := bind_some hp; obtain ⟨e53, he53, hp⟩ := hp; injection he53 with he53; refine sz (v := .int .i64 e53) (av (v := .int .i64 e53) (by rw [← he53]; rfl)) <| rn (qn ?_); refine Wseqm (rg [14, 1, 86, 11]) [14] (fun vs w' => ∃ j54 : S_ref12_Store, ∃ j56 : Int, ∃ j57 : Int, ∃ j58 : Int, ∃ j59 : Int, ∃ j60 : Int, ∃ j61 : Int, ∃ j62 : Int, ∃ j63 : Int, ∃ j64 : Int, ∃ j65 : Int, ∃ j66 : Int, ∃ j67 : Int, ∃ j68 : (List Int), ∃ j72 : (List S_api_Block), ∃ j76 : (List Int), ∃ j80 : Int, ∃ j81 : Int, ∃ j82 : (List Int), ∃ b55 : Nat, ∃ a69 n70, ∃ q71 a73, ∃ n74 q75, ∃ a77 n78, ∃ q79 a83, ∃ n84 q85, vs = [pt b55 0] ∧ law13_BlockParts.J1 N x1 r12 y43 j54 j56 j57 j58 j59 j60 j61 j62 j63 j64 j65 j66 j67 j68 j72 j76 j80 j81 j82 = some r ∧ Ctx w' (S_ref12_Store.hp b48 j54 :: S_cache_Store.hp b45 y43 :: B b33 [.int .i64 r12.2.Stages, .int .i64 r12.2.Parts] 37 :: B b30 (S_api_Weights.cz r12.1 a13 q15 a16 q18 a19 q21 a22 q24) 35 :: hR .i8 a13 q15 r12.1.Embed.V :: hS S_api_Block.pr a16 q18 r12.1.Blocks :: hR .i8 a19 q21 r12.1.Last :: hR .i8 a22 q24 r12.1.Head.V :: P1 :: Hold (pRo (pInt .i8)) [.slice a69 n70 q71] j68 :: Hold (pRo S_api_Block.pr) [.slice a73 n74 q75] j72 :: Hold (pRo (pInt .i8)) [.slice a77 n78 q79] j76 :: Hold (pRo (pInt .i8)) [.slice a83 n84 q85] j82 :: B b55 [.int .i64 j56, .int .i64 j57, .int .i64 j58, .int .i64 j59, .int .i64 j60, .int .i64 j61, .int .i64 j62, .int .i64 j63, .int .i64 j64, .int .i64 j65, .int .i64 j66, .int .i64 j67, .slice a69 n70 q71, .slice a73 n74 q75, .slice a77 n78 q79, .int .i64 j80, .int .i64 j81, .slice a83 n84 q85] 41 :: Fr)) ?_ ?_
             · replace hp := chk_some hp; obtain ⟨hg100190, hp⟩ := hp; replace hp := bind_some hp; obtain ⟨r100191, hr100191, hp⟩ := hp; refine Wrg rfl ?_; refine RGsplit 10 11 rfl ?_ ?_
               · replace hc := hc.drew; refine RGleaf [0, 1, 2, 3, 4, 5, 6, 7, 8, 9, 10, 11, 12] (fun j w' => True) [0, 0, 0, 0, 8, 28, 0, 0, 128, 448, 1023, 2047, 4095] 0 275 (by kernel_rfl) (by kernel_rfl) (fun _ _ => trivial) ?_; generalize hw : World.drew w50 = w86 at *; clear hw; refine dx (v := .agg (S_api_Weights.cz r12.1 a13 q15 a16 q18 a19 q21 a22 q24).toArray) rfl (ldg rfl G35 Z35 rfl (Ctx.cells hc (k := 3) rfl rfl 0 (vs := (S_api_Weights.cz r12.1 a13 q15 a16 q18 a19 q21 a22 q24)) rfl)) rfl rfl <| dx (v := .agg #[.int .i64 r12.2.Stages, .int .i64 r12.2.Parts]) rfl (ldg rfl G37 Z37 rfl (Ctx.cells hc (k := 2) rfl rfl 0 (vs := [.int .i64 r12.2.Stages, .int .i64 r12.2.Parts]) rfl)) rfl rfl <| ad_ 1 rfl <| ds (v := pt b33 1) rfl (fun w' hF => fax 1 rfl U37 rfl Z3 rfl rfl rfl) rfl <| dx rfl (ld rfl G3 (Ctx.cell hc (k := 2) rfl rfl rfl)) rfl rfl <| ds rfl (fun w' hF => quw rfl rfl hg100190) rfl <| ad_ 1 rfl <| ds (v := pt b33 1) rfl (fun w' hF => fax 1 rfl U37 rfl Z3 rfl rfl rfl) rfl <| dx rfl (ld rfl G3 (Ctx.cell hc (k := 2) rfl rfl rfl)) rfl rfl <| ds rfl (fun w' hF => rm rfl rfl hg100190) rfl ?_; replace hc := hc.dz 4; replace hc := hc.dz 6; replace hc := hc.dz 8; replace hc := hc.dz 10; replace hc := hc.m [2, 4, 6]; refine dc (cl C9 rfl rfl) rfl rfl ?_; refine ref11_Take_any (x0 := r12.1) (x1 := r12.2) hc hr100191 ?_; clear hc; intro a87 n88 q89 a90 n91 q92 a93 n94 q95 a96 n97 q98 w99 hc; obtain rfl := hc.rz 0 reads_ro; obtain rfl := hc.rz 1 reads_ro; obtain rfl := hc.rz 2 reads_ro; obtain rfl := hc.rz 3 reads_ro; refine ⟨fun j hj hb => trivial, ?_⟩; refine deE (Ctx.allocOp (cs := [.int .i64 0, .int .i64 0, .int .i64 0, .int .i64 0, .int .i64 0, .int .i64 0, .int .i64 0, .int .i64 0, .int .i64 0, .int .i64 0, .int .i64 0, .int .i64 0, .slice none 0 0, .slice none 0 0, .slice none 0 0, .int .i64 0, .int .i64 0, .slice none 0 0]) hc V41 rfl) rfl rfl ?_; clear hc; rintro _ w106 ⟨b104, rfl, hc⟩; refine ⟨fun j hj hb => trivial, ?_⟩; refine pad hc 0 Z41 ?_; clear hc; rintro w107 hc; refine ⟨fun j hj hb => trivial, ?_⟩; refine dn (qn ?_); replace hc := hc.nilOwn S_ref12_Row.pr 119; replace hc := hc.m [12]; replace hc := S_ref12_Store.fd (x := (⟨x2, []⟩ : S_ref12_Store)) hc; replace hc := hc.dz 2; replace hc := hc.dz 4; replace hc := hc.dz 6; replace hc := hc.dz 8; replace hc := hc.m [35, 19, 17, 15, 13, 10, 2, 4, 6, 8, 26, 26, 26, 26, 26, 26, 26, 26, 26]; exact ⟨⟨(⟨x2, []⟩ : S_ref12_Store), r100191.Shape.Layers, r100191.Shape.Width, r100191.Shape.Heads, r100191.Shape.Inner, r100191.Shape.Vocab, r100191.Shape.Places, r100191.Cut.Stages, r100191.Cut.Parts, r100191.Stage, r100191.Part, r100191.Embed.Rows, r100191.Embed.Cols, r100191.Embed.V, r100191.Blocks, r100191.Last, r100191.Head.Rows, r100191.Head.Cols, r100191.Head.V, b104, a87, r100191.Embed.V.length, q89, a90, r100191.Blocks.length, q92, a93, r100191.Last.length, q95, a96, r100191.Head.V.length, q98, rfl, hp, hc⟩, (kl rfl kb)⟩
               · replace hc := hc.drew; refine RGleaf [0, 1, 2, 3, 4, 5, 6, 7, 8, 9, 11, 10, 12] (fun j w' => (j = 0 → ∀ j v, ((S_api_Weights.cz r12.1 a13 q15 a16 q18 a19 q21 a22 q24) : List Value)[j]? = some v → w'.cell? ((⟨b30, 0, none⟩ : Addr).add j) = some v) ∧ (j = 1 → ∀ j v, ([.int .i64 r12.2.Stages, .int .i64 r12.2.Parts] : List Value)[j]? = some v → w'.cell? ((⟨b33, 0, none⟩ : Addr).add j) = some v) ∧ (j = 4 → w'.cell? ⟨b33, 1, none⟩ = some (.int .i64 r12.2.Parts)) ∧ (j = 8 → w'.cell? ⟨b33, 1, none⟩ = some (.int .i64 r12.2.Parts)) ∧ True) [0, 0, 0, 0, 8, 28, 0, 0, 128, 448, 0, 2047, 4095] 0 0 (by kernel_rfl) (by kernel_rfl) (fun j hj => ⟨fun _ => Ctx.cells hc (k := 3) rfl rfl 0 (vs := (S_api_Weights.cz r12.1 a13 q15 a16 q18 a19 q21 a22 q24)) rfl, fun _ => Ctx.cells hc (k := 2) rfl rfl 0 (vs := [.int .i64 r12.2.Stages, .int .i64 r12.2.Parts]) rfl, fun _ => hc.cell (k := 2) rfl rfl rfl, fun _ => hc.cell (k := 2) rfl rfl rfl, trivial⟩) ?_; generalize hw : World.drew w50 = w108 at *; clear hw; refine ds (v := .agg (S_api_Weights.cz r12.1 a13 q15 a16 q18 a19 q21 a22 q24).toArray) rfl (fun w' hF => ldg rfl G35 Z35 rfl (hF.1 rfl)) rfl <| ds (v := .agg #[.int .i64 r12.2.Stages, .int .i64 r12.2.Parts]) rfl (fun w' hF => ldg rfl G37 Z37 rfl (hF.2.1 rfl)) rfl <| ad_ 1 rfl <| ds (v := pt b33 1) rfl (fun w' hF => fax 1 rfl U37 rfl Z3 rfl rfl rfl) rfl <| ds rfl (fun w' hF => ld rfl G3 ((hF.2.2.1 rfl))) rfl <| ds rfl (fun w' hF => quw rfl rfl hg100190) rfl <| ad_ 1 rfl <| ds (v := pt b33 1) rfl (fun w' hF => fax 1 rfl U37 rfl Z3 rfl rfl rfl) rfl <| ds rfl (fun w' hF => ld rfl G3 ((hF.2.2.2.1 rfl))) rfl <| ds rfl (fun w' hF => rm rfl rfl hg100190) rfl ?_; refine deE (Ctx.allocOp (cs := [.int .i64 0, .int .i64 0, .int .i64 0, .int .i64 0, .int .i64 0, .int .i64 0, .int .i64 0, .int .i64 0, .int .i64 0, .int .i64 0, .int .i64 0, .int .i64 0, .slice none 0 0, .slice none 0 0, .slice none 0 0, .int .i64 0, .int .i64 0, .slice none 0 0]) hc V41 rfl) rfl rfl ?_; clear hc; rintro _ w111 ⟨b109, rfl, hc⟩; refine ⟨fun j hj hb => ⟨fun _ => Ctx.cells hc (k := 4) rfl rfl 0 (vs := (S_api_Weights.cz r12.1 a13 q15 a16 q18 a19 q21 a22 q24)) rfl, fun _ => Ctx.cells hc (k := 3) rfl rfl 0 (vs := [.int .i64 r12.2.Stages, .int .i64 r12.2.Parts]) rfl, fun _ => hc.cell (k := 3) rfl rfl rfl, fun _ => hc.cell (k := 3) rfl rfl rfl, trivial⟩, ?_⟩; replace hc := hc.dz 5; replace hc := hc.dz 7; replace hc := hc.dz 9; replace hc := hc.dz 11; replace hc := hc.m [2, 4, 6]; refine dc (cl C9 rfl rfl) rfl rfl ?_; refine ref11_Take_any (x0 := r12.1) (x1 := r12.2) hc hr100191 ?_; clear hc; intro a112 n113 q114 a115 n116 q117 a118 n119 q120 a121 n122 q123 w124 hc; obtain rfl := hc.rz 0 reads_ro; obtain rfl := hc.rz 1 reads_ro; obtain rfl := hc.rz 2 reads_ro; obtain rfl := hc.rz 3 reads_ro; refine ⟨fun j hj hb => ⟨fun e => nja hj e, fun e => nja hj e, fun e => nja hj e, fun e => nja hj e, trivial⟩, ?_⟩; refine pad hc 4 Z41 ?_; clear hc; rintro w129 hc; refine ⟨fun j hj hb => ⟨fun e => nja hj e, fun e => nja hj e, fun e => nja hj e, fun e => nja hj e, trivial⟩, ?_⟩; refine dn (qn ?_); replace hc := hc.nilOwn S_ref12_Row.pr 119; replace hc := hc.m [12]; replace hc := S_ref12_Store.fd (x := (⟨x2, []⟩ : S_ref12_Store)) hc; replace hc := hc.dz 1; replace hc := hc.dz 3; replace hc := hc.dz 5; replace hc := hc.dz 7; replace hc := hc.m [35, 17, 15, 13, 11, 10, 2, 4, 6, 8, 26, 26, 26, 26, 26, 26, 26, 26, 26]; exact ⟨⟨(⟨x2, []⟩ : S_ref12_Store), r100191.Shape.Layers, r100191.Shape.Width, r100191.Shape.Heads, r100191.Shape.Inner, r100191.Shape.Vocab, r100191.Shape.Places, r100191.Cut.Stages, r100191.Cut.Parts, r100191.Stage, r100191.Part, r100191.Embed.Rows, r100191.Embed.Cols, r100191.Embed.V, r100191.Blocks, r100191.Last, r100191.Head.Rows, r100191.Head.Cols, r100191.Head.V, b109, a112, r100191.Embed.V.length, q114, a115, r100191.Blocks.length, q117, a118, r100191.Last.length, q120, a121, r100191.Head.V.length, q123, rfl, hp, hc⟩, (kl rfl kb)⟩
             · clear hp hc; intro vs u w130 hJ; obtain ⟨j54, j56, j57, j58, j59, j60, j61, j62, j63, j64, j65, j66, j67, j68, j72, j76, j80, j81, j82, b55, a69, n70, q71, a73, n74, q75, a77, n78, q79, a83, n84, q85, rfl, hp, hc⟩ := hJ; obtain rfl := hc.rz 9 reads_ro; obtain rfl := hc.rz 10 reads_ro; obtain rfl := hc.rz 11 reads_ro; obtain rfl := hc.rz 12 reads_ro; unfold law13_BlockParts.J1 at hp; refine Wseq (Wseq (Wreg ?_)); refine au 1 rfl <| rn (qn (Wblk ?_)); refine Wloop (rg [6, 1, 15, 17, 97, 181]) [15] (fun m vs w' => ∃ j135 : S_ref12_Store, ∃ j136 : S_cache_Store, ∃ j137 : Int, vs = [.int .i64 j137] ∧ law13_BlockParts.L2 N x1 r12 j56 j57 j58 j59 j60 j61 j62 j63 j64 j65 j66 j67 j68 j72 j76 j80 j81 j82 m j135 j136 j137 = some r ∧ Ctx w' (S_ref12_Store.hp b48 j135 :: S_cache_Store.hp b45 j136 :: B b33 [.int .i64 r12.2.Stages, .int .i64 r12.2.Parts] 37 :: B b30 (S_api_Weights.cz r12.1 a13 q15 a16 q18 a19 q21 a22 q24) 35 :: hR .i8 a13 q15 r12.1.Embed.V :: hS S_api_Block.pr a16 q18 r12.1.Blocks :: hR .i8 a19 q21 r12.1.Last :: hR .i8 a22 q24 r12.1.Head.V :: P1 :: hR .i8 a69 q71 j68 :: hS S_api_Block.pr a73 q75 j72 :: hR .i8 a77 q79 j76 :: hR .i8 a83 q85 j82 :: B b55 [.int .i64 j56, .int .i64 j57, .int .i64 j58, .int .i64 j59, .int .i64 j60, .int .i64 j61, .int .i64 j62, .int .i64 j63, .int .i64 j64, .int .i64 j65, .int .i64 j66, .int .i64 j67, .slice a69 j68.length q71, .slice a73 j72.length q75, .slice a77 j76.length q79, .int .i64 j80, .int .i64 j81, .slice a83 j82.length q85] 41 :: Fr)) N ?_ ?_
               · exact ⟨j54, y43, 0, rfl, hp, hc⟩
               · clear hp hc; intro m vs u w138 hJ; obtain ⟨j135, j136, j137, rfl, hp, hc⟩ := hJ; rcases m with _ | m2
                 · cases (show none = some r from hp)
                 rw [law13_BlockParts.L2] at hp; refine Wseq (Wseq (Wreg ?_)); refine au 2 rfl <| sz (ln rfl U60) <| au 1 rfl <| rn (qn ?_); refine Wif hp (fun _ h => ?_) fun _ h => ?_
                 · replace hp := h; clear h; refine Wexit (qx (qx (be (qn (Wseq (Wreg ?_)))))); refine au 1 rfl <| rn (qn (Wret ?_)); replace hc := hc.m [27, 25, 23, 21, 19, 15, 13, 11, 9, 7, 5, 3, 1]; obtain rfl := sj hp; exact fz R4 M4 (k _ hc)
                 · replace hp := h; clear h; refine Wskip (qn (Wseq (Wblk (Wseq (Wreg ?_))))); refine au 2 rfl ?_; replace hp := bind_some hp; obtain ⟨y140, hy140, hp⟩ := hp; obtain ⟨b143, o144, rfl, hi141, hi142⟩ := hc.ra 8 hrd1 hy140; refine sz (ixx rfl rfl U60 Z62 hi141 hi142 rfl) ?_; replace hc := Ctx.rdCell hc (k := 8) rfl rfl hrd1 hy140; obtain ⟨cs146, hc, hcell147⟩ := hc; replace hc := S_law13_Act.op hc; obtain ⟨a149, q150, u148, hc⟩ := hc; subst u148; refine sz (v := .agg (S_law13_Act.cz y140 a149 q150).toArray) (ldg rfl G62 Z62 rfl (elCells hcell147 0 (vs := (S_law13_Act.cz y140 a149 q150)) rfl)) ?_; refine rsE (Ctx.allocOp (cs := [.int .i64 0, .int .i64 0, .int .i64 0, .slice none 0 0]) hc V62 rfl) rfl ?_; clear hc; rintro _ w153 ⟨b151, rfl, hc⟩; refine pa hc 0 Z62 ?_; clear hc; rintro w154 hc; refine rn (qn (Wseq (Wseq (Wreg ?_)))); refine fq 3 U62 Z51 G51 hc 0 ?_; refine sz (ln rfl U51) <| au 1 rfl <| rn (qn ?_); refine Wif hp (fun _ h => ?_) fun _ h => ?_
                   · replace hp := h; clear h; refine Wskip (qn (Wseq ?_)); replace hc := hc.drew; refine Wdrw (fun j w' => (j = 2 → w'.cell? ⟨b151, 3, none⟩ = some (.slice a149 y140.X.length q150)) ∧ (j = 6 → w'.cell? ⟨b30, 1, none⟩ = some (.int .i64 r12.1.Shape.Width)) ∧ (j = 10 → w'.cell? ⟨b30, 1, none⟩ = some (.int .i64 r12.1.Shape.Width)) ∧ True) [0, 0, 2, 7, 0, 16, 48, 127, 0, 256, 768, 2047, 4095] 0 0 rfl (by kernel_rfl) (fun j hj => ⟨fun _ => hc.cell (k := 0) rfl rfl rfl, fun _ => hc.cell (k := 5) rfl rfl rfl, fun _ => hc.cell (k := 5) rfl rfl rfl, trivial⟩) ?_; generalize hw : World.drew w154 = w156 at *; clear hw; refine deE (Ctx.builtOp (css := []) (xs := ([] : List Int)) (E := (pInt .i32)) hc U51 Z21 V21 rfl rfl rfl rfl rfl rfl rfl rfl) rfl rfl ?_; clear hc; rintro _ w158 ⟨a157, rfl, hc⟩; refine ⟨fun j hj hb => ⟨fun _ => hc.cell (k := 1) rfl rfl rfl, fun _ => hc.cell (k := 6) rfl rfl rfl, fun _ => hc.cell (k := 6) rfl rfl rfl, trivial⟩, ?_⟩; refine ds (v := pt b151 3) rfl (fun w' hF => fax 3 rfl U62 rfl Z51 rfl rfl rfl) rfl <| ds rfl (fun w' hF => ld rfl G51 ((hF.1 rfl))) rfl ?_; replace hp := bind_some hp; obtain ⟨z159, hz159, hp⟩ := hp; obtain ⟨hg160, e161⟩ := app_some hz159; refine deE (hc.ap 0 2 reads_ro U51 Tryz.t21 hg160) rfl rfl ?_; clear hc; rintro _ w164 ⟨a162, q163, rfl, hc⟩; rw [← e161] at hc ⊢; replace hc := Ctx.n0 hc; refine ⟨fun j hj hb => ⟨fun e => nja hj e, fun _ => hc.cell (k := 6) rfl rfl rfl, fun _ => hc.cell (k := 6) rfl rfl rfl, trivial⟩, ?_⟩; refine ds (v := pt b30 0) rfl (fun w' hF => fax 0 rfl U35 rfl Z29 rfl rfl rfl) rfl <| ds (v := pt b30 1) rfl (fun w' hF => fax 1 rfl U29 rfl Z3 rfl rfl rfl) rfl <| ds rfl (fun w' hF => ld rfl G3 ((hF.2.1 rfl))) rfl ?_; replace hp := chk_some hp; obtain ⟨hg165, hp⟩ := hp; have hm166 : ((r12.1.Shape.Width).toNat : Int) = r12.1.Shape.Width := Int.toNat_of_nonneg hg165.1; replace hp := bind_some hp; obtain ⟨z167, hz167, hp⟩ := hp; obtain ⟨hg168, e169⟩ := app_some hz167; rw [List.length_replicate] at hg168; refine deE (Ctx.appendZ (x0 := 0) hc (k := 0) rfl rfl U51 U3 (i := Tryz.t21) rfl rfl rfl rfl rfl rfl rfl (fun _ _ => rfl) rfl rfl hm166 hg168) rfl rfl ?_; clear hc; rintro _ w172 ⟨a170, q171, rfl, hc⟩; rw [← e169] at hc ⊢; replace hc := Ctx.n0 hc; refine ⟨fun j hj hb => ⟨fun e => nja hj e, fun e => nja hj e, fun _ => hc.cell (k := 6) rfl rfl rfl, trivial⟩, ?_⟩; refine ds (v := pt b30 0) rfl (fun w' hF => fax 0 rfl U35 rfl Z29 rfl rfl rfl) rfl <| ds (v := pt b30 1) rfl (fun w' hF => fax 1 rfl U29 rfl Z3 rfl rfl rfl) rfl <| ds rfl (fun w' hF => ld rfl G3 ((hF.2.2.1 rfl))) rfl ?_; replace hp := chk_some hp; obtain ⟨hg173, hp⟩ := hp; obtain ⟨hl174, hq175⟩ := Ctx.rdLen hc (k := 0) rfl rfl reads_own; have rd176 := reads_pre (hv := r12.1.Shape.Width) (reads_own : Reads (oR .i32 21 a170 q171 z167) (pInt .i32) (.slice a170 z167.length q171) z167) (by omega) hq175 hl174; refine ds (v := .slice a170 ((r12.1.Shape.Width).toNat) q171) rfl (fun w' hF => run_sub0 (hv := r12.1.Shape.Width) rfl ⟨_, rfl⟩ U51 Z21 hg173 hq175) rfl <| ad_ 1 rfl <| dn (qn (Wseq (Wreg ?_))); refine lg G41 Z41 hc 16 ?_; refine au 1 rfl <| sz (v := pt b151 0) (fax 0 rfl U62 rfl Z55 rfl rfl rfl) <| lg G55 Z55 hc 1 ?_; refine au 1 rfl ?_; replace hc := hc.dz 12; replace hc := hc.dz 14; replace hc := hc.dz 16; replace hc := hc.dz 18; replace hp := bind_some hp; obtain ⟨r177, hr177, hp⟩ := hp; replace hc := hc.m [8, 16, 4, 6, 8, 10]; refine kz C11 ?_; refine block_Attend_any (x0 := (⟨(⟨j56, j57, j58, j59, j60, j61⟩ : S_api_Shape), (⟨j62, j63⟩ : S_api_Cut), j64, j65, (⟨j66, j67, j68⟩ : S_api_Mat), j72, j76, (⟨j80, j81, j82⟩ : S_api_Mat)⟩ : S_api_Shard)) (x2 := y140.At) rd176 hc hr177 ?_; clear hc; intro a178 n179 q180 w181 hc; obtain rfl := hc.rz 0 reads_own; refine au 5 rfl <| rn (qn (Wseq (Wreg ?_))); refine lg G41 Z41 hc 17 ?_; refine au 1 rfl <| sz (v := pt b151 0) (fax 0 rfl U62 rfl Z55 rfl rfl rfl) <| lg G55 Z55 hc 3 ?_; refine au 1 rfl ?_; replace hc := hc.dz 13; replace hc := hc.dz 15; replace hc := hc.dz 17; replace hc := hc.dz 19; replace hp := bind_some hp; obtain ⟨r183, hr183, hp⟩ := hp; replace hc := hc.m [12, 18, 4, 6, 8, 10]; refine kz C12 ?_; refine ref13_Attend_any (x0 := (⟨(⟨j56, j57, j58, j59, j60, j61⟩ : S_api_Shape), (⟨j62, j63⟩ : S_api_Cut), j64, j65, (⟨j66, j67, j68⟩ : S_api_Mat), j72, j76, (⟨j80, j81, j82⟩ : S_api_Mat)⟩ : S_api_Shard)) (x2 := y140.At) rd176 hc hr183 ?_; clear hc; intro a184 n185 q186 w187 hc; obtain rfl := hc.rz 0 reads_own; refine au 5 rfl <| rn (qn (Wseq (Wseq ?_))); replace hc := hc.m [2]; replace hc := S_ref12_Store.uf hc; obtain ⟨a189, q190, hc⟩ := hc; replace hc := hc.drew; refine Wdrw (fun j w' => (j = 15 → w'.cell? ⟨b48, 1, none⟩ = some (.slice a189 r183.2.2.L.length q190)) ∧ True) [0, 0, 3, 7, 15, 15, 63, 127, 255, 511, 1023, 2047, 1023, 5119, 13311, 29695, 62463, 131071, 262143] 64 0 rfl (by kernel_rfl) (fun j hj => ⟨fun e => (by subst e; exact absurd hj (by decide)), trivial⟩) ?_; generalize hw : World.drew w187 = w191 at *; clear hw; refine ad_ 4 rfl ?_; cases hb192 : (decide (r177.2.1 ≠ r183.2.1))
                     · replace hp := gneg hp (of_decide_eq_false hb192); refine ad_ 2 rfl ?_; replace hp := bind_some hp; obtain ⟨r193, hr193, hp⟩ := hp; replace hc := hc.m [4, 8]; refine dc (cl C13 rfl rfl) rfl rfl ?_; refine ref04_Ints_any reads_own reads_own hc hr193 ?_; clear hc; intro w194 hc; refine ⟨fun j hj hb => ⟨fun _ => hc.cell (k := 2) rfl rfl rfl, trivial⟩, ?_⟩; cases hb195 : r193
                       · replace hp := gneg hp (by rw [hb195]; exact Bool.false_ne_true); subst hb195; refine ad_ 3 rfl ?_; (iterate 8 refine d0 rfl rfl ?_); refine ad_ 1 rfl <| dn (qn (Wct rfl (Wseq (Wreg ?_)))); refine au 1 rfl <| rn (qn (Wret (qr (br (qr (qr (br (qr ?_)))))))); replace hc := hc.m [39, 37, 35, 33, 31, 27, 25, 23, 21, 19, 17, 15, 13, 11, 9, 7, 5, 3, 1]; obtain rfl := sj hp; exact fz R4 M4 (k _ hc)
                       · replace hp := gpos hp hb195; subst hb195; refine ad_ 4 rfl ?_; replace hp := bind_some hp; obtain ⟨r196, hr196, hp⟩ := hp; replace hc := hc.m [10]; refine dc (cl C14 rfl rfl) rfl rfl ?_; refine cache_Store_Len_any hc hr196 ?_; clear hc; intro w197 hc; refine ⟨fun j hj hb => ⟨fun _ => hc.cell (k := 3) rfl rfl rfl, trivial⟩, ?_⟩; refine ad_ 2 rfl <| ds (v := pt b48 1) rfl (fun w' hF => fax 1 rfl U50 rfl Z48 rfl rfl rfl) rfl <| ds rfl (fun w' hF => ld rfl G48 ((hF.1 rfl))) rfl <| ds rfl (fun w' hF => ln rfl U48) rfl <| ad_ 2 rfl <| dn (qn ?_); refine Wif hp (fun _ h => ?_) fun _ h => ?_
                         · replace hp := h; clear h; refine Wskip (qn (Wseq (Wreg ?_))); refine lg G41 Z41 hc 19 ?_; refine sz (v := pt b151 0) (fax 0 rfl U62 rfl Z55 rfl rfl rfl) ?_; refine fq 1 U55 Z3 G3 hc 6 ?_; refine au 1 rfl ?_; replace hc := hc.dz 15; replace hc := hc.dz 17; replace hc := hc.dz 19; replace hc := hc.dz 21; replace hp := bind_some hp; obtain ⟨r199, hr199, hp⟩ := hp; replace hc := hc.m [18, 2, 4, 6, 8]; refine kz C15 ?_; refine block_Widen_any (x0 := (⟨(⟨j56, j57, j58, j59, j60, j61⟩ : S_api_Shape), (⟨j62, j63⟩ : S_api_Cut), j64, j65, (⟨j66, j67, j68⟩ : S_api_Mat), j72, j76, (⟨j80, j81, j82⟩ : S_api_Mat)⟩ : S_api_Shard)) rd176 hc hr199 ?_; clear hc; intro a200 n201 q202 w203 hc; obtain rfl := hc.rz 0 reads_own; refine au 5 rfl <| rn (qn (Wseq (Wreg ?_))); refine lg G41 Z41 hc 20 ?_; refine sz (v := pt b151 0) (fax 0 rfl U62 rfl Z55 rfl rfl rfl) ?_; refine fq 1 U55 Z3 G3 hc 7 ?_; refine au 1 rfl ?_; replace hc := hc.dz 16; replace hc := hc.dz 18; replace hc := hc.dz 20; replace hc := hc.dz 22; replace hp := bind_some hp; obtain ⟨r205, hr205, hp⟩ := hp; replace hc := hc.m [10, 2, 4, 6, 8]; refine kz C16 ?_; refine ref13_Widen_any (x0 := (⟨(⟨j56, j57, j58, j59, j60, j61⟩ : S_api_Shape), (⟨j62, j63⟩ : S_api_Cut), j64, j65, (⟨j66, j67, j68⟩ : S_api_Mat), j72, j76, (⟨j80, j81, j82⟩ : S_api_Mat)⟩ : S_api_Shard)) rd176 hc hr205 ?_; clear hc; intro a206 n207 q208 w209 hc; obtain rfl := hc.rz 0 reads_own; refine au 5 rfl <| rn (qn (Wseq (Wseq (Wreg ?_)))); refine au 4 rfl ?_; cases hb211 : (decide (r199.2 ≠ r205.2))
                           · replace hp := gneg hp (of_decide_eq_false hb211); refine au 2 rfl ?_; replace hp := bind_some hp; obtain ⟨r212, hr212, hp⟩ := hp; replace hc := hc.m [4]; refine kz C13 ?_; refine ref04_Ints_any reads_own reads_own hc hr212 ?_; clear hc; intro w213 hc; cases hb214 : r212
                             · replace hp := gneg hp (by rw [hb214]; exact Bool.false_ne_true); subst hb214; refine au 2 rfl <| rn (qn (Wct rfl (Wseq (Wreg ?_)))); refine au 1 rfl <| rn (qn (Wret (qr (br (qr (qr (br (qr ?_)))))))); replace hc := hc.m [43, 41, 39, 37, 35, 31, 29, 27, 25, 23, 21, 19, 17, 15, 13, 11, 9, 7, 5, 3, 1]; obtain rfl := sj hp; exact fz R4 M4 (k _ hc)
                             · replace hp := gpos hp hb214; subst hb214; refine au 2 rfl <| rn (qn (Wcf rfl (Wskip (qn (Wseq (Wreg ?_)))))); refine lg G41 Z41 hc 21 ?_; refine au 1 rfl ?_; replace hc := hc.dz 17; replace hc := hc.dz 19; replace hc := hc.dz 21; replace hc := hc.dz 23; replace hp := bind_some hp; obtain ⟨r215, hr215, hp⟩ := hp; replace hc := hc.m [12, 2, 4, 6, 8]; refine kz C17 ?_; refine block_Leave_any (x0 := (⟨(⟨j56, j57, j58, j59, j60, j61⟩ : S_api_Shape), (⟨j62, j63⟩ : S_api_Cut), j64, j65, (⟨j66, j67, j68⟩ : S_api_Mat), j72, j76, (⟨j80, j81, j82⟩ : S_api_Mat)⟩ : S_api_Shard)) rd176 hc hr215 ?_; clear hc; intro a216 n217 q218 w219 hc; obtain rfl := hc.rz 0 reads_own; refine au 5 rfl <| rn (qn ?_); refine Wseqm (rg [6, 1, 28, 2, 193, 31]) [] (fun vs w' => vs = [] ∧ law13_BlockParts.J3 N r12 j56 j57 j58 j59 j60 j61 j62 j63 j64 j65 j66 j67 j68 j72 j76 j80 j81 j82 j137 y140 z167 r177 r183 (law13_BlockParts.L2 N x1 r12 j56 j57 j58 j59 j60 j61 j62 j63 j64 j65 j66 j67 j68 j72 j76 j80 j81 j82 m2) = some r ∧ Ctx w' (oR .i32 21 a170 q171 z167 :: S_cache_Store.hp b45 r177.2.2 :: S_ref12_Store.hp b48 r183.2.2 :: B b151 (S_law13_Act.cz y140 a149 q150) 62 :: hR .i32 a149 q150 y140.X :: B b33 [.int .i64 r12.2.Stages, .int .i64 r12.2.Parts] 37 :: B b30 (S_api_Weights.cz r12.1 a13 q15 a16 q18 a19 q21 a22 q24) 35 :: hR .i8 a13 q15 r12.1.Embed.V :: hS S_api_Block.pr a16 q18 r12.1.Blocks :: hR .i8 a19 q21 r12.1.Last :: hR .i8 a22 q24 r12.1.Head.V :: P1 :: hR .i8 a69 q71 j68 :: hS S_api_Block.pr a73 q75 j72 :: hR .i8 a77 q79 j76 :: hR .i8 a83 q85 j82 :: B b55 [.int .i64 j56, .int .i64 j57, .int .i64 j58, .int .i64 j59, .int .i64 j60, .int .i64 j61, .int .i64 j62, .int .i64 j63, .int .i64 j64, .int .i64 j65, .int .i64 j66, .int .i64 j67, .slice a69 j68.length q71, .slice a73 j72.length q75, .slice a77 j76.length q79, .int .i64 j80, .int .i64 j81, .slice a83 j82.length q85] 41 :: Fr)) ?_ ?_
                               · refine Wseq (Wreg ?_); refine fq 8 U41 Z3 G3 hc 22 ?_; refine fq 0 U37 Z3 G3 hc 11 ?_; refine au 2 rfl <| rn (qn ?_); refine Wif hp (fun _ h => ?_) fun _ h => ?_
                                 · replace hp := h; clear h; refine Wseq ?_; replace hc := hc.drew; refine Wdrw (fun j w' => (j = 1 → ∀ j v, ((S_api_Mat.cz r12.1.Head a22 q24) : List Value)[j]? = some v → w'.cell? ((⟨b30, 11, none⟩ : Addr).add j) = some v) ∧ True) [0, 1, 0, 4, 0, 28, 63, 127, 255, 255, 511, 2047] 0 8 rfl (by kernel_rfl) (fun j hj => ⟨fun _ => Ctx.cells hc (k := 12) rfl rfl 11 (vs := (S_api_Mat.cz r12.1.Head a22 q24)) rfl, trivial⟩) ?_; generalize hw : World.drew w219 = w222 at *; clear hw; refine ds (v := pt b30 11) rfl (fun w' hF => fax 11 rfl U35 rfl Z32 rfl rfl rfl) rfl <| ds (v := .agg (S_api_Mat.cz r12.1.Head a22 q24).toArray) rfl (fun w' hF => ldg rfl G32 Z32 rfl (hF.1 rfl)) rfl <| ds (v := pt b30 10) rfl (fun w' hF => fax 10 rfl U35 rfl Z30 rfl rfl rfl) rfl <| dx rfl (ld rfl G30 (Ctx.cell hc (k := 12) rfl rfl rfl)) rfl rfl <| ad_ 1 rfl ?_; replace hc := hc.dz 15; replace hp := bind_some hp; obtain ⟨r223, hr223, hp⟩ := hp; replace hc := hc.m [4, 2]; refine dc (cl C19 rfl rfl) rfl rfl ?_; refine ref05_Norm_any reads_ro rd176 hc hr223 ?_; clear hc; intro a224 n225 q226 w227 hc; obtain rfl := hc.rz 0 reads_own; refine ⟨fun j hj hb => ⟨fun _ => Ctx.cells hc (k := 14) rfl rfl 11 (vs := (S_api_Mat.cz r12.1.Head a22 q24)) rfl, trivial⟩, ?_⟩; replace hc := hc.dz 18; replace hp := bind_some hp; obtain ⟨r229, hr229, hp⟩ := hp; replace hc := hc.m [2, 2]; refine dc (cl C18 rfl rfl) rfl rfl ?_; refine ref04_Apply_any (x0 := r12.1.Head) reads_own hc hr229 ?_; clear hc; intro a230 n231 q232 w233 hc; obtain rfl := hc.rz 0 reads_own; refine ⟨fun j hj hb => ⟨fun e => nja hj e, trivial⟩, ?_⟩; refine ad_ 5 rfl <| dn (qn (Wseq (Wreg ?_))); refine au 3 rfl ?_; cases hb235 : (decide (r215.2 ≠ 0))
                                   · replace hp := gneg hp (of_decide_eq_false hb235); refine au 2 rfl ?_; replace hp := bind_some hp; obtain ⟨r236, hr236, hp⟩ := hp; replace hc := hc.m [8]; refine kz C13 ?_; refine ref04_Ints_any reads_own reads_own hc hr236 ?_; clear hc; intro w237 hc; cases hb238 : r236
                                     · replace hp := gneg hp (by rw [hb238]; exact Bool.false_ne_true); subst hb238; refine au 2 rfl <| rn (qn (Wct rfl (Wseq (Wreg ?_)))); refine au 1 rfl <| rn (qn (Wret (qr (br (qr (qr (br (qr ?_)))))))); replace hc := hc.m [51, 49, 47, 45, 43, 39, 37, 35, 33, 31, 29, 27, 25, 23, 21, 19, 17, 15, 13, 11, 9, 7, 5, 3, 1]; obtain rfl := sj hp; exact fz R4 M4 (k _ hc)
                                     · replace hp := gpos hp hb238; subst hb238; refine au 2 rfl <| rn (qn (Wcf rfl (Wskip (qn ?_)))); replace hc := hc.m [22, 22]; replace hc := S_ref12_Store.fd (x := r183.2.2) hc; replace hc := hc.m [21, 19, 15, 13, 9, 7, 5, 3, 32, 32, 32, 32, 32, 32, 32, 32, 32, 32, 32, 32, 32, 32, 28, 32, 32]; exact ⟨⟨rfl, hp, hc⟩, (kl rfl kb)⟩
                                   · replace hp := gpos hp (of_decide_eq_true hb235); (iterate 4 refine r0 rfl ?_); refine au 1 rfl <| rn (qn (Wct rfl (Wseq (Wreg ?_)))); refine au 1 rfl <| rn (qn (Wret (qr (br (qr (qr (br (qr ?_)))))))); replace hc := hc.m [51, 49, 47, 45, 43, 39, 37, 35, 33, 31, 29, 27, 25, 23, 21, 19, 17, 15, 13, 11, 9, 7, 5, 3, 1]; obtain rfl := sj hp; exact fz R4 M4 (k _ hc)
                                 · replace hp := h; clear h; refine Wseq (Wreg ?_); refine au 3 rfl ?_; cases hb239 : (decide (r215.2 ≠ 121))
                                   · replace hp := gneg hp (of_decide_eq_false hb239); refine au 1 rfl <| sz (ln rfl U51) <| au 2 rfl <| rn (qn ?_); refine Wif hp (fun _ h => ?_) fun _ h => ?_
                                     · replace hp := h; clear h; refine Wskip (qn ?_); replace hc := hc.m [16, 16]; replace hc := S_ref12_Store.fd (x := r183.2.2) hc; replace hc := hc.m [15, 13, 9, 7, 3, 32, 32, 32, 32, 32, 32, 32, 32, 32, 32, 32, 32, 32, 32, 28, 32, 32]; exact ⟨⟨rfl, hp, hc⟩, (kl rfl kb)⟩
                                     · replace hp := h; clear h; refine Wseq (Wreg ?_); refine au 1 rfl <| rn (qn (Wret (qr (br (qr (qr (br (qr ?_)))))))); replace hc := hc.m [45, 43, 41, 39, 37, 33, 31, 29, 27, 25, 23, 21, 19, 17, 15, 13, 11, 9, 7, 5, 3, 1]; obtain rfl := sj hp; exact fz R4 M4 (k _ hc)
                                   · replace hp := gpos hp (of_decide_eq_true hb239); (iterate 3 refine r0 rfl ?_); refine au 1 rfl <| rn (qn (Wct rfl (Wseq (Wreg ?_)))); refine au 1 rfl <| rn (qn (Wret (qr (br (qr (qr (br (qr ?_)))))))); replace hc := hc.m [45, 43, 41, 39, 37, 33, 31, 29, 27, 25, 23, 21, 19, 17, 15, 13, 11, 9, 7, 5, 3, 1]; obtain rfl := sj hp; exact fz R4 M4 (k _ hc)
                               · clear hp hc; intro vs u w241 hJ; obtain ⟨rfl, hp, hc⟩ := hJ; unfold law13_BlockParts.J3 at hp; refine Wseqm (rg [6, 1, 19, 1, 23, 1, 27, 1, 224, 44]) [] (fun vs w' => ∃ j242 : S_cache_Store, vs = [] ∧ law13_BlockParts.J4 r12 j56 j57 j58 j59 j60 j61 j62 j63 j64 j65 j66 j67 j68 j72 j76 j80 j81 j82 j137 y140 z167 r183 (law13_BlockParts.L2 N x1 r12 j56 j57 j58 j59 j60 j61 j62 j63 j64 j65 j66 j67 j68 j72 j76 j80 j81 j82 m2) j242 = some r ∧ Ctx w' (oR .i32 21 a170 q171 z167 :: S_cache_Store.hp b45 j242 :: S_ref12_Store.hp b48 r183.2.2 :: B b151 (S_law13_Act.cz y140 a149 q150) 62 :: hR .i32 a149 q150 y140.X :: B b33 [.int .i64 r12.2.Stages, .int .i64 r12.2.Parts] 37 :: B b30 (S_api_Weights.cz r12.1 a13 q15 a16 q18 a19 q21 a22 q24) 35 :: hR .i8 a13 q15 r12.1.Embed.V :: hS S_api_Block.pr a16 q18 r12.1.Blocks :: hR .i8 a19 q21 r12.1.Last :: hR .i8 a22 q24 r12.1.Head.V :: P1 :: hR .i8 a69 q71 j68 :: hS S_api_Block.pr a73 q75 j72 :: hR .i8 a77 q79 j76 :: hR .i8 a83 q85 j82 :: B b55 [.int .i64 j56, .int .i64 j57, .int .i64 j58, .int .i64 j59, .int .i64 j60, .int .i64 j61, .int .i64 j62, .int .i64 j63, .int .i64 j64, .int .i64 j65, .int .i64 j66, .int .i64 j67, .slice a69 j68.length q71, .slice a73 j72.length q75, .slice a77 j76.length q79, .int .i64 j80, .int .i64 j81, .slice a83 j82.length q85] 41 :: Fr)) ?_ ?_
                                 · refine Wseq (Wreg ?_); refine fq 3 U62 Z51 G51 hc 3 ?_; refine sz (ln rfl U51) <| sz (v := pt b30 0) (fax 0 rfl U35 rfl Z29 rfl rfl rfl) ?_; refine fq 1 U29 Z3 G3 hc 6 ?_; refine au 1 rfl <| rn (qn ?_); refine Wif hp (fun _ h => ?_) fun _ h => ?_
                                   · replace hp := h; clear h; refine Wskip (qn ?_); exact ⟨⟨r177.2.2, rfl, hp, hc⟩, (kl rfl kb)⟩
                                   · replace hp := h; clear h; refine Wseq (Wreg ?_); refine lg G41 Z41 hc 16 ?_; refine au 1 rfl <| sz (v := pt b151 0) (fax 0 rfl U62 rfl Z55 rfl rfl rfl) <| lg G55 Z55 hc 3 ?_; refine fq 3 U62 Z51 G51 hc 3 ?_; replace hc := hc.dz 12; replace hc := hc.dz 14; replace hc := hc.dz 16; replace hc := hc.dz 18; replace hc := hc.dz 8; replace hp := bind_some hp; obtain ⟨r244, hr244, hp⟩ := hp; replace hc := hc.m [12, 4, 6, 8, 10]; refine kz C11 ?_; refine block_Attend_any (x0 := (⟨(⟨j56, j57, j58, j59, j60, j61⟩ : S_api_Shape), (⟨j62, j63⟩ : S_api_Cut), j64, j65, (⟨j66, j67, j68⟩ : S_api_Mat), j72, j76, (⟨j80, j81, j82⟩ : S_api_Mat)⟩ : S_api_Shard)) (x2 := y140.At) reads_ro hc hr244 ?_; clear hc; intro a245 n246 q247 w248 hc; obtain rfl := hc.rz 0 reads_own; refine au 4 rfl <| rn (qn (Wseq (Wreg ?_))); refine lg G41 Z41 hc 18 ?_; refine sz (v := pt b151 0) (fax 0 rfl U62 rfl Z55 rfl rfl rfl) ?_; refine fq 1 U55 Z3 G3 hc 5 ?_; refine fq 3 U62 Z51 G51 hc 5 ?_; replace hc := hc.dz 14; replace hc := hc.dz 16; replace hc := hc.dz 18; replace hc := hc.dz 20; replace hc := hc.dz 10; replace hp := bind_some hp; obtain ⟨r250, hr250, hp⟩ := hp; replace hc := hc.m [2, 4, 6, 8]; refine kz C15 ?_; refine block_Widen_any (x0 := (⟨(⟨j56, j57, j58, j59, j60, j61⟩ : S_api_Shape), (⟨j62, j63⟩ : S_api_Cut), j64, j65, (⟨j66, j67, j68⟩ : S_api_Mat), j72, j76, (⟨j80, j81, j82⟩ : S_api_Mat)⟩ : S_api_Shard)) reads_ro hc hr250 ?_; clear hc; intro a251 n252 q253 w254 hc; obtain rfl := hc.rz 0 reads_own; refine au 4 rfl <| rn (qn (Wseq (Wreg ?_))); refine lg G41 Z41 hc 20 ?_; refine fq 3 U62 Z51 G51 hc 7 ?_; replace hc := hc.dz 16; replace hc := hc.dz 18; replace hc := hc.dz 20; replace hc := hc.dz 22; replace hc := hc.dz 12; replace hp := bind_some hp; obtain ⟨r256, hr256, hp⟩ := hp; replace hc := hc.m [2, 4, 6, 8]; refine kz C17 ?_; refine block_Leave_any (x0 := (⟨(⟨j56, j57, j58, j59, j60, j61⟩ : S_api_Shape), (⟨j62, j63⟩ : S_api_Cut), j64, j65, (⟨j66, j67, j68⟩ : S_api_Mat), j72, j76, (⟨j80, j81, j82⟩ : S_api_Mat)⟩ : S_api_Shard)) reads_ro hc hr256 ?_; clear hc; intro a257 n258 q259 w260 hc; obtain rfl := hc.rz 0 reads_own; refine au 4 rfl <| rn (qn (Wseq (Wreg ?_))); refine au 3 rfl ?_; cases hb262 : (decide (r244.2.1 ≠ 30))
                                     · replace hp := gneg hp (of_decide_eq_false hb262); refine au 4 rfl ?_; cases hb263 : (decide (r250.2 ≠ 30))
                                       · replace hp := gneg hp (of_decide_eq_false hb263); refine au 3 rfl <| rn (qn ?_); refine Wif hp (fun _ h => ?_) fun _ h => ?_
                                         · replace hp := h; clear h; refine Wskip (qn ?_); replace hc := hc.m [13, 9, 7, 5, 3, 1, 32, 32, 32, 32, 32, 32, 32, 32, 32, 32, 32, 32, 32, 32, 32, 30, 32]; exact ⟨⟨r244.2.2, rfl, hp, hc⟩, (kl rfl kb)⟩
                                         · replace hp := h; clear h; refine Wseq (Wreg ?_); refine au 1 rfl <| rn (qn (Wret (qr (br (qr (qr (br (qr ?_)))))))); replace hc := hc.m [45, 43, 41, 39, 37, 33, 31, 29, 27, 25, 23, 21, 19, 17, 15, 13, 11, 9, 7, 5, 3, 1]; obtain rfl := sj hp; exact fz R4 M4 (k _ hc)
                                       · replace hp := gpos hp (of_decide_eq_true hb263); (iterate 2 refine r0 rfl ?_); refine au 1 rfl <| rn (qn (Wct rfl (Wseq (Wreg ?_)))); refine au 1 rfl <| rn (qn (Wret (qr (br (qr (qr (br (qr ?_)))))))); replace hc := hc.m [45, 43, 41, 39, 37, 33, 31, 29, 27, 25, 23, 21, 19, 17, 15, 13, 11, 9, 7, 5, 3, 1]; obtain rfl := sj hp; exact fz R4 M4 (k _ hc)
                                     · replace hp := gpos hp (of_decide_eq_true hb262); (iterate 2 refine r0 rfl ?_); refine au 2 rfl ?_; (iterate 2 refine r0 rfl ?_); refine au 1 rfl <| rn (qn (Wct rfl (Wseq (Wreg ?_)))); refine au 1 rfl <| rn (qn (Wret (qr (br (qr (qr (br (qr ?_)))))))); replace hc := hc.m [45, 43, 41, 39, 37, 33, 31, 29, 27, 25, 23, 21, 19, 17, 15, 13, 11, 9, 7, 5, 3, 1]; obtain rfl := sj hp; exact fz R4 M4 (k _ hc)
                                 · clear hp hc; intro vs u w265 hJ; obtain ⟨j242, rfl, hp, hc⟩ := hJ; unfold law13_BlockParts.J4 at hp; refine Wseq (Wreg ?_); refine lg G41 Z41 hc 16 ?_; refine sz (v := pt b151 0) (fax 0 rfl U62 rfl Z55 rfl rfl rfl) <| lg G55 Z55 hc 3 ?_; refine au 1 rfl ?_; replace hc := hc.dz 12; replace hc := hc.dz 14; replace hc := hc.dz 16; replace hc := hc.dz 18; replace hp := bind_some hp; obtain ⟨r266, hr266, hp⟩ := hp; replace hc := hc.m [8, 2, 4, 6, 8]; refine kz C11 ?_; refine block_Attend_nil1_any (x0 := (⟨(⟨j56, j57, j58, j59, j60, j61⟩ : S_api_Shape), (⟨j62, j63⟩ : S_api_Cut), j64, j65, (⟨j66, j67, j68⟩ : S_api_Mat), j72, j76, (⟨j80, j81, j82⟩ : S_api_Mat)⟩ : S_api_Shard)) (x2 := y140.At) rd176 hc hr266 ?_; clear hc; intro a267 n268 q269 w270 hc; obtain rfl := hc.rz 0 reads_own; refine au 5 rfl <| rn (qn (Wseq (Wreg ?_))); refine au 2 rfl <| rn (qn ?_); refine Wif hp (fun _ h => ?_) fun _ h => ?_
                                   · replace hp := h; clear h; refine Wskip (bn (qn (Wreg ?_))); refine au 3 rfl <| rn (qn ?_); replace hc := hc.m [11, 9, 3, 1, 26, 26, 26, 26, 26, 26, 26, 26, 26, 26, 26, 26, 24, 26]; exact ⟨m2, Nat.lt_succ_self _, ⟨r183.2.2, j242, (IntKind.i64.wrap (j137 + 1)), rfl, hp, hc⟩, (kl rfl (km rfl (kl rfl (km rfl (kl rfl k0)))))⟩
                                   · replace hp := h; clear h; refine Wseq (Wreg ?_); refine au 1 rfl <| rn (qn (Wret (br (qr (qr (br (qr ?_))))))); replace hc := hc.m [35, 33, 31, 29, 27, 23, 21, 19, 17, 15, 13, 11, 9, 7, 5, 3, 1]; obtain rfl := sj hp; exact fz R4 M4 (k _ hc)
                           · replace hp := gpos hp (of_decide_eq_true hb211); (iterate 4 refine r0 rfl ?_); refine au 1 rfl <| rn (qn (Wct rfl (Wseq (Wreg ?_)))); refine au 1 rfl <| rn (qn (Wret (qr (br (qr (qr (br (qr ?_)))))))); replace hc := hc.m [43, 41, 39, 37, 35, 31, 29, 27, 25, 23, 21, 19, 17, 15, 13, 11, 9, 7, 5, 3, 1]; obtain rfl := sj hp; exact fz R4 M4 (k _ hc)
                         · replace hp := h; clear h; refine Wseq (Wreg ?_); refine au 1 rfl <| rn (qn (Wret (qr (br (qr (qr (br (qr ?_)))))))); replace hc := hc.m [39, 37, 35, 33, 31, 27, 25, 23, 21, 19, 17, 15, 13, 11, 9, 7, 5, 3, 1]; obtain rfl := sj hp; exact fz R4 M4 (k _ hc)
                     · replace hp := gpos hp (of_decide_eq_true hb192); (iterate 2 refine d0 rfl rfl ?_); refine d0e rfl (fun j hj hb => ⟨fun _ => hc.cell (k := 0) rfl rfl rfl, trivial⟩) rfl ?_; refine d0 rfl rfl <| ad_ 2 rfl ?_; (iterate 8 refine d0 rfl rfl ?_); refine ad_ 1 rfl <| dn (qn (Wct rfl (Wseq (Wreg ?_)))); refine au 1 rfl <| rn (qn (Wret (qr (br (qr (qr (br (qr ?_)))))))); replace hc := hc.m [39, 37, 35, 33, 31, 27, 25, 23, 21, 19, 17, 15, 13, 11, 9, 7, 5, 3, 1]; obtain rfl := sj hp; exact fz R4 M4 (k _ hc)
                   · replace hp := h; clear h; refine Wseq (Wreg ?_); refine au 1 rfl <| rn (qn (Wret (qr (br (qr (qr (br (qr ?_)))))))); replace hc := hc.m [31, 29, 27, 25, 23, 19, 17, 15, 13, 11, 9, 7, 5, 3, 1]; obtain rfl := sj hp; exact fz R4 M4 (k _ hc)
           · replace hp := h; clear h; refine Wseq (Wreg ?_); refine au 1 rfl <| rn (qn (Wret (qr ?_))); replace hc := hc.m [15, 13, 11, 9, 7, 5, 3, 1]; obtain rfl := sj hp; exact fz R4 M4 (k _ hc)
       · replace hp := h; clear h; refine Wseq (Wreg ?_); replace hp := bind_some hp; obtain ⟨r273, hr273, hp⟩ := hp; refine kz C7 ?_; refine law13_awake_any hc hr273 ?_; clear hc; intro w274 hc; refine au 1 rfl <| rn (qn (Wret (qr ?_))); replace hc := hc.m [1]; obtain rfl := sj hp; exact fz R4 M4 (k _ hc)
     · replace hp := gpos hp (of_decide_eq_true hb10); (iterate 2 refine r0 rfl ?_); refine au 1 rfl <| rn (qn (Wct rfl (Wseq (Wreg ?_)))); replace hp := bind_some hp; obtain ⟨r275, hr275, hp⟩ := hp; refine kz C7 ?_; refine law13_awake_any hc hr275 ?_; clear hc; intro w276 hc; refine au 1 rfl <| rn (qn (Wret (qr ?_))); replace hc := hc.m [1]; obtain rfl := sj hp; exact fz R4 M4 (k _ hc)
   · replace hp := gpos hp (of_decide_eq_true hb9); (iterate 2 refine r0 rfl ?_); refine au 2 rfl ?_; (iterate 2 refine r0 rfl ?_); refine au 1 rfl <| rn (qn (Wct rfl (Wseq (Wreg ?_)))); replace hp := bind_some hp; obtain ⟨r277, hr277, hp⟩ := hp; refine kz C7 ?_; refine law13_awake_any hc hr277 ?_; clear hc; intro w278 hc; refine au 1 rfl <| rn (qn (Wret (qr ?_))); replace hc := hc.m [1]; obtain rfl := sj hp; exact fz R4 M4 (k _ hc)

end Go.Proofs.YtbfiagimgokccaaGreat
end
section
namespace Go.Hp
open Go
theorem W_in {x : Int} (h : -9223372036854775808 ≤ x ∧ x ≤ 9223372036854775807) : IntKind.i64.wrap x = x := IntWalk.i64_in x h
theorem W_succ (k : Nat) (h : k < 4611686018427387904) : IntKind.i64.wrap ((k : Int) + 1) = ((k + 1 : Nat) : Int) := by rw [W_in (by omega)]; rfl
theorem W_range (x : Int) : -9223372036854775808 ≤ IntKind.i64.wrap x ∧ IntKind.i64.wrap x ≤ 9223372036854775807 := by
  rw [IntKind.wrap_i64]; omega
theorem W_rest (x : Int) (n : Int) (hn : 0 < n) (hb : n ≤ 1099511627776) : Int.tmod (IntKind.i64.wrap (Int.tmod x n + n)) n = x % n := by
  have a := Int.tmod_lt_of_pos x hn
  have b := Int.lt_tmod_of_pos x hn
  rw [W_in (by omega), Int.tmod_eq_emod_of_nonneg (by omega)]
  have h := Int.tmod_add_mul_tdiv x n
  rw [Int.add_emod_right]
  conv => rhs; rw [← h]
  rw [Int.add_mul_emod_self_left]
theorem W_restN (x : Int) (n : Nat) (hn : 0 < n) (hb : n ≤ 1099511627776) : ∃ k : Nat, k < n ∧ Int.tmod (IntKind.i64.wrap (Int.tmod x n + n)) n = k := by
  rw [W_rest x n (by omega) (by omega)]
  have h1 := Int.emod_nonneg x (show (n : Int) ≠ 0 by omega)
  have h2 := Int.emod_lt_of_pos x (show (0 : Int) < n by omega)
  exact ⟨(x % n).toNat, by omega, by omega⟩
theorem idx_nat {α : Type} (xs : List α) (k : Nat) : idx xs (k : Int) = xs[k]? := by simp [idx]
theorem idx_get {α : Type} (xs : List α) (k : Nat) (h : k < xs.length) : idx xs (k : Int) = some xs[k] := by rw [idx_nat, List.getElem?_eq_getElem h]
theorem app_ok {α : Type} (xs ys : List α) (h : xs.length + ys.length ≤ 4294967296) : app xs ys = some (xs ++ ys) := by unfold app; rw [if_pos h]
theorem chk_ok {α : Type} {p : Prop} [Decidable p] (x : Option α) (h : p) : chk p x = x := by unfold chk; rw [if_pos h]
end Go.Hp
namespace Go.Hp
def tabl {α : Type} (n : Nat) (f : Nat → α) : List α := (List.range n).map f
theorem tabl_len {α : Type} (n : Nat) (f : Nat → α) : (tabl n f).length = n := by simp [tabl]
theorem tabl_get {α : Type} {n : Nat} {f : Nat → α} {i : Nat} (h : i < (tabl n f).length) : (tabl n f)[i] = f i := by simp [tabl]
theorem tabl_get? {α : Type} {n : Nat} {f : Nat → α} {i : Nat} (h : i < n) : (tabl n f)[i]? = some (f i) := by simp [tabl, h]
theorem tabl_set {α : Type} (n : Nat) (f : Nat → α) (i : Nat) (v : α) : (tabl n f).set i v = tabl n (fun j => if j = i then v else f j) := by
  apply List.ext_getElem
  · simp [tabl]
  · intro j h1 h2
    simp only [List.getElem_set, tabl_get]
    by_cases e : i = j
    · subst e; simp
    · rw [if_neg e, if_neg (fun h => e h.symm)]
theorem tabl_rep {α : Type} (n : Nat) (v : α) : List.replicate n v = tabl n (fun _ => v) := by
  apply List.ext_getElem
  · simp [tabl]
  · intro j h1 h2; simp [tabl]
theorem tabl_congr {α : Type} {n : Nat} {f g : Nat → α} (h : ∀ j, j < n → f j = g j) : tabl n f = tabl n g := by
  apply List.ext_getElem
  · simp [tabl]
  · intro j h1 h2
    rw [tabl_get, tabl_get]; exact h j (by simpa [tabl] using h1)
end Go.Hp
end
section
namespace Go.Hp
open Go
set_option linter.unusedVariables false
set_option linter.unusedSimpArgs false
set_option linter.unusedSectionVars false
theorem optc_some {α β : Type} (x : α) (a : Option β) (f : α → Option β) : optc (some x) a f = f x := rfl
section
variable {κ β : Type} [DecidableEq κ]
theorem mget_mset (l : List (κ × β)) (k q : κ) (x : β) : mget (mset l k x) q = if q = k then some x else mget l q := by
  induction l with
  | nil => simp only [mset, mget]; by_cases h : q = k
           · subst h; simp
           · rw [if_neg (fun e => h e.symm), if_neg h]
  | cons p l ih =>
    obtain ⟨k', x'⟩ := p
    simp only [mset]
    by_cases hk : k' = k
    · subst hk
      simp only [if_true, mget]
      by_cases h : q = k'
      · subst h; simp
      · rw [if_neg (fun e => h e.symm), if_neg h, if_neg (fun e => h e.symm)]
    · simp only [hk, if_false, mget, ih]
      by_cases h : k' = q
      · subst h; simp [hk]
      · simp [h]
theorem mget_none {l : List (κ × β)} {k : κ} : mget l k = none ↔ k ∉ l.map Prod.fst := by
  induction l with
  | nil => simp [mget]
  | cons p l ih =>
    obtain ⟨k', x'⟩ := p
    simp only [mget]
    by_cases hk : k' = k
    · subst hk; simp
    · simp only [hk, if_false, ih, List.map_cons, List.mem_cons, not_or]
      exact ⟨fun h => ⟨fun e => hk e.symm, h⟩, fun h => h.2⟩
theorem keys_mset (l : List (κ × β)) (k : κ) (x : β) : (mset l k x).map Prod.fst = if k ∈ l.map Prod.fst then l.map Prod.fst else l.map Prod.fst ++ [k] := by
  induction l with
  | nil => simp [mset]
  | cons p l ih =>
    obtain ⟨k', x'⟩ := p
    simp only [mset]
    by_cases hk : k' = k
    · subst hk; simp
    · simp only [hk, if_false, List.map_cons, ih, List.mem_cons]
      by_cases h : k ∈ l.map Prod.fst
      · rw [if_pos h, if_pos (.inr h)]
      · rw [if_neg h, if_neg (fun q => q.elim (fun e => hk e.symm) h)]; rfl
theorem len_mset (l : List (κ × β)) (k : κ) (x : β) : (mset l k x).length = if k ∈ l.map Prod.fst then l.length else l.length + 1 := by
  have := congrArg List.length (keys_mset l k x)
  rw [List.length_map] at this
  rw [this]
  split <;> simp
end
end Go.Hp
end
section
namespace Go.Hp
open Go
set_option linter.unusedVariables false
set_option linter.unusedSimpArgs false
theorem loop_c {σ ρ : Type} (F : Nat → σ → Int → ρ) (c : Nat → σ) (n : Nat) (r : ρ) (hs : ∀ m i, i < n → F (m + 1) (c i) (i : Int) = F m (c (i + 1)) ((i + 1 : Nat) : Int)) (he : ∀ m, F (m + 1) (c n) (n : Int) = r) : ∀ m, n < m → F m (c 0) 0 = r := by
  have key : ∀ d m i, i + d = n → d < m → F m (c i) (i : Int) = r := by
    intro d
    induction d with
    | zero =>
      intro m i hi hm
      obtain ⟨m, rfl⟩ : ∃ q, m = q + 1 := ⟨m - 1, by omega⟩
      obtain rfl : i = n := by omega
      exact he m
    | succ d ih =>
      intro m i hi hm
      obtain ⟨m, rfl⟩ : ∃ q, m = q + 1 := ⟨m - 1, by omega⟩
      rw [hs m i (by omega)]
      exact ih m (i + 1) (by omega) (by omega)
  intro m hm
  exact key n m 0 (by omega) hm
end Go.Hp
end
section
namespace Go.Hp
open Go
set_option linter.unusedVariables false
theorem loop_to {σ ρ : Type} (F : Nat → σ → Int → ρ) (ι : Nat → Int) (n : Nat) (Inv : Nat → σ → Prop) (hs : ∀ m i s, i < n → Inv i s → ∃ s', Inv (i + 1) s' ∧ F (m + 1) s (ι i) = F m s' (ι (i + 1))) : ∀ m s, n < m → Inv 0 s → ∃ m' s', Inv n s' ∧ F m s (ι 0) = F (m' + 1) s' (ι n) := by
  have key : ∀ d m i s, i + d = n → d < m → Inv i s → ∃ m' s', Inv n s' ∧ F m s (ι i) = F (m' + 1) s' (ι n) := by
    intro d
    induction d with
    | zero =>
      intro m i s hi hm h
      obtain ⟨m, rfl⟩ : ∃ q, m = q + 1 := ⟨m - 1, by omega⟩
      obtain rfl : i = n := by omega
      exact ⟨m, s, h, rfl⟩
    | succ d ih =>
      intro m i s hi hm h
      obtain ⟨m, rfl⟩ : ∃ q, m = q + 1 := ⟨m - 1, by omega⟩
      obtain ⟨s', h', e⟩ := hs m i s (by omega) h
      rw [e]
      exact ih m (i + 1) s' (by omega) (by omega) h'
  intro m s hm h
  exact key n m 0 s (by omega) hm h
theorem idx_t {α : Type} {n : Nat} (f : Nat → α) {k : Nat} (h : k < n) : idx (tabl n f) (k : Int) = some (f k) := by rw [idx_nat, tabl_get? h]
theorem idx_d {α : Type} (l : List α) (d : α) {k : Nat} (h : k < l.length) : idx l (k : Int) = some (l.getD k d) := by
  rw [idx_get l k h, List.getD_eq_getElem?_getD, List.getElem?_eq_getElem h]; rfl
theorem tabl_succ {α : Type} (n : Nat) (f : Nat → α) : tabl (n + 1) f = tabl n f ++ [f n] := by simp [tabl, List.range_succ]
theorem tab_of {α : Type} (l : List α) (d : α) : l = tabl l.length (fun i => l.getD i d) := by
  apply List.ext_getElem
  · rw [tabl_len]
  · intro i h1 h2
    rw [tabl_get, List.getD_eq_getElem?_getD, List.getElem?_eq_getElem h1]; rfl
theorem len_app1 {α : Type} (l : List α) (x : α) : (l ++ [x]).length = l.length + 1 := by simp
end Go.Hp
end
section
namespace Go.Proofs.YtbfiagimgokccaaGreat
open Go Go.Hp
set_option linter.unusedVariables false
set_option linter.unusedSimpArgs false
def sh (x : Int) (n : Nat) : Int := if x % 2 ^ n > 2 ^ n / 2 then x / 2 ^ n + 1 else if x % 2 ^ n = 2 ^ n / 2 then (if 0 < n then (if x / 2 ^ n % 2 = 1 then x / 2 ^ n + 1 else x / 2 ^ n) else x / 2 ^ n) else x / 2 ^ n
theorem pow_pos' (n : Nat) : (0 : Int) < 2 ^ n := by
  have : 0 < 2 ^ n := Nat.two_pow_pos n
  exact_mod_cast this
theorem pow_le62 (k : Nat) (hk2 : k ≤ 62) : (2 : Int) ^ k ≤ 4611686018427387904 := by
  have : 2 ^ k ≤ 2 ^ 62 := Nat.pow_le_pow_right (by decide) hk2
  have hcast : ((2 ^ k : Nat) : Int) = (2 : Int) ^ k := by simp
  rw [← hcast]; omega
theorem half_in (x : Int) (hx : -9223372036854775808 ≤ x ∧ x ≤ 9223372036854775807) (n : Nat) (hn : 0 < n) : -4611686018427387904 ≤ x / 2 ^ n ∧ x / 2 ^ n < 4611686018427387904 := by
  obtain ⟨m, rfl⟩ : ∃ m, n = m + 1 := ⟨n - 1, by omega⟩
  have hp := pow_pos' (m + 1)
  have hpm := pow_pos' m
  have hps : (2 : Int) ^ (m + 1) = 2 ^ m * 2 := Int.pow_succ 2 m
  refine ⟨Int.le_ediv_of_mul_le hp ?_, Int.ediv_lt_of_lt_mul hp ?_⟩
  · have hm : -4611686018427387904 * (2 : Int) ^ (m + 1) ≤ -4611686018427387904 * 2 := Int.mul_le_mul_of_nonpos_left (by decide) (by omega)
    omega
  · have hm : 4611686018427387904 * 2 ≤ 4611686018427387904 * (2 : Int) ^ (m + 1) := Int.mul_le_mul_of_nonneg_left (by omega) (by decide)
    omega
theorem J3_is (m : Nat) (hm : m + 1 ≤ 62) (q r : Int) (hq : -4611686018427387904 ≤ q ∧ q < 4611686018427387904) (h0 : 0 ≤ r) (h1 : r < 2 ^ (m + 1)) :
    ref01_Shift.J3 (2 ^ (m + 1)) q r = some (if r > 2 ^ (m + 1) / 2 then q + 1 else if r = 2 ^ (m + 1) / 2 then (if q % 2 = 1 then q + 1 else q) else q) := by
  have hps : (2 : Int) ^ (m + 1) = 2 ^ m * 2 := Int.pow_succ 2 m
  have hpm := pow_pos' m
  have hle := pow_le62 (m + 1) hm
  have hh : (2 : Int) ^ (m + 1) / 2 = 2 ^ m := by rw [hps]; omega
  rw [hh]
  have par : ∀ z : Int, (Int.tmod z 2 ≠ 0) ↔ z % 2 = 1 := by
    intro z
    rw [Ne, ← Int.dvd_iff_tmod_eq_zero, Int.dvd_iff_emod_eq_zero]
    omega
  have hw : IntKind.i64.wrap (q + 1) = q + 1 := W_in (by omega)
  have hw2 : IntKind.i64.wrap (2 ^ (m + 1) - r) = 2 ^ (m + 1) - r := W_in (by omega)
  unfold ref01_Shift.J3
  rw [hw2]
  by_cases c1 : r > 2 ^ m
  · rw [if_pos (by omega), if_pos c1, ref01_Shift.J4, if_pos rfl, hw]
  · rw [if_neg (by omega), if_neg c1]
    by_cases c2 : r = 2 ^ m
    · rw [if_pos (by omega), if_pos c2, ref01_Shift.J4]
      by_cases c3 : q % 2 = 1
      · rw [if_pos (decide_eq_true ((par q).2 c3)), if_pos c3, hw]
      · rw [if_neg (by intro h; exact c3 ((par q).1 (of_decide_eq_true h))), if_neg c3]
    · rw [if_neg (by omega), if_neg c2, ref01_Shift.J4, if_neg (by decide)]
theorem refshift_loop (x : Int) (hx : -9223372036854775808 ≤ x ∧ x ≤ 9223372036854775807) (n : Nat) (hn : 0 < n) (hn2 : n ≤ 62) (d : Nat) : ∀ (k i : Nat), i + d = n → d < k →
    ref01_Shift.L2 x (n : Int) k (2 ^ i) (i : Int) = some (sh x n) := by
  induction d with
  | zero =>
    intro k i hi hk
    obtain ⟨k, rfl⟩ : ∃ m, k = m + 1 := ⟨k - 1, by omega⟩
    obtain rfl : i = n := by omega
    have hp := pow_pos' i
    have hfl := half_in x hx i hn
    obtain ⟨m, rfl⟩ : ∃ m, i = m + 1 := ⟨i - 1, by omega⟩
    have hpm := pow_pos' m
    have hps : (2 : Int) ^ (m + 1) = 2 ^ m * 2 := Int.pow_succ 2 m
    have hle := pow_le62 (m + 1) hn2
    have hdm := Int.mul_tdiv_add_tmod x (2 ^ (m + 1))
    have hlt := Int.tmod_lt_of_pos x hp
    have hgt : -(2 ^ (m + 1)) < Int.tmod x (2 ^ (m + 1)) := Int.lt_tmod_of_pos x hp
    rw [ref01_Shift.L2, if_neg (by omega), chk_ok _ (by omega), Option.bind_some, chk_ok _ (by omega)]
    unfold sh
    rw [if_pos (show 0 < m + 1 by omega)]
    by_cases hneg : Int.tmod x (2 ^ (m + 1)) < 0
    · have huq : x / 2 ^ (m + 1) = Int.tdiv x (2 ^ (m + 1)) - 1 ∧ x % 2 ^ (m + 1) = Int.tmod x (2 ^ (m + 1)) + 2 ^ (m + 1) := by
        refine (Int.ediv_emod_unique hp).2 ⟨?_, by omega, by omega⟩
        rw [Int.mul_sub, Int.mul_one]
        omega
      rw [if_pos hneg, Option.bind_some]
      rw [huq.1] at hfl ⊢
      rw [huq.2]
      generalize Int.tdiv x (2 ^ (m + 1)) = q at *
      generalize Int.tmod x (2 ^ (m + 1)) = r at *
      rw [W_in (x := q) (by omega), W_in (x := q - 1) (by omega), W_in (x := r + 2 ^ (m + 1)) (by omega)]
      exact J3_is m hn2 (q - 1) (r + 2 ^ (m + 1)) hfl (by omega) (by omega)
    · have huq : x / 2 ^ (m + 1) = Int.tdiv x (2 ^ (m + 1)) ∧ x % 2 ^ (m + 1) = Int.tmod x (2 ^ (m + 1)) := (Int.ediv_emod_unique hp).2 ⟨by omega, by omega, by omega⟩
      rw [if_neg hneg]
      rw [huq.1] at hfl ⊢
      rw [huq.2]
      generalize Int.tdiv x (2 ^ (m + 1)) = q at *
      generalize Int.tmod x (2 ^ (m + 1)) = r at *
      rw [W_in (x := q) (by omega)]
      exact J3_is m hn2 q r hfl (by omega) (by omega)
  | succ d ih =>
    intro k i hi hk
    obtain ⟨k, rfl⟩ : ∃ m, k = m + 1 := ⟨k - 1, by omega⟩
    have hps : (2 : Int) ^ (i + 1) = 2 ^ i * 2 := Int.pow_succ 2 i
    have hp := pow_pos' i
    have hle := pow_le62 (i + 1) (by omega)
    rw [ref01_Shift.L2, if_pos (by omega), W_in (x := 2 ^ i * 2) (by omega), ← hps, W_succ i (by omega)]
    exact ih k (i + 1) (by omega) (by omega)
theorem refshift_is {N : Nat} (hN : 100 ≤ N) (x a : Int) (hx : -9223372036854775808 ≤ x ∧ x ≤ 9223372036854775807) : ref01_Shift N x a = some (sh x (min (max a 0) 62).toNat) := by
  have key : ∀ b : Int, b ≤ 62 → ref01_Shift.J1 N x b = some (sh x (max b 0).toNat) := by
    intro b hb
    rw [ref01_Shift.J1]
    by_cases h : b ≤ 0
    · have e : (max b 0).toNat = 0 := by omega
      rw [if_pos h, e]
      unfold sh
      have e1 : x % (2 : Int) ^ 0 = 0 := by simp
      have e2 : (2 : Int) ^ 0 / 2 = 0 := by decide
      have e3 : x / (2 : Int) ^ 0 = x := by simp
      rw [e1, e2, e3, if_neg (by decide), if_pos rfl, if_neg (by decide)]
    · obtain ⟨n, rfl⟩ := Int.eq_ofNat_of_zero_le (show 0 ≤ b by omega)
      have e : (max (n : Int) 0).toNat = n := by omega
      rw [if_neg h, e]
      exact refshift_loop x hx n (by omega) (by omega) n N 0 (by omega) (by omega)
  unfold ref01_Shift
  by_cases h : a > 62
  · rw [if_pos h, key 62 (by decide), show min (max a 0) 62 = max 62 0 by omega]
  · rw [if_neg h, key a (by omega), show min (max a 0) 62 = max a 0 by omega]
theorem near_is (x a b : Int) (h : a ≤ b) : ref01_Near x a b = some (min (max x a) b) := by
  unfold ref01_Near
  by_cases h1 : x < a
  · rw [if_pos h1, show min (max x a) b = a by omega]
  · rw [if_neg h1]
    by_cases h2 : x > b
    · rw [if_pos h2, show min (max x a) b = b by omega]
    · rw [if_neg h2, show min (max x a) b = x by omega]
theorem mod_is (x : Int) : ref01_Mod x = some (IntKind.i32.wrap x) := by
  have a := Int.tmod_lt_of_pos x (show (0 : Int) < 4294967296 by decide)
  have b := Int.lt_tmod_of_pos x (show (0 : Int) < 4294967296 by decide)
  have h := Int.tmod_add_mul_tdiv x 4294967296
  have key : ∀ z q : Int, 0 ≤ z → z < 4294967296 → z + 4294967296 * q = x → ref01_Mod.J1 z = some (IntKind.i32.wrap x) := by
    intro z q h0 h1 h2
    unfold ref01_Mod.J1
    by_cases h3 : z ≥ 2147483648
    · rw [if_pos h3, Option.bind_some, W_in (by omega)]
      congr 1
      simp only [IntKind.wrap_i32]
      omega
    · rw [if_neg h3]
      congr 1
      simp only [IntKind.wrap_i32]
      omega
  unfold ref01_Mod
  by_cases hn : Int.tmod x 4294967296 < 0
  · rw [if_pos hn, Option.bind_some, W_in (by omega)]
    exact key _ (Int.tdiv x 4294967296 - 1) (by omega) (by omega) (by omega)
  · rw [if_neg hn]
    exact key _ (Int.tdiv x 4294967296) (by omega) (by omega) (by omega)

def tot : List Int → Int
  | [] => 0
  | x :: xs => x + tot xs
theorem tot_snoc (xs : List Int) (x : Int) : tot (xs ++ [x]) = tot xs + x := by
  induction xs with
  | nil => simp [tot]
  | cons y ys ih => rw [List.cons_append, tot, tot, ih]; omega
theorem wrap_is {N : Nat} (xs : List Int) (h : xs.length < N) (h2 : xs.length ≤ 1000000) : ref01_Wrap N xs = some (IntKind.i32.wrap (tot xs)) := by
  unfold ref01_Wrap
  refine loop_c (fun m (s : Int) i => ref01_Wrap.L1 xs m s i) (fun i => IntKind.i32.wrap (tot (xs.take i))) xs.length _ (fun m i hi => ?_) (fun m => ?_) N h
  · show ref01_Wrap.L1 xs (m + 1) _ (i : Int) = ref01_Wrap.L1 xs m _ _
    rw [ref01_Wrap.L1, if_pos (by omega), idx_get _ _ hi, Option.bind_some, mod_is, Option.bind_some, mod_is, Option.bind_some, W_succ i (by omega), List.take_succ_eq_append_getElem hi, tot_snoc]
    congr 1
    simp only [IntKind.wrap_i64, IntKind.wrap_i32]
    omega
  · show ref01_Wrap.L1 xs (m + 1) _ (xs.length : Int) = _
    rw [ref01_Wrap.L1, if_neg (by omega), List.take_length]
    congr 1
    simp only [IntKind.wrap_i32]
    omega
def dots (a b : List Int) : Nat → Int
  | 0 => 0
  | k + 1 => dots a b k + a.getD k 0 * b.getD k 0
theorem w32_add (x y : Int) : IntKind.i32.wrap (x + IntKind.i64.wrap y) = IntKind.i32.wrap (x + y) := by simp only [IntKind.wrap_i64, IntKind.wrap_i32]; omega
theorem w_mul (x y : Int) : IntKind.i64.wrap (IntKind.i64.wrap x * IntKind.i64.wrap y) = IntKind.i64.wrap (x * y) := by
  rw [IntKind.wrap_i64, IntKind.wrap_i64 (x * y)]
  have h : (IntKind.i64.wrap x * IntKind.i64.wrap y) % 18446744073709551616 = (x * y) % 18446744073709551616 := by
    have e : ∀ z : Int, IntKind.i64.wrap z % 18446744073709551616 = z % 18446744073709551616 := fun z => by rw [IntKind.wrap_i64]; omega
    rw [Int.mul_emod, e, e, ← Int.mul_emod]
  omega
theorem dot_is {N : Nat} (a b : List Int) (h : a.length = b.length) (hl : a.length < N) (h2 : a.length ≤ 1000000) : ref01_Dot N a b = some (IntKind.i32.wrap (dots a b a.length)) := by
  unfold ref01_Dot
  refine loop_c (fun m (s : List Int) i => ref01_Dot.L1 N a b m s i) (fun i => tabl i fun k => IntKind.i64.wrap (a.getD k 0 * b.getD k 0)) a.length _ (fun m i hi => ?_) (fun m => ?_) N hl
  · show ref01_Dot.L1 N a b (m + 1) _ (i : Int) = ref01_Dot.L1 N a b m _ _
    rw [ref01_Dot.L1, if_pos (by omega), decide_eq_true (by omega), ref01_Dot.J2, if_pos rfl, idx_d a 0 hi, Option.bind_some, idx_d b 0 (by omega), Option.bind_some, app_ok _ _ (by rw [tabl_len]; simp only [List.length_cons, List.length_nil]; omega), Option.bind_some, W_succ i (by omega), w_mul, tabl_succ]
  · show ref01_Dot.L1 N a b (m + 1) _ (a.length : Int) = _
    rw [ref01_Dot.L1, if_neg (by omega), ref01_Dot.J2, if_neg (by decide), wrap_is _ (by rw [tabl_len]; omega) (by rw [tabl_len]; omega), Option.bind_some]
    congr 1
    have : ∀ k, IntKind.i32.wrap (tot (tabl k fun k => IntKind.i64.wrap (a.getD k 0 * b.getD k 0))) = IntKind.i32.wrap (dots a b k) := by
      intro k
      induction k with
      | zero => rfl
      | succ k ih =>
        rw [tabl_succ, tot_snoc, dots, w32_add]
        simp only [IntKind.wrap_i32] at ih ⊢
        omega
    exact this _
def scl (x by_ n lo hi : Int) : Int := min (max (sh (IntKind.i64.wrap (IntKind.i64.wrap x * IntKind.i64.wrap by_)) (min (max n 0) 62).toNat) lo) hi
theorem refscale_is {N : Nat} (hN : 100 ≤ N) (x by_ n lo hi : Int) (h : lo ≤ hi) : ref01_Scale N x by_ n lo hi = some (scl x by_ n lo hi) := by
  unfold ref01_Scale
  rw [refshift_is hN _ _ (W_range _), Option.bind_some, near_is _ _ _ h, Option.bind_some]
  rfl
def matR (m : S_api_Mat) (r c : Nat) : Prop := m.Rows = r ∧ m.Cols = c ∧ m.V.length = r * c
theorem right_is {m : S_api_Mat} {r c : Nat} (h : matR m r c) (hr : r ≤ 200) (hc : c ≤ 200) : ref04_Right m = some true := by
  obtain ⟨h1, h2, h3⟩ := h
  have hrc : r * c ≤ 40000 := Nat.le_trans (Nat.mul_le_mul hr hc) (by decide)
  unfold ref04_Right
  rw [h1, h2, if_pos (by omega), if_pos (by omega), if_pos (by omega), if_pos (by omega), h3]
  have e : ((r * c : Nat) : Int) = (r : Int) * (c : Int) := by simp
  rw [W_in (by rw [← e]; omega), if_pos e, decide_eq_true (by omega)]
def rowOf (m : S_api_Mat) (c r : Nat) : List Int := tabl c fun j => m.V.getD (r * c + j) 0
def applyS (m : S_api_Mat) (x : List Int) (r c : Nat) : List Int := tabl r fun i => IntKind.i32.wrap (dots (rowOf m c i) x c)
theorem tabl_getD {α : Type} (n : Nat) (f : Nat → α) (d : α) (k : Nat) (h : k < n) : (tabl n f).getD k d = f k := by
  rw [List.getD_eq_getElem?_getD, tabl_get? h]; rfl
theorem dots_congr (a b a' b' : List Int) : ∀ k, (∀ j, j < k → a.getD j 0 = a'.getD j 0 ∧ b.getD j 0 = b'.getD j 0) → dots a b k = dots a' b' k
  | 0, _ => rfl
  | k + 1, h => by
    rw [dots, dots, dots_congr a b a' b' k (fun j hj => h j (by omega)), (h k (by omega)).1, (h k (by omega)).2]
theorem apply_is {N : Nat} {m : S_api_Mat} {r c : Nat} (h : matR m r c) (hr : r ≤ 200) (hc : c ≤ 200) (hN : 200 < N) (x : List Int) (hx : x.length = c) : ref04_Apply N m x = some (applyS m x r c, true) := by
  have hrt := right_is h hr hc
  obtain ⟨h1, h2, h3⟩ := h
  have hrc : ∀ i, i < r → i * c + c ≤ r * c := fun i hi => by
    have : (i + 1) * c ≤ r * c := Nat.mul_le_mul_right c (by omega)
    rw [Nat.succ_mul] at this; exact this
  have hrc2 : r * c ≤ 40000 := Nat.le_trans (Nat.mul_le_mul hr hc) (by decide)
  unfold ref04_Apply
  try rw [show (⟨m.Rows, m.Cols, m.V⟩ : S_api_Mat) = m from rfl]
  rw [hrt, Option.bind_some, if_pos rfl, if_neg (by omega)]
  refine loop_c (fun k (s : List Int) i => ref04_Apply.L1 N m x k s i) (fun i => tabl i fun i => IntKind.i32.wrap (dots (rowOf m c i) x c)) r _ (fun k i hi => ?_) (fun k => ?_) N (by omega)
  · show ref04_Apply.L1 N m x (k + 1) _ (i : Int) = ref04_Apply.L1 N m x k _ _
    rw [ref04_Apply.L1, if_pos (by omega)]
    have hi2 := hrc i hi
    refine loop_c (fun q (s : List Int) j => ref04_Apply.L2 N m x (tabl i fun i => IntKind.i32.wrap (dots (rowOf m c i) x c)) (i : Int) (ref04_Apply.L1 N m x k) q s j) (fun j => tabl j fun j => IntKind.i64.wrap (m.V.getD (i * c + j) 0 * x.getD j 0)) c _ (fun q j hj => ?_) (fun q => ?_) N (by omega)
    · show ref04_Apply.L2 N m x _ _ _ (q + 1) _ (j : Int) = _
      have e : IntKind.i64.wrap (IntKind.i64.wrap ((i : Int) * m.Cols) + (j : Int)) = ((i * c + j : Nat) : Int) := by
        rw [h2]
        have : (i : Int) * (c : Int) = ((i * c : Nat) : Int) := by simp
        rw [this, W_in (x := ((i * c : Nat) : Int)) (by omega), W_in (by omega)]
        omega
      rw [ref04_Apply.L2, if_pos (by omega), e, idx_d m.V 0 (by omega), Option.bind_some, idx_d x 0 (by omega), Option.bind_some, app_ok _ _ (by rw [tabl_len]; simp only [List.length_cons, List.length_nil]; omega), Option.bind_some, W_succ j (by omega), w_mul, tabl_succ]
    · show ref04_Apply.L2 N m x _ _ _ (q + 1) _ (c : Int) = _
      rw [ref04_Apply.L2, if_neg (by omega), wrap_is _ (by rw [tabl_len]; omega) (by rw [tabl_len]; omega), Option.bind_some, app_ok _ _ (by rw [tabl_len]; simp only [List.length_cons, List.length_nil]; omega), Option.bind_some, W_succ i (by omega)]
      have : ∀ k, k ≤ c → IntKind.i32.wrap (tot (tabl k fun j => IntKind.i64.wrap (m.V.getD (i * c + j) 0 * x.getD j 0))) = IntKind.i32.wrap (dots (rowOf m c i) x k) := by
        intro k
        induction k with
        | zero => intro _; rfl
        | succ k ih =>
          intro hk
          have ih := ih (by omega)
          rw [tabl_succ, tot_snoc, dots, w32_add, rowOf, tabl_getD _ _ _ _ (by omega)]
          rw [rowOf] at ih
          simp only [IntKind.wrap_i32] at ih ⊢
          omega
      rw [this c (Nat.le_refl _), tabl_succ]
  · show ref04_Apply.L1 N m x (k + 1) _ (r : Int) = _
    rw [ref04_Apply.L1, if_neg (by omega)]; rfl
theorem applyS_len (m : S_api_Mat) (x : List Int) (r c : Nat) : (applyS m x r c).length = r := tabl_len _ _
def quantsS (m : S_api_Mat) (x : List Int) (r c : Nat) : List Int := tabl r fun i => IntKind.i8.wrap (scl ((applyS m x r c).getD i 0) 1 7 (-128) 127)
theorem quantsS_len (m : S_api_Mat) (x : List Int) (r c : Nat) : (quantsS m x r c).length = r := tabl_len _ _
theorem wu_in {x : Int} (h : 0 ≤ x ∧ x < 18446744073709551616) : IntKind.u64.wrap x = x := by rw [IntKind.wrap_u64]; omega
theorem above_tot (a b c : Int) : ∃ t, ref02_above a b c = some t := by
  unfold ref02_above
  by_cases h1 : a = 0
  · exact ⟨_, if_pos h1⟩
  rw [if_neg h1]
  by_cases h2 : b = 0
  · exact ⟨_, if_pos h2⟩
  rw [if_neg h2, chk_ok _ h2, chk_ok _ h1]
  exact ⟨_, rfl⟩
theorem greatest_tot (x0 x1 : Int) : ∀ (k : Nat) (j1 j2 : Int), 0 ≤ j1 → j1 ≤ j2 → j2 ≤ 4294967296 → j2 - j1 ≤ 2 ^ k → ∃ r, ∀ m, k < m → ref02_greatest.L1 x0 x1 m j1 j2 = some r := by
  intro k
  induction k with
  | zero =>
    intro j1 j2 h0 h1 h2 h3
    refine ⟨j1, fun m hm => ?_⟩
    obtain ⟨m, rfl⟩ : ∃ q, m = q + 1 := ⟨m - 1, by omega⟩
    rw [ref02_greatest.L1, wu_in (by omega), if_neg (by simp at h3; omega)]
  | succ k ih =>
    intro j1 j2 h0 h1 h2 h3
    by_cases c : j2 - j1 > 1
    · obtain ⟨b, hb⟩ := above_tot ((j1 + j2) / 2) x0 x1
      have hp : (2 : Int) ^ (k + 1) = 2 ^ k * 2 := Int.pow_succ 2 k
      have hstep : ∀ m, ref02_greatest.L1 x0 x1 (m + 1) j1 j2 = if b = true then ref02_greatest.L1 x0 x1 m j1 ((j1 + j2) / 2) else ref02_greatest.L1 x0 x1 m ((j1 + j2) / 2) j2 := by
        intro m
        have e : IntKind.u64.wrap (Int.tdiv (IntKind.u64.wrap (j1 + j2)) 2) = (j1 + j2) / 2 := by
          rw [wu_in (x := j1 + j2) (by omega), Int.tdiv_eq_ediv_of_nonneg (by omega), wu_in (by omega)]
        rw [ref02_greatest.L1, wu_in (x := j2 - j1) (by omega), if_pos c, Option.bind_some, e, hb, Option.bind_some]
      cases b with
      | true =>
        obtain ⟨r, hr⟩ := ih j1 ((j1 + j2) / 2) h0 (by omega) (by omega) (by omega)
        refine ⟨r, fun m hm => ?_⟩
        obtain ⟨m, rfl⟩ : ∃ q, m = q + 1 := ⟨m - 1, by omega⟩
        rw [hstep, if_pos rfl]
        exact hr m (by omega)
      | false =>
        obtain ⟨r, hr⟩ := ih ((j1 + j2) / 2) j2 (by omega) (by omega) h2 (by omega)
        refine ⟨r, fun m hm => ?_⟩
        obtain ⟨m, rfl⟩ : ∃ q, m = q + 1 := ⟨m - 1, by omega⟩
        rw [hstep, if_neg (by decide)]
        exact hr m (by omega)
    · refine ⟨j1, fun m hm => ?_⟩
      obtain ⟨m, rfl⟩ : ∃ q, m = q + 1 := ⟨m - 1, by omega⟩
      rw [ref02_greatest.L1, wu_in (by omega), if_neg c]
def invS (n : Int) : Int := (ref02_Inverse 100 n).getD 0
theorem inverse_is {N : Nat} (hN : 100 ≤ N) (n : Int) : ref02_Inverse N n = some (invS n) := by
  unfold invS ref02_Inverse ref02_greatest
  by_cases h : n = 0
  · rw [if_pos h, if_pos h]; rfl
  · rw [if_neg h, if_neg h]
    obtain ⟨r, hr⟩ := greatest_tot n 281474976710656 32 0 4294967296 (by decide) (by decide) (by decide) (by decide)
    rw [hr N (by omega), hr 100 (by omega)]; rfl
def sqS (x : List Int) : Nat → Int
  | 0 => 0
  | k + 1 => IntKind.u64.wrap (sqS x k + IntKind.u64.wrap (IntKind.i64.wrap (min (max (IntKind.i64.wrap (x.getD k 0)) (-8388608)) 8388607 * min (max (IntKind.i64.wrap (x.getD k 0)) (-8388608)) 8388607)))
def normS (g x : List Int) : List Int := tabl x.length fun i => IntKind.i8.wrap (min (max (sh (IntKind.i64.wrap (IntKind.i64.wrap (min (max (IntKind.i64.wrap (x.getD i 0)) (-8388608)) 8388607 * IntKind.i64.wrap (invS (IntKind.u64.wrap (Int.tdiv (sqS x x.length) (IntKind.u64.wrap ((x.length : Nat) : Int)))))) * IntKind.i64.wrap (g.getD i 0))) 23) (-128)) 127)
theorem normS_len (g x : List Int) : (normS g x).length = x.length := tabl_len _ _
def tbl : List Int := (65536 :: 64132 :: 62757 :: 61413 :: 60097 :: 58809 :: 57549 :: 56316 :: 55109 :: 53928 :: 52773 :: 51642 :: 50535 :: 49452 :: 48393 :: 47356 :: 46341 :: 45348 :: 44376 :: 43425 :: 42495 :: 41584 :: 40693 :: 39821 :: 38968 :: 38133 :: 37316 :: 36516 :: 35734 :: 34968 :: 34219 :: 33486 :: 32768 :: [])
theorem T_is (i : Nat) (h : i < 33) : ref02_T (i : Int) = some (tbl.getD i 0) := by
  unfold ref02_T
  exact (congrArg (fun o => Option.bind o _) (idx_d tbl 0 (show i < tbl.length from h))).trans rfl
def expS (x : Int) : Int :=
  if x > 0 then 65536 else if x < -10000000 then 0 else
    let t := (0 - x) * 94548 / 65536
    if t / 65536 > 31 then 0 else
    IntKind.i32.wrap (sh (IntKind.i64.wrap (tbl.getD (t % 65536 / 2048).toNat 0 - sh (IntKind.i64.wrap (IntKind.i64.wrap (tbl.getD (t % 65536 / 2048).toNat 0 - tbl.getD ((t % 65536 / 2048).toNat + 1) 0) * (t % 65536 % 2048))) 11)) (t / 65536).toNat)
theorem exp_is {N : Nat} (hN : 100 ≤ N) (x : Int) : ref02_Exp N x = some (expS x) := by
  unfold ref02_Exp expS
  by_cases h1 : x > 0
  · rw [if_pos h1, if_pos h1]
  rw [if_neg h1, if_neg h1]
  by_cases h2 : x < -10000000
  · rw [if_pos h2, if_pos h2]
  rw [if_neg h2, if_neg h2]
  have e3 : IntKind.i64.wrap (Int.tdiv (IntKind.i64.wrap (IntKind.i64.wrap (0 - x) * 94548)) 65536) = (0 - x) * 94548 / 65536 := by
    rw [W_in (x := 0 - x) (by omega), W_in (x := (0 - x) * 94548) (by omega), Int.tdiv_eq_ediv_of_nonneg (by omega), W_in (by omega)]
  have ht : 0 ≤ (0 - x) * 94548 / 65536 ∧ (0 - x) * 94548 / 65536 ≤ 20000000 := by omega
  generalize (0 - x) * 94548 / 65536 = t at e3 ht ⊢
  have m1 : Int.tmod t 65536 = t % 65536 := Int.tmod_eq_emod_of_nonneg ht.1
  obtain ⟨i, hi⟩ := Int.eq_ofNat_of_zero_le (show 0 ≤ t % 65536 / 2048 by omega)
  have hi2 : i < 32 := by omega
  have e5 : IntKind.i64.wrap (Int.tdiv (Int.tmod t 65536) 2048) = (i : Int) := by
    rw [m1, Int.tdiv_eq_ediv_of_nonneg (by omega), hi, W_in (by omega)]
  have e6 : Int.tmod (Int.tmod t 65536) 2048 = t % 65536 % 2048 := by rw [m1, Int.tmod_eq_emod_of_nonneg (by omega)]
  have e4 : IntKind.i64.wrap (Int.tdiv t 65536) = t / 65536 := by rw [Int.tdiv_eq_ediv_of_nonneg ht.1, W_in (by omega)]
  rw [e3, Option.bind_some, e4, Option.bind_some, e5, Option.bind_some, e6, Option.bind_some, T_is i (by omega), Option.bind_some, Option.bind_some, W_succ i (by omega), T_is (i + 1) (by omega), Option.bind_some, refshift_is hN _ _ (W_range _), Option.bind_some]
  by_cases h3 : t / 65536 > 31
  · rw [if_pos h3, if_pos h3]
  · rw [if_neg h3, if_neg h3, refshift_is hN _ _ (W_range _), Option.bind_some, hi, Int.toNat_natCast]
    rw [show min (max (t / 65536) 0) 62 = t / 65536 by omega]
    rfl
theorem w32_range (x : Int) : -2147483648 ≤ IntKind.i32.wrap x ∧ IntKind.i32.wrap x ≤ 2147483647 := by rw [IntKind.wrap_i32]; omega
theorem expS_range (x : Int) : -2147483648 ≤ expS x ∧ expS x ≤ 2147483647 := by
  unfold expS
  split
  · decide
  split
  · decide
  dsimp only
  split
  · decide
  · exact w32_range _
def sumS (x : List Int) : Nat → Int
  | 0 => 0
  | k + 1 => if x.getD k 0 > 0 then sumS x k + x.getD k 0 else sumS x k
def sharesS (t : Int) (x : List Int) : List Int := tabl x.length fun i => if x.getD i 0 > 0 ∧ t > 0 then IntKind.i32.wrap (IntKind.i64.wrap (Int.tdiv (IntKind.i64.wrap (IntKind.i64.wrap (x.getD i 0) * IntKind.i64.wrap t)) (sumS x x.length))) else 0
def in32 (x : List Int) : Prop := ∀ k, -2147483648 ≤ x.getD k 0 ∧ x.getD k 0 ≤ 2147483647
theorem sumS_range (x : List Int) (h : in32 x) : ∀ k, 0 ≤ sumS x k ∧ sumS x k ≤ 2147483647 * k ∧ ∀ j, j < k → x.getD j 0 ≤ sumS x k
  | 0 => ⟨Int.le_refl _, Int.le_refl _, fun j hj => by omega⟩
  | k + 1 => by
    obtain ⟨a, b, c⟩ := sumS_range x h k
    have := h k
    rw [sumS]
    by_cases hk : x.getD k 0 > 0
    · rw [if_pos hk]
      refine ⟨by omega, by omega, fun j hj => ?_⟩
      by_cases e : j = k
      · subst e; omega
      · have := c j (by omega); omega
    · rw [if_neg hk]
      refine ⟨a, by omega, fun j hj => ?_⟩
      by_cases e : j = k
      · subst e; omega
      · exact c j (by omega)
theorem shares_is {N : Nat} (t : Int) (x : List Int) (h : in32 x) (hl : x.length ≤ 200) (hN : 200 < N) : ref02_Shares N t x = some (sharesS t x) := by
  unfold ref02_Shares
  refine loop_c (fun m (s : Int) i => ref02_Shares.L1 N t x m s i) (fun i => sumS x i) x.length _ (fun m i hi => ?_) (fun m => ?_) N (by omega)
  · show ref02_Shares.L1 N t x (m + 1) _ (i : Int) = ref02_Shares.L1 N t x m _ _
    obtain ⟨a, b, c⟩ := sumS_range x h i
    have hx := h i
    rw [ref02_Shares.L1, if_pos (by omega), idx_d x 0 hi, Option.bind_some]
    by_cases hk : x.getD i 0 > 0
    · rw [if_pos hk, Option.bind_some, Option.bind_some, ref02_Shares.J5, W_succ i (by omega), W_in (x := x.getD i 0) (by omega), W_in (by omega), sumS, if_pos hk]
    · rw [if_neg hk, ref02_Shares.J5, W_succ i (by omega), sumS, if_neg hk]
  · show ref02_Shares.L1 N t x (m + 1) _ (x.length : Int) = _
    rw [ref02_Shares.L1, if_neg (by omega)]
    refine loop_c (fun m (s : List Int) i => ref02_Shares.L2 t x (sumS x x.length) m s i) (fun i => tabl i fun i => if x.getD i 0 > 0 ∧ t > 0 then IntKind.i32.wrap (IntKind.i64.wrap (Int.tdiv (IntKind.i64.wrap (IntKind.i64.wrap (x.getD i 0) * IntKind.i64.wrap t)) (sumS x x.length))) else 0) x.length _ (fun m i hi => ?_) (fun m => ?_) N (by omega)
    · show ref02_Shares.L2 t x _ (m + 1) _ (i : Int) = ref02_Shares.L2 t x _ m _ _
      obtain ⟨a, b, c⟩ := sumS_range x h x.length
      have hx := c i hi
      rw [ref02_Shares.L2, if_pos (by omega), idx_d x 0 hi, Option.bind_some]
      have j4 : ∀ q : Bool, (q = true ↔ x.getD i 0 > 0 ∧ t > 0) → ref02_Shares.J4 t x (sumS x x.length) (tabl i fun i => if x.getD i 0 > 0 ∧ t > 0 then IntKind.i32.wrap (IntKind.i64.wrap (Int.tdiv (IntKind.i64.wrap (IntKind.i64.wrap (x.getD i 0) * IntKind.i64.wrap t)) (sumS x x.length))) else 0) (i : Int) (ref02_Shares.L2 t x (sumS x x.length) m) q = ref02_Shares.L2 t x (sumS x x.length) m (tabl (i + 1) fun i => if x.getD i 0 > 0 ∧ t > 0 then IntKind.i32.wrap (IntKind.i64.wrap (Int.tdiv (IntKind.i64.wrap (IntKind.i64.wrap (x.getD i 0) * IntKind.i64.wrap t)) (sumS x x.length))) else 0) ((i + 1 : Nat) : Int) := by
        intro q hq
        unfold ref02_Shares.J4 ref02_Shares.J3
        rw [W_succ i (by omega), tabl_succ]
        cases q with
        | true =>
          have hc := hq.1 rfl
          rw [if_pos rfl, idx_d x 0 hi, Option.bind_some, chk_ok _ (by omega), Option.bind_some, app_ok _ _ (by rw [tabl_len]; simp only [List.length_cons, List.length_nil]; omega), Option.bind_some, if_pos hc]
        | false =>
          rw [if_neg (by decide), app_ok _ _ (by rw [tabl_len]; simp only [List.length_cons, List.length_nil]; omega), Option.bind_some, if_neg (fun e => by cases hq.2 e)]
          rfl
      by_cases hk : x.getD i 0 > 0
      · rw [if_pos hk]
        exact j4 _ ⟨fun e => ⟨hk, of_decide_eq_true e⟩, fun e => decide_eq_true e.2⟩
      · rw [if_neg hk]
        exact j4 false ⟨fun e => (by cases e), fun e => absurd e.1 hk⟩
    · show ref02_Shares.L2 t x _ (m + 1) _ (x.length : Int) = _
      rw [ref02_Shares.L2, if_neg (by omega)]; rfl
theorem sharesS_len (t : Int) (x : List Int) : (sharesS t x).length = x.length := tabl_len _ _
def topS (x : List Int) (t : Int) : Nat → Int
  | 0 => t
  | k + 1 => if x.getD k 0 > topS x t k then x.getD k 0 else topS x t k
def powS (by_ n : Int) (x : List Int) : List Int := tabl x.length fun i => expS (sh (IntKind.i64.wrap (IntKind.i64.wrap (IntKind.i64.wrap (x.getD i 0) - IntKind.i64.wrap (topS x (x.getD i 0) x.length)) * IntKind.i64.wrap by_)) (min (max n 0) 62).toNat)
def softS (by_ n : Int) (x : List Int) : List Int := sharesS 65536 (powS by_ n x)
theorem softmax_is {N : Nat} (by_ n : Int) (x : List Int) (hl : x.length ≤ 200) (hN : 200 < N) : ref05_Softmax N by_ n x = some (softS by_ n x) := by
  unfold ref05_Softmax
  refine loop_c (fun m (s : List Int) i => ref05_Softmax.L1 N by_ n x m s i) (fun i => tabl i fun i => expS (sh (IntKind.i64.wrap (IntKind.i64.wrap (IntKind.i64.wrap (x.getD i 0) - IntKind.i64.wrap (topS x (x.getD i 0) x.length)) * IntKind.i64.wrap by_)) (min (max n 0) 62).toNat)) x.length _ (fun m i hi => ?_) (fun m => ?_) N (by omega)
  · show ref05_Softmax.L1 N by_ n x (m + 1) _ (i : Int) = ref05_Softmax.L1 N by_ n x m _ _
    rw [ref05_Softmax.L1, if_pos (by omega), idx_d x 0 hi, Option.bind_some]
    refine loop_c (fun q (s : Int) j => ref05_Softmax.L2 N by_ n x (tabl i fun i => expS (sh (IntKind.i64.wrap (IntKind.i64.wrap (IntKind.i64.wrap (x.getD i 0) - IntKind.i64.wrap (topS x (x.getD i 0) x.length)) * IntKind.i64.wrap by_)) (min (max n 0) 62).toNat)) (i : Int) (ref05_Softmax.L1 N by_ n x m) q s j) (fun j => topS x (x.getD i 0) j) x.length _ (fun q j hj => ?_) (fun q => ?_) N (by omega)
    · show ref05_Softmax.L2 N by_ n x _ _ _ (q + 1) _ (j : Int) = _
      rw [ref05_Softmax.L2, if_pos (by omega), idx_d x 0 hj, Option.bind_some]
      by_cases c : x.getD j 0 > topS x (x.getD i 0) j
      · rw [if_pos c, Option.bind_some, ref05_Softmax.J3, W_succ j (by omega), topS, if_pos c]
      · rw [if_neg c, ref05_Softmax.J3, W_succ j (by omega), topS, if_neg c]
    · show ref05_Softmax.L2 N by_ n x _ _ _ (q + 1) _ (x.length : Int) = _
      rw [ref05_Softmax.L2, if_neg (by omega), idx_d x 0 hi, Option.bind_some, refshift_is (by omega) _ _ (W_range _), Option.bind_some, exp_is (by omega), Option.bind_some, app_ok _ _ (by rw [tabl_len]; simp only [List.length_cons, List.length_nil]; omega), Option.bind_some, W_succ i (by omega), tabl_succ]
  · show ref05_Softmax.L1 N by_ n x (m + 1) _ (x.length : Int) = _
    rw [ref05_Softmax.L1, if_neg (by omega)]
    have hp : in32 (powS by_ n x) := by
      intro k
      by_cases hk : k < x.length
      · rw [powS, tabl_getD _ _ _ _ hk]; exact expS_range _
      · rw [List.getD_eq_getElem?_getD, List.getElem?_eq_none (by rw [powS, tabl_len]; omega)]; decide
    have := shares_is (N := N) 65536 (powS by_ n x) hp (by rw [powS, tabl_len]; omega) hN
    rw [powS] at this
    rw [this, Option.bind_some]
    rfl
theorem softS_len (by_ n : Int) (x : List Int) : (softS by_ n x).length = x.length := by rw [softS, sharesS_len, powS, tabl_len]
def accS (ws : List Int) (rows : List (List Int)) (k : Nat) : Nat → Int
  | 0 => 0
  | i + 1 => IntKind.i64.wrap (accS ws rows k i + IntKind.i64.wrap (IntKind.i64.wrap (ws.getD i 0) * IntKind.i64.wrap ((rows.getD i []).getD k 0)))
theorem accS_range (ws : List Int) (rows : List (List Int)) (k : Nat) : ∀ i, -9223372036854775808 ≤ accS ws rows k i ∧ accS ws rows k i ≤ 9223372036854775807
  | 0 => by rw [accS]; decide
  | i + 1 => W_range _
def mixS (ws : List Int) (rows : List (List Int)) (n : Nat) : List Int := tabl n fun k => IntKind.i8.wrap (min (max (sh (accS ws rows k rows.length) 16) (-128)) 127)
theorem mix_is {N : Nat} (ws : List Int) (rows : List (List Int)) (n : Nat) (hw : ws.length = rows.length) (h0 : 0 < rows.length) (hr : rows.length ≤ 200) (hn : ∀ i, i < rows.length → (rows.getD i []).length = n) (hn2 : n ≤ 200) (hN : 200 < N) : ref05_Mix N ws rows = some (mixS ws rows n, true) := by
  unfold ref05_Mix
  rw [if_neg (by omega)]
  have h00 : idx rows (0 : Int) = some (rows.getD 0 []) := idx_d rows [] h0
  have hn0 := hn 0 h0
  refine loop_c (fun m (_ : Unit) i => ref05_Mix.L1 N ws rows m i) (fun _ => ()) rows.length _ (fun m i hi => ?_) (fun m => ?_) N (by omega)
  · show ref05_Mix.L1 N ws rows (m + 1) (i : Int) = ref05_Mix.L1 N ws rows m _
    have := hn i hi
    rw [ref05_Mix.L1, if_pos (by omega), idx_d rows [] hi, Option.bind_some, h00, Option.bind_some, if_neg (by omega), W_succ i (by omega)]
  · show ref05_Mix.L1 N ws rows (m + 1) (rows.length : Int) = _
    rw [ref05_Mix.L1, if_neg (by omega), if_neg (by omega)]
    refine loop_c (fun m (s : List Int) i => ref05_Mix.L2 N ws rows m s i) (fun i => tabl i fun k => IntKind.i8.wrap (min (max (sh (accS ws rows k rows.length) 16) (-128)) 127)) n _ (fun m k hk => ?_) (fun m => ?_) N (by omega)
    · show ref05_Mix.L2 N ws rows (m + 1) _ (k : Int) = ref05_Mix.L2 N ws rows m _ _
      rw [ref05_Mix.L2, h00, Option.bind_some, if_pos (by omega)]
      refine loop_c (fun q (s : Int) j => ref05_Mix.L3 N ws rows (tabl k fun k => IntKind.i8.wrap (min (max (sh (accS ws rows k rows.length) 16) (-128)) 127)) (k : Int) (ref05_Mix.L2 N ws rows m) q s j) (fun j => accS ws rows k j) rows.length _ (fun q j hj => ?_) (fun q => ?_) N (by omega)
      · show ref05_Mix.L3 N ws rows _ _ _ (q + 1) _ (j : Int) = _
        have := hn j hj
        rw [ref05_Mix.L3, if_pos (by omega), idx_d ws 0 (by omega), Option.bind_some, idx_d rows [] hj, Option.bind_some, idx_d _ 0 (by omega), Option.bind_some, W_succ j (by omega)]
        rfl
      · show ref05_Mix.L3 N ws rows _ _ _ (q + 1) _ (rows.length : Int) = _
        rw [ref05_Mix.L3, if_neg (by omega), refshift_is (by omega) _ _ (accS_range _ _ _ _), Option.bind_some, near_is _ _ _ (by decide), Option.bind_some, app_ok _ _ (by rw [tabl_len]; simp only [List.length_cons, List.length_nil]; omega), Option.bind_some, W_succ k (by omega), tabl_succ]
        rfl
    · show ref05_Mix.L2 N ws rows (m + 1) _ (n : Int) = _
      rw [ref05_Mix.L2, h00, Option.bind_some, if_neg (by omega)]; rfl
theorem mixS_len (ws : List Int) (rows : List (List Int)) (n : Nat) : (mixS ws rows n).length = n := tabl_len _ _
theorem rest_is (x : Int) (hx : -9223372036854775808 ≤ x ∧ x ≤ 9223372036854775807) : ref06_rest x = some (x % 65536) := by
  have a := Int.tmod_lt_of_pos x (show (0 : Int) < 65536 by decide)
  have b := Int.lt_tmod_of_pos x (show (0 : Int) < 65536 by decide)
  have h := Int.tmod_add_mul_tdiv x 65536
  unfold ref06_rest
  by_cases c : Int.tmod x 65536 < 0
  · rw [if_pos c, Option.bind_some, W_in (by omega)]
    congr 1; omega
  · rw [if_neg c]; congr 1; omega
def angS (place pair : Nat) : Int := (place : Int) * (8192 / 2 ^ pair) % 65536
theorem angle_is {N : Nat} (place pair : Nat) (hp : place ≤ 1000) (hq : pair ≤ 13) (hN : 200 < N) : ref06_Angle N (place : Int) (pair : Int) = some (angS place pair) := by
  unfold ref06_Angle
  rw [if_neg (by omega), if_neg (by omega), if_neg (by omega)]
  have hpos : ∀ i, i ≤ 13 → (0 : Int) < 8192 / 2 ^ i ∧ (8192 : Int) / 2 ^ i ≤ 8192 ∧ (8192 : Int) / 2 ^ i / 2 = 8192 / 2 ^ (i + 1) := by decide
  refine loop_c (fun m (s : Int) i => ref06_Angle.L1 (place : Int) (pair : Int) m s i) (fun i => 8192 / 2 ^ i) pair _ (fun m i hi => ?_) (fun m => ?_) N (by omega)
  · show ref06_Angle.L1 _ _ (m + 1) _ (i : Int) = ref06_Angle.L1 _ _ m _ _
    obtain ⟨h1, h2, h3⟩ := hpos i (by omega)
    rw [ref06_Angle.L1, if_pos (by omega), decide_eq_true h1, ref06_Angle.J2, if_pos rfl, Int.tdiv_eq_ediv_of_nonneg (by omega), W_in (by omega), Option.bind_some, W_succ i (by omega), h3]
  · show ref06_Angle.L1 _ _ (m + 1) _ (pair : Int) = _
    obtain ⟨h1, h2, h3⟩ := hpos pair hq
    have hm : (place : Int) * (8192 / 2 ^ pair) ≤ 1000 * 8192 := by
      refine Int.le_trans (Int.mul_le_mul_of_nonneg_right (show (place : Int) ≤ 1000 by omega) (by omega)) ?_
      exact Int.mul_le_mul_of_nonneg_left h2 (by decide)
    have hm0 : 0 ≤ (place : Int) * (8192 / 2 ^ pair) := Int.mul_nonneg (by omega) (by omega)
    rw [ref06_Angle.L1, if_neg (by omega), ref06_Angle.J2, if_neg (by decide), W_in (by omega), rest_is _ (by omega), Option.bind_some]
    rfl
def sinT : List Int := (0 :: 804 :: 1606 :: 2404 :: 3196 :: 3981 :: 4756 :: 5520 :: 6270 :: 7005 :: 7723 :: 8423 :: 9102 :: 9760 :: 10394 :: 11003 :: 11585 :: 12140 :: 12665 :: 13160 :: 13623 :: 14053 :: 14449 :: 14811 :: 15137 :: 15426 :: 15679 :: 15893 :: 16069 :: 16207 :: 16305 :: 16364 :: 16384 :: [])
theorem S_is (i : Nat) (h : i < 33) : ref06_S (i : Int) = some (sinT.getD i 0) := by
  unfold ref06_S
  exact (congrArg (fun o => Option.bind o _) (idx_d sinT 0 (show i < sinT.length from h))).trans rfl
def arcS (f : Int) : Int := if f / 512 < 32 then IntKind.i64.wrap (sinT.getD (f / 512).toNat 0 + sh (IntKind.i64.wrap (IntKind.i64.wrap (sinT.getD ((f / 512).toNat + 1) 0 - sinT.getD (f / 512).toNat 0) * (f % 512))) 9) else sinT.getD 32 0
def sinS (a : Int) : Int :=
  let r := a % 65536; let q := r / 16384; let f := if q = 1 ∨ q = 3 then 16384 - r % 16384 else r % 16384
  if q = 2 ∨ q = 3 then IntKind.i32.wrap (IntKind.i64.wrap (0 - arcS f)) else IntKind.i32.wrap (arcS f)
theorem sin_is {N : Nat} (hN : 200 < N) (a : Int) (ha : -9223372036854775808 ≤ a ∧ a ≤ 9223372036854775807) : ref06_Sin N a = some (sinS a) := by
  have hr : 0 ≤ a % 65536 ∧ a % 65536 < 65536 := by omega
  unfold ref06_Sin sinS
  rw [rest_is a ha, Option.bind_some]
  generalize a % 65536 = r at hr ⊢
  dsimp only
  have eq : IntKind.i64.wrap (Int.tdiv r 16384) = r / 16384 := by rw [Int.tdiv_eq_ediv_of_nonneg hr.1, W_in (by omega)]
  have em : Int.tmod r 16384 = r % 16384 := Int.tmod_eq_emod_of_nonneg hr.1
  have hq : 0 ≤ r / 16384 ∧ r / 16384 ≤ 3 := by omega
  rw [eq, Option.bind_some]
  generalize r / 16384 = q at hq ⊢
  have j1 : ∀ f : Int, 0 ≤ f → f ≤ 16384 → ref06_Sin.J1 N q f = some (if q = 2 ∨ q = 3 then IntKind.i32.wrap (IntKind.i64.wrap (0 - arcS f)) else IntKind.i32.wrap (arcS f)) := by
    intro f h0 h1
    have j3 : ∀ z : Int, ref06_Sin.J3 q z = some (if q = 2 ∨ q = 3 then IntKind.i32.wrap (IntKind.i64.wrap (0 - z)) else IntKind.i32.wrap z) := by
      intro z
      unfold ref06_Sin.J3
      by_cases c2 : q = 2
      · rw [if_pos c2, ref06_Sin.J4, if_pos rfl, if_pos (.inl c2)]; rfl
      · rw [if_neg c2]
        by_cases c3 : q = 3
        · rw [decide_eq_true c3, ref06_Sin.J4, if_pos rfl, if_pos (.inr c3)]; rfl
        · rw [decide_eq_false c3, ref06_Sin.J4, if_neg (by decide), if_neg (by omega)]
    obtain ⟨i, hi⟩ := Int.eq_ofNat_of_zero_le (show 0 ≤ f / 512 by omega)
    have hi2 : i ≤ 32 := by omega
    have e11 : IntKind.i64.wrap (Int.tdiv f 512) = (i : Int) := by rw [Int.tdiv_eq_ediv_of_nonneg h0, hi, W_in (by omega)]
    unfold ref06_Sin.J1
    rw [e11, Option.bind_some, S_is i (by omega), Option.bind_some]
    unfold arcS
    by_cases c : f / 512 < 32
    · rw [if_pos (show (i : Int) < 32 by omega), W_succ i (by omega), S_is (i + 1) (by omega), Option.bind_some, Option.bind_some, refshift_is (by omega) _ _ (W_range _), Option.bind_some, j3, if_pos c, hi, Int.toNat_natCast, Int.tmod_eq_emod_of_nonneg h0]
      rfl
    · obtain rfl : i = 32 := by omega
      rw [if_neg (by decide), j3, if_neg c]
  by_cases c1 : q = 1
  · rw [if_pos c1, ref06_Sin.J2, if_pos rfl, em, W_in (by omega), Option.bind_some, j1 _ (by omega) (by omega), if_pos (show q = 1 ∨ q = 3 from .inl c1)]
  · rw [if_neg c1]
    by_cases c3 : q = 3
    · rw [decide_eq_true c3, ref06_Sin.J2, if_pos rfl, em, W_in (by omega), Option.bind_some, j1 _ (by omega) (by omega), if_pos (show q = 1 ∨ q = 3 from .inr c3)]
    · rw [decide_eq_false c3, ref06_Sin.J2, if_neg (by decide), em, j1 _ (by omega) (by omega), if_neg (show ¬ (q = 1 ∨ q = 3) by omega)]
def cosS (a : Int) : Int := sinS (a % 65536 + 16384)
theorem cos_is {N : Nat} (hN : 200 < N) (a : Int) (ha : -9223372036854775808 ≤ a ∧ a ≤ 9223372036854775807) : ref06_Cos N a = some (cosS a) := by
  unfold ref06_Cos cosS
  rw [rest_is a ha, Option.bind_some, W_in (by omega), sin_is hN _ (by omega), Option.bind_some]
def turnA (place : Nat) (x : List Int) (i : Nat) : Int := IntKind.i8.wrap (min (max (sh (IntKind.i64.wrap (IntKind.i64.wrap (IntKind.i64.wrap (x.getD (2 * i) 0) * IntKind.i64.wrap (cosS (angS place i))) - IntKind.i64.wrap (IntKind.i64.wrap (x.getD (2 * i + 1) 0) * IntKind.i64.wrap (sinS (angS place i))))) 14) (-128)) 127)
def turnB (place : Nat) (x : List Int) (i : Nat) : Int := IntKind.i8.wrap (min (max (sh (IntKind.i64.wrap (IntKind.i64.wrap (IntKind.i64.wrap (x.getD (2 * i) 0) * IntKind.i64.wrap (sinS (angS place i))) + IntKind.i64.wrap (IntKind.i64.wrap (x.getD (2 * i + 1) 0) * IntKind.i64.wrap (cosS (angS place i))))) 14) (-128)) 127)
def turnS (place : Nat) (x : List Int) : List Int := tabl (2 * (x.length / 2)) fun k => if k % 2 = 0 then turnA place x (k / 2) else turnB place x (k / 2)
theorem turn_is {N : Nat} (hN : 200 < N) (place : Nat) (hp : place ≤ 1000) (x : List Int) (hx : x.length ≤ 26) : ref06_Turn N (place : Int) x = some (turnS place x) := by
  unfold ref06_Turn
  obtain ⟨m', s', hs, e⟩ := loop_to (fun m (s : List Int) i => ref06_Turn.L1 N (place : Int) x m s i) (fun i => ((2 * i : Nat) : Int)) (x.length / 2) (fun i s => s = tabl (2 * i) fun k => if k % 2 = 0 then turnA place x (k / 2) else turnB place x (k / 2)) (fun m i s hi hs => by
    refine ⟨_, rfl, ?_⟩
    subst hs
    have ha : 0 ≤ angS place i ∧ angS place i < 65536 := by unfold angS; omega
    have e1 : IntKind.i64.wrap (((2 * i : Nat) : Int) + 1) = ((2 * i + 1 : Nat) : Int) := W_succ _ (by omega)
    have e2 : IntKind.i64.wrap (((2 * i : Nat) : Int) + 2) = ((2 * (i + 1) : Nat) : Int) := by rw [W_in (by omega)]; omega
    have e3 : IntKind.i64.wrap (Int.tdiv ((2 * i : Nat) : Int) 2) = (i : Int) := by rw [Int.tdiv_eq_ediv_of_nonneg (by omega), W_in (by omega)]; omega
    show ref06_Turn.L1 N _ x (m + 1) _ ((2 * i : Nat) : Int) = ref06_Turn.L1 N _ x m _ _
    rw [ref06_Turn.L1, e1, if_pos (by omega), e3, angle_is place i hp (by omega) hN, Option.bind_some, cos_is hN _ (by omega), Option.bind_some, sin_is hN _ (by omega), Option.bind_some, idx_d x 0 (by omega), Option.bind_some, idx_d x 0 (by omega), Option.bind_some,
      refshift_is (by omega) _ _ (W_range _), Option.bind_some, near_is _ _ _ (by decide), Option.bind_some, app_ok _ _ (by rw [tabl_len]; simp only [List.length_cons, List.length_nil]; omega), Option.bind_some, refshift_is (by omega) _ _ (W_range _), Option.bind_some, near_is _ _ _ (by decide), Option.bind_some, app_ok _ _ (by rw [List.length_append, tabl_len]; simp only [List.length_cons, List.length_nil]; omega), Option.bind_some, e2]
    congr 1
    rw [show 2 * (i + 1) = 2 * i + 1 + 1 by omega, tabl_succ, tabl_succ, if_pos (by omega), if_neg (by omega), show 2 * i / 2 = i by omega, show (2 * i + 1) / 2 = i by omega]
    rfl) N [] (by omega) rfl
  subst hs
  refine Eq.trans e ?_
  show ref06_Turn.L1 N _ x (m' + 1) _ ((2 * (x.length / 2) : Nat) : Int) = _
  rw [ref06_Turn.L1, W_succ _ (by omega), if_neg (by omega)]
  rfl
theorem turnS_len (place : Nat) (x : List Int) : (turnS place x).length = 2 * (x.length / 2) := tabl_len _ _
def part (x : List Int) (w h : Nat) : List Int := (x.take ((h + 1) * w)).drop (h * w)
theorem part_len (x : List Int) (w h k : Nat) (hx : x.length = k * w) (hh : h < k) : (part x w h).length = w := by
  have : (h + 1) * w ≤ k * w := Nat.mul_le_mul_right w (by omega)
  unfold part
  rw [List.length_drop, List.length_take, Nat.min_eq_left (by omega), Nat.succ_mul]
  omega
def turnedS (place w : Nat) (x : List Int) : Nat → List Int
  | 0 => []
  | k + 1 => turnedS place w x k ++ turnS place (part x w k)
theorem turnedS_len (place w : Nat) (x : List Int) (n : Nat) (hx : x.length = n * w) (hw : w % 2 = 0) : ∀ k, k ≤ n → (turnedS place w x k).length = k * w
  | 0, _ => by simp [turnedS]
  | k + 1, hk => by
    rw [turnedS, List.length_append, turnedS_len place w x n hx hw k (by omega), turnS_len, part_len x w k n hx (by omega)]
    have : (k + 1) * w = k * w + w := Nat.succ_mul k w
    have : 2 * (w / 2) = w := by omega
    omega
set_option linter.unusedSectionVars false
structure Dim where
  ly : Nat
  h : Nat
  wd : Nat
  inn : Nat
  voc : Nat
  pl : Nat
def Dim.w (d : Dim) : Nat := d.h * d.wd
structure DOK (d : Dim) : Prop where
  ly : 0 < d.ly ∧ d.ly ≤ 3
  h : 0 < d.h ∧ d.h ≤ 4
  wd : 0 < d.wd ∧ d.wd % 2 = 0 ∧ d.wd ≤ 16
  w : d.h * d.wd ≤ 16
  inn : 0 < d.inn ∧ d.inn ≤ 8
  voc : 0 < d.voc ∧ d.voc ≤ 10
  pl : d.pl ≤ 12
structure BOK (d : Dim) (b : S_api_Block) : Prop where
  first : b.First.length = d.w
  second : b.Second.length = d.w
  q : matR b.Q d.w d.w
  k : matR b.K d.w d.w
  v : matR b.V d.w d.w
  o : matR b.O d.w d.w
  up : matR b.Up d.inn d.w
  down : matR b.Down d.w d.inn
structure WOK (d : Dim) (w : S_api_Weights) : Prop where
  layers : w.Shape.Layers = d.ly
  width : w.Shape.Width = (d.w : Nat)
  heads : w.Shape.Heads = d.h
  inner : w.Shape.Inner = d.inn
  vocab : w.Shape.Vocab = d.voc
  places : w.Shape.Places = d.pl
  embed : matR w.Embed d.voc d.w
  blen : w.Blocks.length = d.ly
  blocks : ∀ b ∈ w.Blocks, BOK d b
  last : w.Last.length = d.w
  head : matR w.Head d.voc d.w
def zB : S_api_Block := ⟨[], [], ⟨0, 0, []⟩, ⟨0, 0, []⟩, ⟨0, 0, []⟩, ⟨0, 0, []⟩, ⟨0, 0, []⟩, ⟨0, 0, []⟩⟩
def reluS (u : List Int) : List Int := tabl u.length fun i => if u.getD i 0 < 0 then 0 else u.getD i 0
theorem getD_in {α : Type} (l : List α) (z : α) (k : Nat) (h : k < l.length) : l.getD k z ∈ l := by
  rw [List.getD_eq_getElem?_getD, List.getElem?_eq_getElem h]; exact List.getElem_mem h
theorem matR_eta (m : S_api_Mat) : (⟨m.Rows, m.Cols, m.V⟩ : S_api_Mat) = m := rfl
section
variable {d : Dim} (hd : DOK d)
include hd
theorem dw16 : d.w ≤ 16 := hd.w
end
section
variable {d : Dim} (hd : DOK d)
include hd
end
section
variable {d : Dim} (hd : DOK d)
include hd
end
section
variable {d : Dim} (hd : DOK d)
include hd
end
section
variable {d : Dim} (hd : DOK d)
include hd
end
theorem rest7_is (x : Int) (m : Nat) (h : 0 < m) (hb : m ≤ 1000) : ∃ k : Nat, k < m ∧ ref07_rest x (m : Int) = some (k : Int) := by
  obtain ⟨k, hk, e⟩ := W_restN x m h (by omega)
  refine ⟨k, hk, ?_⟩
  unfold ref07_rest
  rw [chk_ok _ (by omega), chk_ok _ (by omega), e, Option.bind_some]
def shapeS (d : Dim) : S_api_Shape := ⟨(d.ly : Int), ((d.w : Nat) : Int), (d.h : Int), (d.inn : Int), (d.voc : Int), (d.pl : Int)⟩
theorem tiny_is (n : A6_i64) : ∃ d : Dim, DOK d ∧ 2 ≤ d.voc ∧ 4 ≤ d.pl ∧ ref07_Tiny n = some (shapeS d) := by
  obtain ⟨a, ha, ea⟩ := rest7_is n.c2 3 (by decide) (by decide)
  obtain ⟨b, hb, eb⟩ := rest7_is n.c0 3 (by decide) (by decide)
  obtain ⟨c, hc, ec⟩ := rest7_is n.c1 2 (by decide) (by decide)
  obtain ⟨e, he, ee⟩ := rest7_is n.c3 8 (by decide) (by decide)
  obtain ⟨f, hf, ef⟩ := rest7_is n.c4 9 (by decide) (by decide)
  obtain ⟨g, hg, eg⟩ := rest7_is n.c5 9 (by decide) (by decide)
  have hh : ∃ h : Nat, 0 < h ∧ h ≤ 4 ∧ idx ([1, 2, 4] : List Int) (a : Int) = some (h : Int) := by
    match a, ha with
    | 0, _ => exact ⟨1, by decide, by decide, rfl⟩
    | 1, _ => exact ⟨2, by decide, by decide, rfl⟩
    | 2, _ => exact ⟨4, by decide, by decide, rfl⟩
  obtain ⟨h, h0, h4, eh⟩ := hh
  have hw : h * (2 * (1 + c)) ≤ 4 * 4 := Nat.mul_le_mul h4 (by omega)
  refine ⟨⟨1 + b, h, 2 * (1 + c), 1 + e, 2 + f, 4 + g⟩, ⟨by dsimp only; omega, by dsimp only; omega, by dsimp only; omega, hw, by dsimp only; omega, by dsimp only; omega, by dsimp only; omega⟩, by dsimp only; omega, by dsimp only; omega, ?_⟩
  have ea' : ref07_rest n.c2 3 = some (a : Int) := ea
  have eb' : ref07_rest n.c0 3 = some (b : Int) := eb
  have ec' : ref07_rest n.c1 2 = some (c : Int) := ec
  have ee' : ref07_rest n.c3 8 = some (e : Int) := ee
  have ef' : ref07_rest n.c4 9 = some (f : Int) := ef
  have eg' : ref07_rest n.c5 9 = some (g : Int) := eg
  unfold ref07_Tiny
  rw [ea', Option.bind_some, eh, Option.bind_some, eb', Option.bind_some, ec', Option.bind_some, ee', Option.bind_some, ef', Option.bind_some, eg', Option.bind_some]
  have e1 : IntKind.i64.wrap (1 + (b : Int)) = ((1 + b : Nat) : Int) := by rw [W_in (by omega)]; omega
  have e2 : IntKind.i64.wrap (IntKind.i64.wrap (2 * (h : Int)) * IntKind.i64.wrap (1 + (c : Int))) = ((h * (2 * (1 + c)) : Nat) : Int) := by
    rw [W_in (x := 2 * (h : Int)) (by omega), W_in (x := 1 + (c : Int)) (by omega)]
    have : 2 * (h : Int) * (1 + (c : Int)) = ((h * (2 * (1 + c)) : Nat) : Int) := by
      rw [Int.natCast_mul, Int.natCast_mul, Int.natCast_add, Int.mul_comm 2 (h : Int), Int.mul_assoc]; rfl
    rw [this, W_in (by omega)]
  have e3 : IntKind.i64.wrap (1 + (e : Int)) = ((1 + e : Nat) : Int) := by rw [W_in (by omega)]; omega
  have e4 : IntKind.i64.wrap (2 + (f : Int)) = ((2 + f : Nat) : Int) := by rw [W_in (by omega)]; omega
  have e5 : IntKind.i64.wrap (4 + (g : Int)) = ((4 + g : Nat) : Int) := by rw [W_in (by omega)]; omega
  rw [e1, e2, e3, e4, e5]
  rfl
def perL (d : Dim) : Nat := d.w + 4 * (d.w * d.w) + d.w + d.inn * d.w + d.w * d.inn
def countS (d : Dim) : Nat := d.voc * d.w + d.ly * perL d + d.w + d.voc * d.w
def layR (d : Dim) : List S_ref07_Row := [⟨true, ((d.w : Nat) : Int)⟩, ⟨false, ((d.w * d.w : Nat) : Int)⟩, ⟨false, ((d.w * d.w : Nat) : Int)⟩, ⟨false, ((d.w * d.w : Nat) : Int)⟩, ⟨false, ((d.w * d.w : Nat) : Int)⟩, ⟨true, ((d.w : Nat) : Int)⟩, ⟨false, ((d.inn * d.w : Nat) : Int)⟩, ⟨false, ((d.w * d.inn : Nat) : Int)⟩]
def rowsS (d : Dim) : Nat → List S_ref07_Row
  | 0 => [⟨false, ((d.voc * d.w : Nat) : Int)⟩]
  | k + 1 => rowsS d k ++ layR d
def sumN : List S_ref07_Row → Int
  | [] => 0
  | r :: rs => r.N + sumN rs
theorem sumN_app (a b : List S_ref07_Row) : sumN (a ++ b) = sumN a + sumN b := by
  induction a with
  | nil => simp [sumN]
  | cons r rs ih => rw [List.cons_append, sumN, sumN, ih]; omega
section
variable {d : Dim} (hd : DOK d)
include hd
theorem w_mulN (a b : Nat) (h : a * b ≤ 100000) : IntKind.i64.wrap ((a : Int) * (b : Int)) = ((a * b : Nat) : Int) := by
  have : (a : Int) * (b : Int) = ((a * b : Nat) : Int) := by simp
  rw [this, W_in (by omega)]
theorem prods : d.w * d.w ≤ 256 ∧ d.inn * d.w ≤ 128 ∧ d.w * d.inn ≤ 128 ∧ d.voc * d.w ≤ 160 := by
  have h := dw16 hd; have h1 := hd.inn; have h2 := hd.voc
  exact ⟨Nat.mul_le_mul h h, Nat.mul_le_mul h1.2 h, Nat.mul_le_mul h h1.2, Nat.mul_le_mul h2.2 h⟩
theorem rowsS_len : ∀ k, (rowsS d k).length = 1 + 8 * k
  | 0 => rfl
  | k + 1 => by rw [rowsS, List.length_append, rowsS_len k]; simp [layR]; omega
theorem rowsS_sum : ∀ k, sumN (rowsS d k) = ((d.voc * d.w + k * perL d : Nat) : Int)
  | 0 => by simp [rowsS, sumN]
  | k + 1 => by
    rw [rowsS, sumN_app, rowsS_sum k]
    have e : sumN (layR d) = ((perL d : Nat) : Int) := by simp only [layR, sumN, perL]; omega
    rw [e, Nat.succ_mul]; omega
theorem rows_is {N : Nat} (hN : 200 < N) : ref07_Rows N (shapeS d) = some (rowsS d d.ly ++ [⟨true, ((d.w : Nat) : Int)⟩, ⟨false, ((d.voc * d.w : Nat) : Int)⟩]) := by
  obtain ⟨p1, p2, p3, p4⟩ := prods hd
  have hly := hd.ly
  unfold ref07_Rows
  have e0 : IntKind.i64.wrap ((shapeS d).Vocab * (shapeS d).Width) = ((d.voc * d.w : Nat) : Int) := w_mulN hd d.voc d.w (by omega)
  have e1 : IntKind.i64.wrap ((shapeS d).Width * (shapeS d).Width) = ((d.w * d.w : Nat) : Int) := w_mulN hd d.w d.w (by omega)
  have e2 : IntKind.i64.wrap ((shapeS d).Inner * (shapeS d).Width) = ((d.inn * d.w : Nat) : Int) := w_mulN hd d.inn d.w (by omega)
  have e3 : IntKind.i64.wrap ((shapeS d).Width * (shapeS d).Inner) = ((d.w * d.inn : Nat) : Int) := w_mulN hd d.w d.inn (by omega)
  rw [e0]
  refine loop_c (fun m (s : List S_ref07_Row) i => ref07_Rows.L1 (shapeS d) m s i) (fun i => rowsS d i) d.ly _ (fun m i hi => ?_) (fun m => ?_) N (by omega)
  · show ref07_Rows.L1 (shapeS d) (m + 1) _ (i : Int) = ref07_Rows.L1 (shapeS d) m _ _
    have hl := rowsS_len hd i
    rw [ref07_Rows.L1, if_pos (by show (i : Int) < (d.ly : Int); omega), e1, e2, e3, app_ok _ _ (by simp only [List.length_cons, List.length_nil]; omega), Option.bind_some, W_succ i (by omega)]
    rfl
  · show ref07_Rows.L1 (shapeS d) (m + 1) _ (d.ly : Int) = _
    have hl := rowsS_len hd d.ly
    rw [ref07_Rows.L1, if_neg (by show ¬ (d.ly : Int) < (d.ly : Int); omega), e0, app_ok _ _ (by simp only [List.length_cons, List.length_nil]; omega), Option.bind_some]
    rfl
theorem grown_is {N : Nat} (hN : 5000 ≤ N) (seed : Int) : ∃ l : List Int, ref07_Grown N (shapeS d) seed = some l ∧ l.length = countS d := by
  obtain ⟨p1, p2, p3, p4⟩ := prods hd
  have hly := hd.ly; have hw := dw16 hd
  unfold ref07_Grown
  try rw [show (⟨(shapeS d).Layers, (shapeS d).Width, (shapeS d).Heads, (shapeS d).Inner, (shapeS d).Vocab, (shapeS d).Places⟩ : S_api_Shape) = shapeS d from rfl]
  rw [rows_is hd (by omega), Option.bind_some]
  generalize hrs : rowsS d d.ly ++ [(⟨true, ((d.w : Nat) : Int)⟩ : S_ref07_Row), ⟨false, ((d.voc * d.w : Nat) : Int)⟩] = rs
  have hlen : rs.length = 8 * d.ly + 3 := by rw [← hrs, List.length_append, rowsS_len hd]; simp; omega
  have hsum : sumN rs = ((countS d : Nat) : Int) := by
    rw [← hrs, sumN_app, rowsS_sum hd]; simp only [sumN, countS]; omega
  have hrange : ∀ r ∈ rs, 0 ≤ r.N ∧ r.N ≤ 256 := by
    have hlay : ∀ r ∈ layR d, 0 ≤ r.N ∧ r.N ≤ 256 := by
      intro r hr
      simp only [layR, List.mem_cons, List.not_mem_nil, or_false] at hr
      rcases hr with rfl | rfl | rfl | rfl | rfl | rfl | rfl | rfl <;> dsimp only <;> omega
    have hro : ∀ k, ∀ r ∈ rowsS d k, 0 ≤ r.N ∧ r.N ≤ 256 := by
      intro k
      induction k with
      | zero => intro r hr; simp only [rowsS, List.mem_singleton] at hr; subst hr; dsimp only; omega
      | succ k ih => intro r hr; rw [rowsS] at hr; rcases List.mem_append.1 hr with h | h; exact ih r h; exact hlay r h
    intro r hr
    rw [← hrs] at hr
    rcases List.mem_append.1 hr with h | h
    · exact hro _ r h
    · simp only [List.mem_cons, List.not_mem_nil, or_false] at h
      rcases h with rfl | rfl <;> dsimp only <;> omega
  obtain ⟨m', s', hs1, e⟩ := loop_to (fun m (s : List Int × Int) i => ref07_Grown.L1 N rs m s.1 s.2 i) (fun i => (i : Int)) rs.length (fun i s => ((s.1.length : Nat) : Int) = sumN (rs.take i)) (fun m i s hi hs1 => by
    have hri := hrange rs[i] (List.getElem_mem hi)
    obtain ⟨n, hn⟩ := Int.eq_ofNat_of_zero_le hri.1
    have hbnd : sumN (rs.take i) ≤ 256 * i := by
      have : ∀ k, k ≤ rs.length → sumN (rs.take k) ≤ 256 * k := by
        intro k
        induction k with
        | zero => intro _; simp [sumN]
        | succ k ih =>
          intro hk
          have h1 := ih (by omega)
          have h2 := hrange rs[k] (List.getElem_mem (by omega))
          rw [List.take_succ_eq_append_getElem (by omega), sumN_app]
          simp only [sumN]; omega
      exact this i (by omega)
    obtain ⟨m2, z, hz1, e2⟩ := loop_to (fun q (z : List Int × Int) j => ref07_Grown.L2 N rs (i : Int) (ref07_Grown.L1 N rs m) q z.1 z.2 j) (fun j => (j : Int)) n (fun j z => z.1.length = s.1.length + j) (fun q j z hj hz1 => by
      have j3 : ∀ g : Int, ∃ z' : List Int × Int, z'.1.length = s.1.length + (j + 1) ∧ ref07_Grown.J3 z.1 (j : Int) (IntKind.u64.wrap (IntKind.u64.wrap (z.2 * 6364136223846793005) + 1442695040888963407)) (ref07_Grown.L2 N rs (i : Int) (ref07_Grown.L1 N rs m) q) g = ref07_Grown.L2 N rs (i : Int) (ref07_Grown.L1 N rs m) q z'.1 z'.2 ((j + 1 : Nat) : Int) := by
        intro g
        refine ⟨(z.1 ++ [IntKind.i8.wrap g], IntKind.u64.wrap (IntKind.u64.wrap (z.2 * 6364136223846793005) + 1442695040888963407)), by simp [hz1]; omega, ?_⟩
        · unfold ref07_Grown.J3
          rw [app_ok _ _ (by simp only [List.length_cons, List.length_nil]; omega), Option.bind_some, W_succ j (by omega)]
      show ∃ s', _ ∧ ref07_Grown.L2 N rs (i : Int) (ref07_Grown.L1 N rs m) (q + 1) z.1 z.2 (j : Int) = _
      rw [ref07_Grown.L2, idx_get _ _ hi, Option.bind_some, if_pos (by omega), Option.bind_some, Option.bind_some, Option.bind_some]
      by_cases c : rs[i].Gain = true
      · rw [if_pos c, Option.bind_some]; exact j3 _
      · rw [if_neg c]; exact j3 _) N s (by omega) rfl
    refine ⟨z, ?_, ?_⟩
    · rw [List.take_succ_eq_append_getElem hi, sumN_app, ← hs1]
      simp only [sumN]; omega
    · show ref07_Grown.L1 N rs (m + 1) s.1 s.2 (i : Int) = ref07_Grown.L1 N rs m z.1 z.2 ((i + 1 : Nat) : Int)
      rw [ref07_Grown.L1, if_pos (by omega)]
      refine Eq.trans e2 ?_
      show ref07_Grown.L2 N rs (i : Int) (ref07_Grown.L1 N rs m) (m2 + 1) z.1 z.2 (n : Int) = _
      rw [ref07_Grown.L2, idx_get _ _ hi, Option.bind_some, if_neg (by omega), W_succ i (by omega)]) N ([], seed) (by omega) (by simp [sumN])
  refine ⟨s'.1, ?_, ?_⟩
  · refine Eq.trans e ?_
    show ref07_Grown.L1 N rs (m' + 1) s'.1 s'.2 (rs.length : Int) = _
    rw [ref07_Grown.L1, if_neg (by omega)]
  · rw [List.take_length, hsum] at hs1; omega
theorem take_is (l : List Int) (at_ n : Nat) (h : at_ + n ≤ l.length) (hl : l.length ≤ 100000) : ref08_taker_take ⟨l, (at_ : Int)⟩ (n : Int) = some ((l.take (at_ + n)).drop at_, ⟨l, ((at_ + n : Nat) : Int)⟩) := by
  unfold ref08_taker_take
  show chk (0 ≤ (at_ : Int) ∧ (at_ : Int) ≤ IntKind.i64.wrap ((at_ : Int) + (n : Int)) ∧ IntKind.i64.wrap ((at_ : Int) + (n : Int)) ≤ ((l.length : Nat) : Int)) ((app [] ((l.take (IntKind.i64.wrap ((at_ : Int) + (n : Int))).toNat).drop ((at_ : Int)).toNat)).bind fun z10 => some (z10, (⟨l, IntKind.i64.wrap ((at_ : Int) + (n : Int))⟩ : S_ref08_taker))) = _
  have e : IntKind.i64.wrap ((at_ : Int) + (n : Int)) = ((at_ + n : Nat) : Int) := by rw [W_in (by omega)]; omega
  rw [e, chk_ok _ (by omega), Int.toNat_natCast, Int.toNat_natCast, app_ok _ _ (by simp; omega), Option.bind_some, List.nil_append]
theorem takeL (l : List Int) (a n : Nat) (h : a + n ≤ l.length) : ((l.take (a + n)).drop a).length = n := by simp; omega
theorem mat_is (l : List Int) (at_ r c : Nat) (h : at_ + r * c ≤ l.length) (hl : l.length ≤ 100000) : ref08_taker_mat ⟨l, (at_ : Int)⟩ (r : Int) (c : Int) = some (⟨(r : Int), (c : Int), (l.take (at_ + r * c)).drop at_⟩, ⟨l, ((at_ + r * c : Nat) : Int)⟩) := by
  unfold ref08_taker_mat
  rw [w_mulN hd r c (by omega), take_is hd l at_ (r * c) h hl, Option.bind_some]
end
section
variable {d : Dim} (hd : DOK d)
include hd
theorem matR_mk (l : List Int) (at_ r c : Nat) (h : at_ + r * c ≤ l.length) : matR ⟨(r : Int), (c : Int), (l.take (at_ + r * c)).drop at_⟩ r c := ⟨rfl, rfl, takeL hd l at_ (r * c) h⟩
theorem of_is {N : Nat} (hN : 200 < N) (l : List Int) (hl : l.length = countS d) : ∃ w, ref08_Of N (shapeS d) l = some w ∧ WOK d w ∧ w.Shape = shapeS d := by
  obtain ⟨p1, p2, p3, p4⟩ := prods hd
  have hly := hd.ly; have hw := dw16 hd
  have hper : perL d ≤ 1400 := by unfold perL; omega
  have hlp : ∀ i, i ≤ d.ly → i * perL d ≤ d.ly * perL d := fun i hi => Nat.mul_le_mul_right _ hi
  have hl3 : d.ly * perL d ≤ 3 * 1400 := Nat.mul_le_mul hly.2 hper
  have hc : countS d = d.voc * d.w + d.ly * perL d + d.w + d.voc * d.w := rfl
  have hbig : l.length ≤ 100000 := by omega
  have hW : (shapeS d).Width = ((d.w : Nat) : Int) := rfl
  have hV : (shapeS d).Vocab = (d.voc : Int) := rfl
  have hI : (shapeS d).Inner = (d.inn : Int) := rfl
  have hLy : (shapeS d).Layers = (d.ly : Int) := rfl
  unfold ref08_Of
  have e0 : ref08_taker_mat ⟨l, 0⟩ (shapeS d).Vocab (shapeS d).Width = some (⟨(d.voc : Int), ((d.w : Nat) : Int), (l.take (0 + d.voc * d.w)).drop 0⟩, ⟨l, ((0 + d.voc * d.w : Nat) : Int)⟩) := mat_is hd l 0 d.voc d.w (by omega) hbig
  have hemb := matR_mk hd l 0 d.voc d.w (by omega)
  rw [e0, Option.bind_some]
  generalize hm0 : (⟨(d.voc : Int), ((d.w : Nat) : Int), (l.take (0 + d.voc * d.w)).drop 0⟩ : S_api_Mat) = m0 at hemb ⊢
  obtain ⟨m', s', ⟨h1, h2, h3⟩, e⟩ := loop_to (fun m (s : S_ref08_taker × List S_api_Block) i => ref08_Of.L1 (shapeS d) (m0, ⟨l, ((0 + d.voc * d.w : Nat) : Int)⟩) m s.1 s.2 i) (fun i => (i : Int)) d.ly (fun i s => s.1 = ⟨l, ((d.voc * d.w + i * perL d : Nat) : Int)⟩ ∧ s.2.length = i ∧ ∀ b ∈ s.2, BOK d b) (fun m i s hi hs => by
    obtain ⟨h1, h2, h3⟩ := hs
    have hp1 := hlp (i + 1) (by omega)
    have hp2 : (i + 1) * perL d = i * perL d + perL d := Nat.succ_mul _ _
    have hpd : perL d = d.w + 4 * (d.w * d.w) + d.w + d.inn * d.w + d.w * d.inn := rfl
    generalize hA : d.voc * d.w + i * perL d = A at h1
    have hAl : A + perL d ≤ l.length := by omega
    obtain ⟨s1, s2⟩ := s
    dsimp only at h1 h2 h3
    subst h1
    show ∃ s', _ ∧ ref08_Of.L1 (shapeS d) _ (m + 1) _ _ (i : Int) = _
    rw [ref08_Of.L1, hLy, hW, hI, if_pos (by omega), take_is hd l A d.w (by omega) hbig, Option.bind_some, mat_is hd l (A + d.w) d.w d.w (by omega) hbig, Option.bind_some, mat_is hd l (A + d.w + d.w * d.w) d.w d.w (by omega) hbig, Option.bind_some, mat_is hd l (A + d.w + d.w * d.w + d.w * d.w) d.w d.w (by omega) hbig, Option.bind_some,
      mat_is hd l (A + d.w + d.w * d.w + d.w * d.w + d.w * d.w) d.w d.w (by omega) hbig, Option.bind_some, take_is hd l (A + d.w + d.w * d.w + d.w * d.w + d.w * d.w + d.w * d.w) d.w (by omega) hbig, Option.bind_some, mat_is hd l (A + d.w + d.w * d.w + d.w * d.w + d.w * d.w + d.w * d.w + d.w) d.inn d.w (by omega) hbig, Option.bind_some,
      mat_is hd l (A + d.w + d.w * d.w + d.w * d.w + d.w * d.w + d.w * d.w + d.w + d.inn * d.w) d.w d.inn (by omega) hbig, Option.bind_some, app_ok _ _ (by simp only [List.length_cons, List.length_nil]; omega), Option.bind_some, W_succ i (by omega)]
    refine ⟨(_, _), ⟨?_, ?_, ?_⟩, rfl⟩
    · dsimp only
      rw [show A + d.w + d.w * d.w + d.w * d.w + d.w * d.w + d.w * d.w + d.w + d.inn * d.w + d.w * d.inn = d.voc * d.w + (i + 1) * perL d by omega]
    · dsimp only; rw [len_app1, h2]
    · intro b hb
      rcases List.mem_append.1 hb with h | h
      · exact h3 b h
      · rw [List.mem_singleton] at h
        subst h
        exact ⟨takeL hd l _ _ (by omega), takeL hd l _ _ (by omega), matR_mk hd l _ _ _ (by omega), matR_mk hd l _ _ _ (by omega), matR_mk hd l _ _ _ (by omega), matR_mk hd l _ _ _ (by omega), matR_mk hd l _ _ _ (by omega), matR_mk hd l _ _ _ (by omega)⟩) N (⟨l, ((0 + d.voc * d.w : Nat) : Int)⟩, []) (by omega) ⟨by dsimp only; rw [show 0 + d.voc * d.w = d.voc * d.w + 0 * perL d by omega], rfl, by simp⟩
  obtain ⟨s1, s2⟩ := s'
  dsimp only at h1 h2 h3
  subst h1
  refine ⟨⟨shapeS d, m0, s2, (l.take (d.voc * d.w + d.ly * perL d + d.w)).drop (d.voc * d.w + d.ly * perL d), ⟨(d.voc : Int), ((d.w : Nat) : Int), (l.take (d.voc * d.w + d.ly * perL d + d.w + d.voc * d.w)).drop (d.voc * d.w + d.ly * perL d + d.w)⟩⟩, e.trans ?_, ⟨rfl, rfl, rfl, rfl, rfl, rfl, hemb, h2, h3, takeL hd l _ _ (by omega), matR_mk hd l _ _ _ (by omega)⟩, rfl⟩
  show ref08_Of.L1 (shapeS d) _ (m' + 1) _ s2 (d.ly : Int) = _
  rw [ref08_Of.L1, hLy, hW, hV, if_neg (by omega), take_is hd l _ d.w (by omega) hbig, Option.bind_some, mat_is hd l (d.voc * d.w + d.ly * perL d + d.w) d.voc d.w (by omega) hbig, Option.bind_some]
  rfl
end
theorem made_is {N : Nat} (hN : 5000 ≤ N) (n : A6_i64) (seed : Int) (xs : List Int) (hx : xs.length ≤ 2000) : ∃ (d : Dim) (w : S_api_Weights), DOK d ∧ 2 ≤ d.voc ∧ 4 ≤ d.pl ∧ WOK d w ∧ w.Shape = shapeS d ∧ ref08_Made N n seed xs = some w := by
  obtain ⟨d, hd, hv, hp, et⟩ := tiny_is n
  obtain ⟨l, el, hl⟩ := grown_is hd hN seed
  have hfin : ∀ l' : List Int, l'.length = countS d → ∃ w, (ref08_Of N (shapeS d) l').bind (fun r29 => some (⟨(⟨r29.Shape.Layers, r29.Shape.Width, r29.Shape.Heads, r29.Shape.Inner, r29.Shape.Vocab, r29.Shape.Places⟩ : S_api_Shape), (⟨r29.Embed.Rows, r29.Embed.Cols, r29.Embed.V⟩ : S_api_Mat), r29.Blocks, r29.Last, (⟨r29.Head.Rows, r29.Head.Cols, r29.Head.V⟩ : S_api_Mat)⟩ : S_api_Weights)) = some w ∧ WOK d w ∧ w.Shape = shapeS d := by
    intro l' h'
    obtain ⟨w, e, hw, hs⟩ := of_is hd (N := N) (by omega) l' h'
    exact ⟨w, by rw [e]; rfl, hw, hs⟩
  obtain ⟨m', s', hs, e⟩ := loop_to (fun m (s : List Int) i => ref08_Made.L1 N xs (shapeS d) l m s i) (fun i => (i : Int)) (min l.length xs.length) (fun i s => s.length = countS d) (fun m i s hi hs => by
    have hi1 : i < l.length := by omega
    have hi2 : i < xs.length := by omega
    refine ⟨s.set i xs[i], by simp [hs], ?_⟩
    show ref08_Made.L1 N xs (shapeS d) l (m + 1) s (i : Int) = _
    rw [ref08_Made.L1, if_pos (by omega), decide_eq_true (by omega), ref08_Made.J2, if_pos rfl, idx_get xs i hi2, Option.bind_some, idx_get s i (by omega), Option.bind_some, W_succ i (by omega), Int.toNat_natCast]) N l (by omega) hl
  obtain ⟨w, ew, hw, hsh⟩ := hfin s' hs
  refine ⟨d, w, hd, hv, hp, hw, hsh, ?_⟩
  unfold ref08_Made
  try rw [show (⟨n.c0, n.c1, n.c2, n.c3, n.c4, n.c5⟩ : A6_i64) = n from rfl]
  rw [et, Option.bind_some]
  show (ref07_Grown N (shapeS d) seed).bind _ = _
  rw [el, Option.bind_some]
  refine Eq.trans e ?_
  have hJ : ref08_Made.J2 N xs (shapeS d) s' ((min l.length xs.length : Nat) : Int) (ref08_Made.L1 N xs (shapeS d) l m') false = some w := by
    unfold ref08_Made.J2
    rw [if_neg (by decide)]
    exact ew
  show ref08_Made.L1 N xs (shapeS d) l (m' + 1) s' ((min l.length xs.length : Nat) : Int) = _
  rw [ref08_Made.L1]
  by_cases c : ((min l.length xs.length : Nat) : Int) < ((l.length : Nat) : Int)
  · rw [if_pos c, decide_eq_false (by omega)]; exact hJ
  · rw [if_neg c]; exact hJ
end Go.Proofs.YtbfiagimgokccaaGreat

namespace Go.Proofs.YtbfiagimgokccaaGreat
open Go Go.Hp
set_option linter.unusedVariables false
theorem and_low (k : IntKind) (hk : k = .i64 ∨ k = .u64) (i : Nat) (hi : i < 63) (x : Int) : iand k x (2 ^ i - 1) = x % 2 ^ i := by
  have hb : k.bits = 64 := by rcases hk with rfl | rfl <;> rfl
  have hpos : 0 < 2 ^ i := Nat.two_pow_pos i
  have hlt : 2 ^ i ≤ 2 ^ 62 := Nat.pow_le_pow_right (by decide) (by omega)
  have hc : ((2 : Int) ^ i - 1) = ((2 ^ i - 1 : Nat) : Int) := by
    rw [Int.natCast_sub hpos]; simp
  have hnn : 0 ≤ x % 18446744073709551616 := Int.emod_nonneg _ (by decide)
  obtain ⟨a, ha⟩ := Int.eq_ofNat_of_zero_le hnn
  have hal : a < 18446744073709551616 := by omega
  have e1 : (BitVec.ofInt 64 x).toNat = a := by
    rw [BitVec.toNat_ofInt]
    show (x % ((2 ^ 64 : Nat) : Int)).toNat = a
    have : ((2 ^ 64 : Nat) : Int) = 18446744073709551616 := by decide
    rw [this, ha]
    rfl
  have e2 : (BitVec.ofInt 64 (((2 ^ i - 1 : Nat) : Int))).toNat = 2 ^ i - 1 := by
    rw [BitVec.ofInt_natCast, BitVec.toNat_ofNat]
    exact Nat.mod_eq_of_lt (by omega)
  have hdvd : (2 : Int) ^ i ∣ 18446744073709551616 := by
    refine ⟨2 ^ (64 - i), ?_⟩
    rw [← Int.pow_add, show i + (64 - i) = 64 by omega]
    decide
  have hmm : x % 2 ^ i = ((a % 2 ^ i : Nat) : Int) := by
    rw [← Int.emod_emod_of_dvd x hdvd, ha]
    simp
  have hml : a % 2 ^ i < 2 ^ i := Nat.mod_lt _ hpos
  rw [hc, hmm]
  have hw : ∀ z : Nat, z < 2 ^ 62 → k.wrap (z : Int) = (z : Int) := by
    intro z hz
    rcases hk with rfl | rfl
    · rw [IntKind.wrap_i64]; omega
    · rw [IntKind.wrap_u64]; omega
  have e3 : (BitVec.ofInt 64 x &&& BitVec.ofInt 64 (((2 ^ i - 1 : Nat) : Int))).toNat = a % 2 ^ i := by rw [BitVec.toNat_and, e1, e2, Nat.and_two_pow_sub_one_eq_mod]
  have e4 : iand k x (((2 ^ i - 1 : Nat) : Int)) = k.wrap ((BitVec.ofInt 64 x &&& BitVec.ofInt 64 (((2 ^ i - 1 : Nat) : Int))).toNat : Int) := by rcases hk with rfl | rfl <;> rfl
  rw [e4, e3]
  exact hw _ (by omega)
theorem shift_is (x n : Int) (hx : -9223372036854775808 ≤ x ∧ x ≤ 9223372036854775807) : round_Shift x n = some (sh x (min (max n 0) 62).toNat) := by
  obtain ⟨k, hk⟩ := Int.eq_ofNat_of_zero_le (show 0 ≤ min (max n 0) 62 by omega)
  have hk2 : k ≤ 62 := by omega
  have hp := pow_pos' k
  have h62 := pow_le62 k hk2
  have e1 : ishr .i64 x (k : Int) = x / 2 ^ k := by
    unfold ishr
    rw [show min ((k : Int).toNat) IntKind.i64.bits = k by show min ((k:Int).toNat) 64 = k; omega, Int.fdiv_eq_ediv_of_nonneg _ (by omega)]
  have e2 : ishl .u64 1 (k : Int) = 2 ^ k := by
    unfold ishl
    rw [show min ((k : Int).toNat) IntKind.u64.bits = k by show min ((k:Int).toNat) 64 = k; omega, Int.one_mul, IntKind.wrap_u64]; omega
  have e3 : ishr .u64 (2 ^ k) 1 = 2 ^ k / 2 := by
    unfold ishr
    rw [show min ((1 : Int).toNat) IntKind.u64.bits = 1 from rfl, Int.fdiv_eq_ediv_of_nonneg _ (by omega)]
    rfl
  have e4 : IntKind.u64.wrap ((2:Int) ^ k - 1) = 2 ^ k - 1 := by rw [IntKind.wrap_u64]; omega
  have e5 : iand .u64 (IntKind.u64.wrap x) (2 ^ k - 1) = x % 2 ^ k := by
    rw [and_low _ (.inr rfl) k (by omega), IntKind.wrap_u64]
    refine Int.emod_emod_of_dvd x ?_
    refine ⟨2 ^ (64 - k), ?_⟩
    rw [← Int.pow_add, show k + (64 - k) = 64 by omega]; decide
  have e6 : ∀ z : Int, iand .i64 z 1 = z % 2 := fun z => and_low .i64 (.inl rfl) 1 (by omega) z
  unfold round_Shift
  rw [hk]
  simp only [chk_ok _ (show (0:Int) ≤ (k:Int) by omega), Option.bind_some, e1, e2, e4, e5, e3, e6]
  unfold sh
  rw [Int.toNat_natCast]
  by_cases h0 : 0 < k
  · have hd := half_in x hx k h0
    have hw : IntKind.i64.wrap (x / 2 ^ k + 1) = x / 2 ^ k + 1 := W_in (by omega)
    by_cases c1 : x % 2 ^ k > 2 ^ k / 2
    · rw [if_pos c1, if_pos c1, round_Shift.J1, if_pos rfl, hw]
    · rw [if_neg c1, if_neg c1]
      by_cases c2 : x % 2 ^ k = 2 ^ k / 2
      · rw [if_pos c2, if_pos c2, if_pos (show (k : Int) > 0 by omega), if_pos h0, round_Shift.J1]
        by_cases c3 : x / 2 ^ k % 2 = 1
        · rw [if_pos (by simp only [c3, decide_true]), if_pos c3, hw]
        · rw [if_neg (by simp only [c3, decide_false]; decide), if_neg c3]
      · rw [if_neg c2, if_neg c2, round_Shift.J1, if_neg (by decide)]
  · obtain rfl : k = 0 := by omega
    have z1 : x % (2 : Int) ^ 0 = 0 := by simp
    have z2 : (2 : Int) ^ 0 / 2 = 0 := by decide
    rw [z1, z2, if_neg (by decide), if_pos rfl, if_neg (by decide), if_neg (by decide), if_pos rfl, if_neg (by decide), round_Shift.J1, if_neg (by decide)]

theorem fill_step {α : Type} (n : Nat) (f : Nat → α) (z : α) (i : Nat) : (tabl n fun k => if k < i then f k else z).set ((i : Int)).toNat (f i) = tabl n fun k => if k < i + 1 then f k else z := by
  rw [Int.toNat_natCast, tabl_set]
  refine tabl_congr fun j hj => ?_
  by_cases h : j = i
  · subst h; rw [if_pos rfl, if_pos (by omega)]
  · rw [if_neg h]
    by_cases h2 : j < i
    · rw [if_pos h2, if_pos (by omega)]
    · rw [if_neg h2, if_neg (by omega)]
theorem fill_0 {α : Type} (n : Nat) (f : Nat → α) (z : α) : List.replicate n z = tabl n fun k => if k < 0 then f k else z := by
  rw [tabl_rep]
  exact tabl_congr fun j hj => (if_neg (by omega)).symm
theorem fill_n {α : Type} (n : Nat) (f : Nat → α) (z : α) : (tabl n fun k => if k < n then f k else z) = tabl n f := tabl_congr fun j hj => if_pos hj
theorem w8_is (x : Int) : IntKind.i8.wrap x = (x + 128) % 256 - 128 := by
  simp [IntKind.wrap, IntKind.bits, IntKind.signed]
  split <;> omega
theorem sat8_is (x : Int) : round_Sat8 x = some (min (max x (-128)) 127) := by
  unfold round_Sat8 round_near_int8
  simp only [Option.bind_some]
  congr 1
  rw [w8_is]; omega
theorem quant_is (x b n : Int) : round_Quant x b n = some (scl x b n (-128) 127) := by
  unfold round_Quant
  rw [shift_is _ _ (W_range _), Option.bind_some, sat8_is, Option.bind_some]
  rfl
theorem scl8 (x b n : Int) : IntKind.i8.wrap (scl x b n (-128) 127) = scl x b n (-128) 127 := by
  unfold scl
  rw [w8_is]; omega
theorem roundQuants_is {N : Nat} (b n : Int) (xs : List Int) (hl : xs.length < N) (h2 : xs.length ≤ 100000) : round_Quants N b n xs = some (tabl xs.length fun i => scl (xs.getD i 0) b n (-128) 127) := by
  unfold round_Quants
  rw [chk_ok _ (by omega), Int.toNat_natCast, fill_0 xs.length (fun i => scl (xs.getD i 0) b n (-128) 127) 0]
  refine loop_c (fun m (s : List Int) i => round_Quants.L1 b n xs m s i) (fun i => tabl xs.length fun k => if k < i then scl (xs.getD k 0) b n (-128) 127 else 0) xs.length _ (fun m i hi => ?_) (fun m => ?_) N hl
  · show round_Quants.L1 b n xs (m + 1) _ (i : Int) = round_Quants.L1 b n xs m _ _
    rw [round_Quants.L1, if_pos (by omega), idx_d xs 0 hi, Option.bind_some, quant_is, Option.bind_some, idx_t _ hi, Option.bind_some, W_succ i (by omega), fill_step xs.length (fun k => scl (xs.getD k 0) b n (-128) 127) 0 i]
  · show round_Quants.L1 b n xs (m + 1) _ (xs.length : Int) = _
    rw [round_Quants.L1, if_neg (by omega), fill_n]
theorem rdot_is {N : Nat} (a b : List Int) (h : a.length = b.length) (hl : a.length < N) (h2 : a.length ≤ 1000000) : round_Dot N a b = some (IntKind.i32.wrap (dots a b a.length)) := by
  unfold round_Dot
  have h0 : (0 : Int) = IntKind.i32.wrap (dots a b 0) := rfl
  refine (congrArg (fun z => round_Dot.L1 a b N z 0) h0).trans ?_
  refine loop_c (fun m (s : Int) i => round_Dot.L1 a b m s i) (fun i => IntKind.i32.wrap (dots a b i)) a.length _ (fun m i hi => ?_) (fun m => ?_) N hl
  · show round_Dot.L1 a b (m + 1) _ (i : Int) = round_Dot.L1 a b m _ _
    rw [round_Dot.L1, if_pos (by omega), idx_d a 0 hi, Option.bind_some, idx_d b 0 (by omega), Option.bind_some, W_succ i (by omega)]
    congr 1
    rw [dots]
    generalize dots a b i = d
    generalize a.getD i 0 = x
    generalize b.getD i 0 = y
    have e : IntKind.i32.wrap (IntKind.i32.wrap x * IntKind.i32.wrap y) = IntKind.i32.wrap (x * y) := by
      obtain ⟨p, hp⟩ : ∃ p, IntKind.i32.wrap x = x + 4294967296 * p := ⟨-((x + 2147483648) / 4294967296), by rw [IntKind.wrap_i32]; omega⟩
      obtain ⟨q, hq⟩ : ∃ q, IntKind.i32.wrap y = y + 4294967296 * q := ⟨-((y + 2147483648) / 4294967296), by rw [IntKind.wrap_i32]; omega⟩
      rw [hp, hq, show (x + 4294967296 * p) * (y + 4294967296 * q) = x * y + 4294967296 * (p * y + x * q + 4294967296 * (p * q)) by
        rw [Int.add_mul, Int.mul_add, Int.mul_add]
        generalize x * y = xy
        rw [show x * (4294967296 * q) = 4294967296 * (x * q) by rw [Int.mul_left_comm], Int.mul_assoc 4294967296 p y, show 4294967296 * p * (4294967296 * q) = 4294967296 * (4294967296 * (p * q)) by rw [Int.mul_assoc, Int.mul_left_comm p]]
        omega]
      simp only [IntKind.wrap_i32]
      omega
    rw [e]
    simp only [IntKind.wrap_i32]
    omega
  · show round_Dot.L1 a b (m + 1) _ (a.length : Int) = _
    rw [round_Dot.L1, if_neg (by omega)]
end Go.Proofs.YtbfiagimgokccaaGreat

namespace Go.Proofs.YtbfiagimgokccaaGreat
open Go Go.Hp
set_option linter.unusedVariables false
theorem matP {m : S_api_Mat} {r c : Nat} (h : matR m r c) (hr : r ≤ 200) (hc : c ≤ 200) : matmul_wrong m = some false := by
  obtain ⟨h1, h2, h3⟩ := h
  have hrc : r * c ≤ 40000 := Nat.le_trans (Nat.mul_le_mul hr hc) (by decide)
  have e : ((r * c : Nat) : Int) = (r : Int) * (c : Int) := by simp
  have hs : ∀ k : Nat, k ≤ 200 → matmul_side (k : Int) = some true := fun k hk => by
    unfold matmul_side
    rw [if_pos (by omega), decide_eq_true (by omega)]
  unfold matmul_wrong
  rw [h1, h2, hs r hr, Option.bind_some, if_pos rfl, hs c hc, Option.bind_some, if_pos rfl, h3, W_in (by rw [← e]; omega), if_neg (by rw [← e]; omega), decide_eq_false (by omega)]
theorem rowAt {m : S_api_Mat} {r c i : Nat} (h : matR m r c) (hr : r ≤ 200) (hc : c ≤ 200) (hi : i < r) :
    IntKind.i64.wrap ((i : Int) * m.Cols) = ((i * c : Nat) : Int) ∧ IntKind.i64.wrap (IntKind.i64.wrap ((i : Int) + 1) * m.Cols) = (((i + 1) * c : Nat) : Int) ∧ (i + 1) * c ≤ m.V.length := by
  obtain ⟨h1, h2, h3⟩ := h
  have a1 : (i + 1) * c ≤ r * c := Nat.mul_le_mul_right c (by omega)
  have a2 : r * c ≤ 40000 := Nat.le_trans (Nat.mul_le_mul hr hc) (by decide)
  have a3 : i * c ≤ (i + 1) * c := Nat.mul_le_mul_right c (by omega)
  refine ⟨?_, ?_, by omega⟩
  · rw [h2, show (i : Int) * (c : Int) = ((i * c : Nat) : Int) by simp, W_in (by omega)]
  · rw [h2, W_succ i (by omega), show ((i + 1 : Nat) : Int) * (c : Int) = (((i + 1) * c : Nat) : Int) by simp, W_in (by omega)]
theorem row_part {m : S_api_Mat} {r c i : Nat} (h : matR m r c) (hi : (i + 1) * c ≤ m.V.length) : ((m.V.take ((i + 1) * c)).drop (i * c)).length = c ∧ ∀ j, j < c → ((m.V.take ((i + 1) * c)).drop (i * c)).getD j 0 = m.V.getD (i * c + j) 0 := by
  have e : (i + 1) * c = i * c + c := Nat.succ_mul i c
  refine ⟨by simp; omega, fun j hj => ?_⟩
  rw [List.getD_eq_getElem?_getD, List.getElem?_drop, List.getElem?_take, if_pos (by omega), ← List.getD_eq_getElem?_getD]
theorem papply_is {N : Nat} {m : S_api_Mat} {r c : Nat} (h : matR m r c) (hr : r ≤ 200) (hc : c ≤ 200) (hN : 200 < N) (x : List Int) (hx : x.length = c) : matmul_Apply N m x = some (applyS m x r c, 0) := by
  unfold matmul_Apply
  try rw [show (⟨m.Rows, m.Cols, m.V⟩ : S_api_Mat) = m from rfl]
  rw [matP h hr hc, Option.bind_some, if_neg (by decide), if_neg (by rw [h.2.1]; omega), chk_ok _ (by rw [h.1]; omega), h.1, Int.toNat_natCast]
  rw [fill_0 r (fun i => IntKind.i32.wrap (dots (rowOf m c i) x c)) 0]
  refine loop_c (fun k (s : List Int) i => matmul_Apply.L1 N m x k s i) (fun i => tabl r fun k => if k < i then IntKind.i32.wrap (dots (rowOf m c k) x c) else 0) r _ (fun k i hi => ?_) (fun k => ?_) N (by omega)
  · show matmul_Apply.L1 N m x (k + 1) _ (i : Int) = matmul_Apply.L1 N m x k _ _
    obtain ⟨w1, w2, w3⟩ := rowAt h hr hc hi
    obtain ⟨l1, l2⟩ := row_part h w3
    have a3 : i * c ≤ (i + 1) * c := Nat.mul_le_mul_right c (by omega)
    rw [matmul_Apply.L1, if_pos (by rw [h.1, Int.toNat_natCast]; omega), w1, w2, chk_ok _ (by omega), Int.toNat_natCast, Int.toNat_natCast, rdot_is _ _ (by rw [l1, hx]) (by omega) (by omega), Option.bind_some, idx_t _ hi, Option.bind_some, W_succ i (by omega), l1]
    have hd : dots ((m.V.take ((i + 1) * c)).drop (i * c)) x c = dots (rowOf m c i) x c := dots_congr _ _ _ _ c fun j hj => ⟨by rw [l2 j hj, rowOf, tabl_getD _ _ _ _ hj], rfl⟩
    rw [hd, fill_step r (fun k => IntKind.i32.wrap (dots (rowOf m c k) x c)) 0 i]
  · show matmul_Apply.L1 N m x (k + 1) _ (r : Int) = _
    rw [matmul_Apply.L1, if_neg (by rw [h.1, Int.toNat_natCast]; omega), fill_n]
    rfl
theorem pquants_is {N : Nat} {m : S_api_Mat} {r c : Nat} (h : matR m r c) (hr : r ≤ 200) (hc : c ≤ 200) (hN : 200 < N) (x : List Int) (hx : x.length = c) : block_quants N m x = some (quantsS m x r c) := by
  unfold block_quants
  try rw [show (⟨m.Rows, m.Cols, m.V⟩ : S_api_Mat) = m from rfl]
  rw [papply_is h hr hc hN x hx, Option.bind_some, roundQuants_is _ _ _ (by rw [applyS_len]; omega) (by rw [applyS_len]; omega), Option.bind_some, applyS_len]
  congr 1
  exact tabl_congr fun i hi => (scl8 _ _ _).symm
end Go.Proofs.YtbfiagimgokccaaGreat

namespace Go.Proofs.YtbfiagimgokccaaGreat
open Go Go.Hp
set_option linter.unusedVariables false
theorem shr_is (x : Int) (k : Nat) (hk : k ≤ 62) : ishr .i64 x (k : Int) = x / 2 ^ k := by
  unfold ishr
  have hp := pow_pos' k
  rw [show min ((k : Int).toNat) IntKind.i64.bits = k by show min ((k:Int).toNat) 64 = k; omega, Int.fdiv_eq_ediv_of_nonneg _ (by omega)]
theorem step_is (i : Nat) (h : i ≤ 33) : rope_step (i : Int) = some (sinT.getD (min i 32) 0) := by
  have key : ∀ i : Fin 34, rope_step ((i.val : Nat) : Int) = some (sinT.getD (min i.val 32) 0) := by decide +kernel
  exact key ⟨i, by omega⟩
theorem psin_is (a : Int) (ha : -9223372036854775808 ≤ a ∧ a ≤ 9223372036854775807) : rope_Sin a = some (sinS a) := by
  have hr : 0 ≤ a % 65536 ∧ a % 65536 < 65536 := by omega
  have e0 : iand .i64 a 65535 = a % 65536 := and_low .i64 (.inl rfl) 16 (by omega) a
  unfold rope_Sin sinS
  rw [e0]
  generalize a % 65536 = r at hr ⊢
  dsimp only
  have eq : IntKind.i64.wrap (Int.tdiv r 16384) = r / 16384 := by rw [Int.tdiv_eq_ediv_of_nonneg hr.1, W_in (by omega)]
  have em : Int.tmod r 16384 = r % 16384 := Int.tmod_eq_emod_of_nonneg hr.1
  have hq : 0 ≤ r / 16384 ∧ r / 16384 ≤ 3 := by omega
  rw [eq, em, Option.bind_some, Option.bind_some]
  have e1 : ∀ q : Int, iand .i64 q 1 = q % 2 := fun q => and_low .i64 (.inl rfl) 1 (by omega) q
  rw [e1]
  generalize r / 16384 = q at hq ⊢
  have j1 : ∀ f : Int, 0 ≤ f → f ≤ 16384 → rope_Sin.J1 q f = some (if q = 2 ∨ q = 3 then IntKind.i32.wrap (IntKind.i64.wrap (0 - arcS f)) else IntKind.i32.wrap (arcS f)) := by
    intro f h0 h1
    obtain ⟨i, hi⟩ := Int.eq_ofNat_of_zero_le (show 0 ≤ f / 512 by omega)
    have hi2 : i ≤ 32 := by omega
    have e9 : ishr .i64 f 9 = (i : Int) := (shr_is f 9 (by omega)).trans hi
    have e5 : iand .i64 f 511 = f % 512 := and_low .i64 (.inl rfl) 9 (by omega) f
    have ea : IntKind.i64.wrap (sinT.getD (min i 32) 0 + sh (IntKind.i64.wrap (IntKind.i64.wrap (sinT.getD (min (i + 1) 32) 0 - sinT.getD (min i 32) 0) * (f % 512))) 9) = arcS f := by
      unfold arcS
      by_cases c : f / 512 < 32
      · rw [if_pos c, hi, Int.toNat_natCast, show min i 32 = i by omega, show min (i + 1) 32 = i + 1 by omega]
      · obtain rfl : i = 32 := by omega
        rw [if_neg c, show f % 512 = 0 by omega]
        decide +kernel
    unfold rope_Sin.J1
    rw [e9, e5, W_succ i (by omega), step_is i (by omega), step_is (i + 1) (by omega), Option.bind_some, Option.bind_some, Option.bind_some, shift_is _ _ (W_range _), Option.bind_some, show (min (max (9 : Int) 0) 62).toNat = 9 from rfl, ea]
    by_cases c : q ≥ 2
    · rw [if_pos c, if_pos (show q = 2 ∨ q = 3 by omega)]; rfl
    · rw [if_neg c, if_neg (show ¬ (q = 2 ∨ q = 3) by omega)]; rfl
  by_cases c1 : q % 2 = 1
  · rw [if_pos c1, W_in (by omega), Option.bind_some, j1 _ (by omega) (by omega), if_pos (show q = 1 ∨ q = 3 by omega)]
  · rw [if_neg c1, j1 _ (by omega) (by omega), if_neg (show ¬ (q = 1 ∨ q = 3) by omega)]
theorem pcos_is (a : Int) (ha : -9223372036854775808 ≤ a ∧ a ≤ 9223372036854775807) : rope_Cos a = some (cosS a) := by
  unfold rope_Cos cosS
  have e0 : iand .i64 a 65535 = a % 65536 := and_low .i64 (.inl rfl) 16 (by omega) a
  rw [e0, W_in (by omega), psin_is _ (by omega), Option.bind_some]
theorem pangle_is (place pair : Nat) (hp : place ≤ 1000) (hq : pair ≤ 13) : rope_Angle (place : Int) (pair : Int) = some (angS place pair) := by
  unfold rope_Angle
  have e2 : IntKind.u64.wrap (pair : Int) = (pair : Int) := by rw [IntKind.wrap_u64]; omega
  have hk : (0 : Int) < 2 ^ pair := pow_pos' pair
  have hd : (0 : Int) ≤ 8192 / 2 ^ pair ∧ (8192 : Int) / 2 ^ pair ≤ 8192 := ⟨Int.ediv_nonneg (by decide) (by omega), Int.ediv_le_self _ (by decide)⟩
  have hm : (0 : Int) ≤ (place : Int) * (8192 / 2 ^ pair) ∧ (place : Int) * (8192 / 2 ^ pair) ≤ 8192000 := by
    refine ⟨Int.mul_nonneg (by omega) hd.1, ?_⟩
    have := Int.mul_le_mul (show (place : Int) ≤ 1000 by omega) hd.2 hd.1 (by decide)
    omega
  rw [if_neg (by omega), if_neg (by omega), if_neg (by omega), e2, show min (pair : Int) 14 = (pair : Int) by omega, chk_ok _ (by omega), shr_is 8192 pair (by omega), Option.bind_some, W_in (by omega)]
  congr 1
  exact and_low .i64 (.inl rfl) 16 (by omega) _
end Go.Proofs.YtbfiagimgokccaaGreat

namespace Go.Proofs.YtbfiagimgokccaaGreat
open Go Go.Hp
set_option linter.unusedVariables false
theorem ppair_is (place : Nat) (x : List Int) (i : Nat) : rope_pairOf (x.getD (2 * i) 0) (x.getD (2 * i + 1) 0) ⟨cosS (angS place i), sinS (angS place i)⟩ = some (turnA place x i, turnB place x i) := by
  have w8r : ∀ z : Int, IntKind.i8.wrap (min (max z (-128)) 127) = min (max z (-128)) 127 := fun z => by rw [w8_is]; omega
  unfold rope_pairOf
  rw [shift_is _ _ (W_range _), Option.bind_some, sat8_is, Option.bind_some, shift_is _ _ (W_range _), Option.bind_some, sat8_is, Option.bind_some]
  unfold turnA turnB
  rw [w8r, w8r]
  rfl
theorem pturn_is {N : Nat} (hN : 200 < N) (place : Nat) (hp : place ≤ 1000) (x : List Int) (p : Nat) (hx : x.length = 2 * p) (hl : p ≤ 13) : rope_Turn N (place : Int) x = some (turnS place x, 0) := by
  unfold rope_Turn
  rw [if_neg (by rw [Int.tmod_eq_emod_of_nonneg (by omega)]; omega), if_neg (by omega), if_neg (by omega), chk_ok _ (by omega), Int.toNat_natCast]
  let f : Nat → Int := fun k => if k % 2 = 0 then turnA place x (k / 2) else turnB place x (k / 2)
  have ht : turnS place x = tabl x.length f := by
    unfold turnS
    rw [show 2 * (x.length / 2) = x.length by omega]
  obtain ⟨m', s', hs', e⟩ := loop_to (fun m (s : List Int) i => rope_Turn.L1 (place : Int) x m s i) (fun i => ((2 * i : Nat) : Int)) p (fun i s => s = tabl x.length fun k => if k < 2 * i then f k else 0) (fun m i s hi hs => by
    subst hs
    refine ⟨_, rfl, ?_⟩
    have a1 : IntKind.i64.wrap (Int.tdiv ((2 * i : Nat) : Int) 2) = (i : Int) := by rw [Int.tdiv_eq_ediv_of_nonneg (by omega), W_in (by omega)]; omega
    have a2 : IntKind.i64.wrap (((2 * i : Nat) : Int) + 1) = ((2 * i + 1 : Nat) : Int) := W_succ (2 * i) (by omega)
    have a3 : IntKind.i64.wrap (((2 * i : Nat) : Int) + 2) = ((2 * (i + 1) : Nat) : Int) := by rw [W_in (by omega)]; omega
    have hr : -9223372036854775808 ≤ angS place i ∧ angS place i ≤ 9223372036854775807 := by unfold angS; omega
    have fA : turnA place x i = f (2 * i) := by show _ = if 2 * i % 2 = 0 then turnA place x (2 * i / 2) else _; rw [if_pos (by omega), show 2 * i / 2 = i by omega]
    have fB : turnB place x i = f (2 * i + 1) := by show _ = if (2 * i + 1) % 2 = 0 then _ else turnB place x ((2 * i + 1) / 2); rw [if_neg (by omega), show (2 * i + 1) / 2 = i by omega]
    show rope_Turn.L1 (place : Int) x (m + 1) _ ((2 * i : Nat) : Int) = _
    rw [rope_Turn.L1, if_pos (by omega), a1, a2, a3, pangle_is place i hp (by omega), Option.bind_some, idx_d x 0 (by omega), Option.bind_some, idx_d x 0 (by omega), Option.bind_some, pcos_is _ hr, Option.bind_some, psin_is _ hr, Option.bind_some, ppair_is, Option.bind_some, idx_t _ (by omega), Option.bind_some]
    show (idx ((tabl x.length fun k => if k < 2 * i then f k else 0).set (((2 * i : Nat) : Int)).toNat (turnA place x i)) ((2 * i + 1 : Nat) : Int)).bind _ = _
    rw [fA, fill_step x.length f 0 (2 * i), idx_t _ (by omega), Option.bind_some]
    show rope_Turn.L1 (place : Int) x m ((tabl x.length fun k => if k < 2 * i + 1 then f k else 0).set (((2 * i + 1 : Nat) : Int)).toNat (turnB place x i)) _ = _
    rw [fB, fill_step x.length f 0 (2 * i + 1)]
    rfl) N (List.replicate x.length 0) (by omega) (fill_0 x.length f 0)
  subst hs'
  refine e.trans ?_
  show rope_Turn.L1 (place : Int) x (m' + 1) _ ((2 * p : Nat) : Int) = _
  rw [rope_Turn.L1, if_neg (by omega), ht, show 2 * p = x.length from hx.symm, fill_n]
theorem pturned_is {N : Nat} (hN : 200 < N) (place w n : Nat) (hp : place ≤ 1000) (x : List Int) (hx : x.length = n * w) (hn : n ≤ 150) (hw : 0 < w) (hw2 : w % 2 = 0) (hw3 : w ≤ 26) : block_turned N (place : Int) (w : Int) x = some (turnedS place w x n) := by
  have hnw : n * w ≤ 3900 := Nat.mul_le_mul hn hw3
  unfold block_turned
  rw [chk_ok _ (by omega), Int.toNat_natCast]
  have key : ∀ (d m k : Nat), k + d = n → d < m → block_turned.L N (place : Int) w x m (turnedS place w x k) (k * w) = some (turnedS place w x n) := by
    intro d
    induction d with
    | zero =>
      intro m k hk hm
      obtain ⟨m, rfl⟩ : ∃ q, m = q + 1 := ⟨m - 1, by omega⟩
      obtain rfl : k = n := by omega
      rw [block_turned.L, if_neg (by omega)]
    | succ d ih =>
      intro m k hk hm
      obtain ⟨m, rfl⟩ : ∃ q, m = q + 1 := ⟨m - 1, by omega⟩
      have e1 : (k + 1) * w = k * w + w := Nat.succ_mul k w
      have e2 : (k + 1) * w ≤ n * w := Nat.mul_le_mul_right w (by omega)
      have e3 : k * w + min w (x.length - k * w) = (k + 1) * w := by omega
      have hpl : (part x w k).length = w := part_len x w k n hx (by omega)
      have hT := pturn_is hN place hp (part x w k) (w / 2) (by omega) (by omega)
      have hl := turnedS_len place w x n hx hw2 k (by omega)
      rw [block_turned.L, if_pos (by omega), e3, show (x.take ((k + 1) * w)).drop (k * w) = part x w k from rfl, hT, Option.bind_some]
      show (chk ((turnedS place w x k).length + (turnS place (part x w k)).length ≤ 4294967296) <| block_turned.L N (place : Int) w x m (turnedS place w x k ++ turnS place (part x w k)) (k * w + w)) = _
      rw [chk_ok _ (by rw [hl, turnS_len]; omega), ← e1]
      exact ih m (k + 1) (by omega) (by omega)
  have := key n N 0 (by omega) (by omega)
  rw [Nat.zero_mul] at this
  exact this
end Go.Proofs.YtbfiagimgokccaaGreat

namespace Go.Proofs.YtbfiagimgokccaaGreat
open Go Go.Hp
set_option linter.unusedVariables false
theorem estep_is (i : Nat) (h : i < 33) : curve_step (i : Int) = some (tbl.getD i 0) := by
  have key : ∀ i : Fin 33, curve_step ((i.val : Nat) : Int) = some (tbl.getD i.val 0) := by decide +kernel
  exact key ⟨i, by omega⟩
theorem pexp_is (x : Int) : curve_Exp x = some (expS x) := by
  unfold curve_Exp
  by_cases h0 : x ≥ 0
  · rw [if_pos h0]
    by_cases h1 : x > 0
    · unfold expS
      rw [if_pos h1]
    · obtain rfl : x = 0 := by omega
      decide +kernel
  rw [if_neg h0]
  by_cases h1 : x < -4294967296
  · rw [if_pos h1]
    unfold expS
    rw [if_neg (by omega), if_pos (by omega)]
  rw [if_neg h1]
  have e3 : ishr .i64 (IntKind.i64.wrap (IntKind.i64.wrap (0 - x) * 94548)) 16 = (0 - x) * 94548 / 65536 := by
    rw [W_in (x := 0 - x) (by omega), W_in (x := (0 - x) * 94548) (by omega)]
    exact shr_is _ 16 (by omega)
  have ht : 0 ≤ (0 - x) * 94548 / 65536 ∧ (0 - x) * 94548 / 65536 ≤ 8000000000 := by omega
  have hbig : x < -10000000 → (0 - x) * 94548 / 65536 / 65536 > 31 := fun h => by omega
  rw [e3, Option.bind_some]
  unfold expS
  rw [if_neg (show ¬ x > 0 by omega)]
  dsimp only
  generalize (0 - x) * 94548 / 65536 = t at ht hbig ⊢
  have e4 : ishr .i64 t 16 = t / 65536 := shr_is t 16 (by omega)
  rw [e4]
  by_cases h3 : t / 65536 > 31
  · rw [if_pos h3, if_pos h3]
    split <;> rfl
  rw [if_neg h3, if_neg (fun h => h3 (hbig h)), if_neg h3]
  obtain ⟨i, hi⟩ := Int.eq_ofNat_of_zero_le (show 0 ≤ t % 65536 / 2048 by omega)
  have hi2 : i < 32 := by omega
  have a1 : iand .i64 t 65535 = t % 65536 := and_low .i64 (.inl rfl) 16 (by omega) t
  have a2 : iand .i64 (t % 65536) 2047 = t % 65536 % 2048 := and_low .i64 (.inl rfl) 11 (by omega) _
  have a3 : ishr .i64 (t % 65536) 11 = (i : Int) := (shr_is _ 11 (by omega)).trans hi
  rw [a1, a2, a3, Option.bind_some, Option.bind_some, estep_is i (by omega), Option.bind_some, Option.bind_some, W_succ i (by omega), estep_is (i + 1) (by omega), Option.bind_some, shift_is _ _ (W_range _), Option.bind_some, shift_is _ _ (W_range _), Option.bind_some, hi, Int.toNat_natCast, show min (max (t / 65536) 0) 62 = t / 65536 by omega]
  rfl
end Go.Proofs.YtbfiagimgokccaaGreat

namespace Go.Proofs.YtbfiagimgokccaaGreat
open Go Go.Hp
set_option linter.unusedVariables false
theorem wu_id {x : Int} (h : 0 ≤ x ∧ x < 18446744073709551616) : IntKind.u64.wrap x = x := by rw [IntKind.wrap_u64]; omega
theorem pshares_is {N : Nat} (x : List Int) (h : in32 x) (hl : x.length ≤ 200) (hN : 200 < N) : curve_Shares N 65536 x = some (sharesS 65536 x) := by
  unfold curve_Shares
  rw [chk_ok _ (by omega)]
  refine loop_c (fun m (s : Int) i => curve_Shares.L1 N 65536 x m s i) (fun i => sumS x i) x.length _ (fun m i hi => ?_) (fun m => ?_) N (by omega)
  · show curve_Shares.L1 N 65536 x (m + 1) _ (i : Int) = curve_Shares.L1 N 65536 x m _ _
    obtain ⟨a, b, c⟩ := sumS_range x h i
    have hx := h i
    rw [curve_Shares.L1, if_pos (by omega), idx_d x 0 hi, Option.bind_some, Option.bind_some, W_succ i (by omega), wu_id (x := max (x.getD i 0) 0) (by omega), wu_id (by omega), sumS]
    congr 1
    by_cases hk : x.getD i 0 > 0
    · rw [if_pos hk]; omega
    · rw [if_neg hk]; omega
  · show curve_Shares.L1 N 65536 x (m + 1) _ (x.length : Int) = _
    rw [curve_Shares.L1, if_neg (by omega), Int.toNat_natCast]
    let f : Nat → Int := fun i => if x.getD i 0 > 0 ∧ (65536 : Int) > 0 then IntKind.i32.wrap (IntKind.i64.wrap (Int.tdiv (IntKind.i64.wrap (IntKind.i64.wrap (x.getD i 0) * IntKind.i64.wrap 65536)) (sumS x x.length))) else 0
    rw [fill_0 x.length f 0]
    refine loop_c (fun m (s : List Int) i => curve_Shares.L2 65536 x (sumS x x.length) m s i) (fun i => tabl x.length fun k => if k < i then f k else 0) x.length _ (fun m i hi => ?_) (fun m => ?_) N (by omega)
    · show curve_Shares.L2 65536 x _ (m + 1) _ (i : Int) = curve_Shares.L2 65536 x _ m _ _
      obtain ⟨a, b, c⟩ := sumS_range x h x.length
      have hx := c i hi
      have h32 := h i
      rw [curve_Shares.L2, if_pos (by omega), idx_d x 0 hi, Option.bind_some]
      by_cases hk : x.getD i 0 > 0
      · rw [if_pos hk, show decide ((65536 : Int) > 0) = true from rfl, curve_Shares.J4, if_pos rfl, chk_ok _ (by omega), idx_t _ hi, Option.bind_some, curve_Shares.J3, W_succ i (by omega)]
        have hd : 0 ≤ Int.tdiv (x.getD i 0 * 65536) (sumS x x.length) ∧ Int.tdiv (x.getD i 0 * 65536) (sumS x x.length) ≤ x.getD i 0 * 65536 := by
          rw [Int.tdiv_eq_ediv_of_nonneg (by omega)]
          exact ⟨Int.ediv_nonneg (by omega) (by omega), Int.ediv_le_self _ (by omega)⟩
        have e : IntKind.i32.wrap (IntKind.u64.wrap (Int.tdiv (IntKind.u64.wrap (IntKind.u64.wrap (x.getD i 0) * IntKind.u64.wrap 65536)) (sumS x x.length))) = f i := by
          show _ = if x.getD i 0 > 0 ∧ (65536 : Int) > 0 then IntKind.i32.wrap (IntKind.i64.wrap (Int.tdiv (IntKind.i64.wrap (IntKind.i64.wrap (x.getD i 0) * IntKind.i64.wrap 65536)) (sumS x x.length))) else 0
          rw [if_pos ⟨hk, by decide⟩, wu_id (x := x.getD i 0) (by omega), show IntKind.u64.wrap 65536 = 65536 from rfl, show IntKind.i64.wrap 65536 = 65536 from rfl, W_in (x := x.getD i 0) (by omega), wu_id (x := x.getD i 0 * 65536) (by omega), W_in (x := x.getD i 0 * 65536) (by omega), wu_id (by omega), W_in (by omega)]
        rw [e, fill_step x.length f 0 i]
      · rw [if_neg hk, curve_Shares.J4, if_neg (by decide), curve_Shares.J3, W_succ i (by omega)]
        congr 1
        refine tabl_congr fun j hj => ?_
        by_cases h1 : j < i
        · rw [if_pos h1, if_pos (by omega)]
        · rw [if_neg h1]
          by_cases h2 : j = i
          · subst h2
            rw [if_pos (by omega)]
            exact (if_neg (fun h => hk h.1)).symm
          · rw [if_neg (by omega)]
    · show curve_Shares.L2 65536 x _ (m + 1) _ (x.length : Int) = _
      rw [curve_Shares.L2, if_neg (by omega), fill_n]
      rfl
end Go.Proofs.YtbfiagimgokccaaGreat

namespace Go.Proofs.YtbfiagimgokccaaGreat
open Go Go.Hp
set_option linter.unusedVariables false
theorem pmax_is {N : Nat} (x : List Int) (h0 : 0 < x.length) (hl : x.length ≤ 200) (hN : 201 < N) : slices_Max_s_int32_int32 N x = some (topS x (x.getD 0 0) x.length) := by
  unfold slices_Max_s_int32_int32
  rw [if_neg (by omega), show idx x (0 : Int) = some (x.getD 0 0) from idx_d x 0 h0, Option.bind_some]
  have ht : ∀ k, topS x (x.getD 0 0) k ≥ x.getD 0 0 := by
    intro k
    induction k with
    | zero => exact Int.le_refl _
    | succ k ih => rw [topS]; split <;> omega
  have key : ∀ (d m k : Nat), k + d = x.length → d < m → slices_Max_s_int32_int32.L1 x m (topS x (x.getD 0 0) k) (k : Int) = some (topS x (x.getD 0 0) x.length) := by
    intro d
    induction d with
    | zero =>
      intro m k hk hm
      obtain ⟨m, rfl⟩ : ∃ q, m = q + 1 := ⟨m - 1, by omega⟩
      obtain rfl : k = x.length := by omega
      rw [slices_Max_s_int32_int32.L1, if_neg (by omega)]
    | succ d ih =>
      intro m k hk hm
      obtain ⟨m, rfl⟩ : ∃ q, m = q + 1 := ⟨m - 1, by omega⟩
      rw [slices_Max_s_int32_int32.L1, if_pos (by omega), idx_d x 0 (by omega), Option.bind_some, W_succ k (by omega), show max (topS x (x.getD 0 0) k) (x.getD k 0) = topS x (x.getD 0 0) (k + 1) by rw [topS]; split <;> omega]
      exact ih m (k + 1) (by omega) (by omega)
  have e1 : topS x (x.getD 0 0) 1 = x.getD 0 0 := by rw [topS, topS]; split <;> omega
  have := key (x.length - 1) N 1 (by omega) (by omega)
  rw [e1] at this
  exact this
theorem topS_ge (x : List Int) (t : Int) : ∀ k, topS x t k ≥ t ∧ (∀ j, j < k → topS x t k ≥ x.getD j 0) ∧ (topS x t k = t ∨ ∃ j, j < k ∧ topS x t k = x.getD j 0)
  | 0 => ⟨Int.le_refl _, fun j hj => by omega, .inl rfl⟩
  | k + 1 => by
    obtain ⟨a, b, c⟩ := topS_ge x t k
    rw [topS]
    by_cases h : x.getD k 0 > topS x t k
    · rw [if_pos h]
      refine ⟨by omega, fun j hj => ?_, .inr ⟨k, by omega, rfl⟩⟩
      by_cases e : j = k
      · subst e; omega
      · have := b j (by omega); omega
    · rw [if_neg h]
      refine ⟨a, fun j hj => ?_, c.imp id fun ⟨j, h1, h2⟩ => ⟨j, by omega, h2⟩⟩
      by_cases e : j = k
      · subst e; omega
      · exact b j (by omega)
theorem topS_same (x : List Int) (i j : Nat) (hi : i < x.length) (hj : j < x.length) : topS x (x.getD i 0) x.length = topS x (x.getD j 0) x.length := by
  obtain ⟨a1, b1, c1⟩ := topS_ge x (x.getD i 0) x.length
  obtain ⟨a2, b2, c2⟩ := topS_ge x (x.getD j 0) x.length
  have u1 := b1 j hj
  have u2 := b2 i hi
  rcases c1 with e1 | ⟨p, hp, e1⟩ <;> rcases c2 with e2 | ⟨q, hq, e2⟩
  · omega
  · have := b1 q hq; omega
  · have := b2 p hp; omega
  · have := b1 q hq; have := b2 p hp; omega
theorem psoftmax_is {N : Nat} (by_ n : Int) (x : List Int) (h0 : 0 < x.length) (hl : x.length ≤ 200) (hN : 201 < N) : norm_Softmax N by_ n x = some (softS by_ n x) := by
  unfold norm_Softmax
  rw [if_neg (by omega), pmax_is x h0 hl hN, Option.bind_some, chk_ok _ (by omega), Int.toNat_natCast]
  let f : Nat → Int := fun i => expS (sh (IntKind.i64.wrap (IntKind.i64.wrap (IntKind.i64.wrap (x.getD i 0) - IntKind.i64.wrap (topS x (x.getD i 0) x.length)) * IntKind.i64.wrap by_)) (min (max n 0) 62).toNat)
  rw [fill_0 x.length f 0]
  refine loop_c (fun m (s : List Int) i => norm_Softmax.L1 N by_ n x (topS x (x.getD 0 0) x.length) m s i) (fun i => tabl x.length fun k => if k < i then f k else 0) x.length _ (fun m i hi => ?_) (fun m => ?_) N (by omega)
  · show norm_Softmax.L1 N by_ n x _ (m + 1) _ (i : Int) = norm_Softmax.L1 N by_ n x _ m _ _
    rw [norm_Softmax.L1, if_pos (by omega), idx_d x 0 hi, Option.bind_some, shift_is _ _ (W_range _), Option.bind_some, pexp_is, Option.bind_some, idx_t _ hi, Option.bind_some, W_succ i (by omega), topS_same x 0 i h0 hi]
    exact congrArg (fun z => norm_Softmax.L1 N by_ n x _ m z _) (fill_step x.length f 0 i)
  · show norm_Softmax.L1 N by_ n x _ (m + 1) _ (x.length : Int) = _
    rw [norm_Softmax.L1, if_neg (by omega), fill_n]
    have hp : in32 (powS by_ n x) := by
      intro k
      by_cases hk : k < x.length
      · rw [powS, tabl_getD _ _ _ _ hk]; exact expS_range _
      · rw [List.getD_eq_getElem?_getD, List.getElem?_eq_none (by rw [powS, tabl_len]; omega)]; decide
    have := pshares_is (N := N) (powS by_ n x) hp (by rw [powS, tabl_len]; omega) (by omega)
    rw [powS] at this
    rw [this, Option.bind_some]
    rfl
end Go.Proofs.YtbfiagimgokccaaGreat

namespace Go.Proofs.YtbfiagimgokccaaGreat
open Go Go.Hp
set_option linter.unusedVariables false
theorem pmix_is {N : Nat} (ws : List Int) (rows : List (List Int)) (n : Nat) (hw : ws.length = rows.length) (h0 : 0 < rows.length) (hr : rows.length ≤ 200) (hn : ∀ i, i < rows.length → (rows.getD i []).length = n) (hn2 : n ≤ 200) (hN : 200 < N) : norm_Mix N ws rows = some (mixS ws rows n, 0) := by
  unfold norm_Mix
  have hl0 := hn 0 h0
  rw [if_neg (by omega), if_neg (by omega), show idx rows (0 : Int) = some (rows.getD 0 []) from idx_d rows [] h0, Option.bind_some, chk_ok _ (by omega)]
  generalize hy : rows.getD 0 [] = y at hl0 ⊢
  have hz : (List.replicate (((y.length : Nat) : Int)).toNat 0 : List Int) = tabl n fun k => accS ws rows k 0 := by rw [Int.toNat_natCast, hl0, tabl_rep]; rfl
  rw [hz]
  refine loop_c (fun m (s : List Int) i => norm_Mix.L1 N ws rows y m s i) (fun i => tabl n fun k => accS ws rows k i) rows.length _ (fun m i hi => ?_) (fun m => ?_) N (by omega)
  · show norm_Mix.L1 N ws rows y (m + 1) _ (i : Int) = norm_Mix.L1 N ws rows y m _ _
    have hli := hn i hi
    rw [norm_Mix.L1, if_pos (by omega), idx_d rows [] hi, Option.bind_some, if_neg (by rw [hli, Int.toNat_natCast, hl0]; omega)]
    have hs : (tabl n fun k => accS ws rows k i) = tabl n fun k => if k < 0 then accS ws rows k (i + 1) else accS ws rows k i := tabl_congr fun j hj => (if_neg (by omega)).symm
    rw [hs]
    refine loop_c (fun q (s : List Int) j => norm_Mix.L3 ws (i : Int) (rows.getD i []) (norm_Mix.L1 N ws rows y m) q s j) (fun j => tabl n fun k => if k < j then accS ws rows k (i + 1) else accS ws rows k i) n _ (fun q j hj => ?_) (fun q => ?_) N (by omega)
    · show norm_Mix.L3 ws _ _ _ (q + 1) _ (j : Int) = norm_Mix.L3 ws _ _ _ q _ _
      rw [norm_Mix.L3, if_pos (by omega), idx_d (rows.getD i []) 0 (by omega), Option.bind_some, idx_t _ hj, Option.bind_some, idx_d ws 0 (by omega), Option.bind_some, Option.bind_some, W_succ j (by omega), if_neg (show ¬ j < j by omega), Int.toNat_natCast, tabl_set]
      congr 1
      refine tabl_congr fun p hp => ?_
      by_cases e : p = j
      · subst e; rw [if_pos rfl, if_pos (by omega)]; rfl
      · rw [if_neg e]
        by_cases e2 : p < j
        · rw [if_pos e2, if_pos (by omega)]
        · rw [if_neg e2, if_neg (by omega)]
    · show norm_Mix.L3 ws _ _ _ (q + 1) _ (n : Int) = _
      rw [norm_Mix.L3, if_neg (by omega), W_succ i (by omega)]
      congr 1
      exact tabl_congr fun p hp => if_pos hp
  · show norm_Mix.L1 N ws rows y (m + 1) _ (rows.length : Int) = _
    rw [norm_Mix.L1, if_neg (by omega), Int.toNat_natCast, hl0, chk_ok _ (by omega), Int.toNat_natCast]
    let f : Nat → Int := fun k => IntKind.i8.wrap (min (max (sh (accS ws rows k rows.length) 16) (-128)) 127)
    rw [fill_0 n f 0]
    refine loop_c (fun q (s : List Int) j => norm_Mix.L2 y (tabl n fun k => accS ws rows k rows.length) q s j) (fun j => tabl n fun k => if k < j then f k else 0) n _ (fun q j hj => ?_) (fun q => ?_) N (by omega)
    · show norm_Mix.L2 y _ (q + 1) _ (j : Int) = norm_Mix.L2 y _ q _ _
      rw [norm_Mix.L2, if_pos (by rw [Int.toNat_natCast, hl0]; omega), idx_t _ hj, Option.bind_some, shift_is _ _ (accS_range ws rows j _), Option.bind_some, sat8_is, Option.bind_some, idx_t _ hj, Option.bind_some, W_succ j (by omega)]
      have e : min (max (sh (accS ws rows j rows.length) (min (max (16 : Int) 0) 62).toNat) (-128)) 127 = f j := by
        show _ = IntKind.i8.wrap (min (max (sh (accS ws rows j rows.length) 16) (-128)) 127)
        rw [w8_is, show (min (max (16 : Int) 0) 62).toNat = 16 from rfl]; omega
      rw [e, fill_step n f 0 j]
    · show norm_Mix.L2 y _ (q + 1) _ (n : Int) = _
      rw [norm_Mix.L2, if_neg (by rw [Int.toNat_natCast, hl0]; omega), fill_n]
      rfl
end Go.Proofs.YtbfiagimgokccaaGreat

namespace Go.Proofs.YtbfiagimgokccaaGreat
open Go Go.Hp
set_option linter.unusedVariables false
theorem u64w {n : Int} (h0 : 0 ≤ n) (h1 : n < 18446744073709551616) : IntKind.u64.wrap n = n := by rw [IntKind.wrap_u64]; omega
theorem u64_wraps (n : Int) (h0 : 0 ≤ n) (h1 : n < 2 ^ 64) : IntKind.u64.wrap n = n := u64w h0 (by have : (2 : Int) ^ 64 = 18446744073709551616 := by decide
                                                                                                   omega)
theorem ior_pow (i : Nat) (x : Int) (h0 : 0 ≤ x) (h1 : x < 18446744073709551616) (hx : x % 2 ^ (i + 1) = 0) (hi : i < 64) : ior .u64 x (2 ^ i) = x + 2 ^ i := by
  have hp : (2 : Int) ^ 64 = 18446744073709551616 := by decide
  have h2 : (2 : Int) ^ i < 2 ^ (i + 1) := by
    have : (2 : Nat) ^ i < 2 ^ (i + 1) := Nat.pow_lt_pow_right (by decide) (by omega)
    exact_mod_cast this
  have h3 : (2 : Int) ^ i < 2 ^ 64 := by
    have : (2 : Nat) ^ i < 2 ^ 64 := Nat.pow_lt_pow_right (by decide) hi
    exact_mod_cast this
  have h4 : (0 : Int) ≤ 2 ^ i := by
    have : (0 : Nat) ≤ 2 ^ i := Nat.zero_le _
    exact_mod_cast this
  exact bits_join .u64 64 (by decide) u64_wraps (i + 1) x (2 ^ i) h0 hx (by omega) h4 h2 h3
theorem ishl_one (b : Nat) (hb : b < 64) : ishl .u64 1 (b : Int) = 2 ^ b := by
  unfold ishl
  have e : min ((b : Int).toNat) IntKind.u64.bits = b := by
    show min ((b : Int).toNat) 64 = b
    omega
  rw [e, Int.one_mul]
  refine u64_wraps _ ?_ ?_
  · have : (0 : Nat) ≤ 2 ^ b := Nat.zero_le _
    exact_mod_cast this
  · have : (2 : Nat) ^ b < 2 ^ 64 := Nat.pow_lt_pow_right (by decide) hb
    exact_mod_cast this
theorem mul_u64 {a b : Int} (ha0 : 0 ≤ a) (ha : a < 4294967296) (hb0 : 0 ≤ b) (hb : b < 4294967296) : 0 ≤ a * b ∧ a * b < 18446744073709551616 := by
  refine ⟨Int.mul_nonneg ha0 hb0, ?_⟩
  have h1 : a * b ≤ 4294967295 * b := Int.mul_le_mul_of_nonneg_right (by omega) hb0
  omega
theorem root_one {a b n : Nat} (h1 : a * a ≤ n) (h2 : n < (a + 1) * (a + 1)) (h3 : b * b ≤ n) (h4 : n < (b + 1) * (b + 1)) : a = b := by
  rcases Nat.lt_trichotomy a b with h | h | h
  · have : (a + 1) * (a + 1) ≤ b * b := Nat.mul_le_mul (by omega) (by omega)
    omega
  · exact h
  · have : (b + 1) * (b + 1) ≤ a * a := Nat.mul_le_mul (by omega) (by omega)
    omega
theorem bitLen_lt (x : Nat) (hx : x < 2 ^ 64) : x < 2 ^ Lib.bitLen x := by
  have key : ∀ (f y : Nat), y < 2 ^ f → y < 2 ^ Lib.bitLenAux f y := by
    intro f
    induction f with
    | zero => intro y hy; simpa [Lib.bitLenAux] using hy
    | succ f ih =>
      intro y hy
      simp only [Lib.bitLenAux]
      split
      · rename_i h; subst h; decide
      · have := ih (y / 2) (by rw [Nat.pow_succ] at hy; omega)
        rw [Nat.add_comm, Nat.pow_succ]
        omega
  exact key 64 x hx
theorem bitLen_le (x : Nat) : Lib.bitLen x ≤ 64 := by
  have key : ∀ (f y : Nat), Lib.bitLenAux f y ≤ f := by
    intro f
    induction f with
    | zero => intro y; simp [Lib.bitLenAux]
    | succ f ih =>
      intro y
      simp only [Lib.bitLenAux]
      split
      · omega
      · have := ih (y / 2); omega
  exact key 64 x
theorem mul64_small (a b : Int) (ha0 : 0 ≤ a) (ha : a < 4294967296) (hb0 : 0 ≤ b) (hb : b < 4294967296) : bits_Mul64 a b = some (0, a * b) := by
  obtain ⟨hp0, hp1⟩ := mul_u64 ha0 ha hb0 hb
  have m : ∀ x : Int, 0 ≤ x → x < 18446744073709551616 → iand .u64 x 4294967295 = x % 4294967296 := fun x h0 h1 => and_low .u64 (.inr rfl) 32 (by decide) x
  have s : ∀ x : Int, 0 ≤ x → ishr .u64 x 32 = x / 4294967296 := fun x h0 => by
    show x.fdiv (2 ^ min (32 : Int).toNat IntKind.u64.bits) = _
    rw [show (2 : Int) ^ min (32 : Int).toNat IntKind.u64.bits = 4294967296 from rfl, Int.fdiv_eq_ediv_of_nonneg _ (by decide)]
  have da : a / 4294967296 = 0 := by omega
  have db : b / 4294967296 = 0 := by omega
  have ma : iand .u64 a 4294967295 = a := by rw [m a ha0 (by omega)]; omega
  have mb : iand .u64 b 4294967295 = b := by rw [m b hb0 (by omega)]; omega
  have sa : ishr .u64 a 32 = 0 := by rw [s a ha0]; exact da
  have sb : ishr .u64 b 32 = 0 := by rw [s b hb0]; exact db
  unfold bits_Mul64
  rw [ma, mb, sa, sb, Option.bind_some, u64w hp0 hp1, Option.bind_some]
  have e2 : IntKind.u64.wrap (IntKind.u64.wrap (0 * b) + ishr .u64 (a * b) 32) = a * b / 4294967296 := by
    rw [s _ hp0, Int.zero_mul, u64w (n := 0) (by decide) (by decide), u64w (n := 0 + a * b / 4294967296) (by omega) (by omega)]; omega
  have q0 : 0 ≤ a * b / 4294967296 ∧ a * b / 4294967296 < 4294967296 := by omega
  have e3 : IntKind.u64.wrap (iand .u64 (a * b / 4294967296) 4294967295 + IntKind.u64.wrap (a * 0)) = a * b / 4294967296 := by
    rw [m _ q0.1 (by omega), Int.mul_zero, u64w (n := 0) (by decide) (by decide), Int.add_zero, u64w (by omega) (by omega)]; omega
  have e4 : a * b / 4294967296 / 4294967296 = 0 := by omega
  rw [e2, Option.bind_some, e3, Option.bind_some, s _ q0.1, e4]
  rfl
theorem root_loop (n : Nat) (b : Nat) : ∀ (k r : Nat), b < k → r % 2 ^ b = 0 → r * r ≤ n → n < (r + 2 ^ b) * (r + 2 ^ b) → r + 2 ^ b ≤ 4294967296 →
    ∃ q : Nat, curve_Root.L1 (n : Int) k (r : Int) (b : Int) = some (q : Int) ∧ q * q ≤ n ∧ n < (q + 1) * (q + 1) ∧ q < 4294967296 := by
  induction b with
  | zero =>
    intro k r hk _ h1 h2 h3
    obtain ⟨k, rfl⟩ : ∃ m, k = m + 1 := ⟨k - 1, by omega⟩
    refine ⟨r, ?_, h1, by simpa using h2, by omega⟩
    rw [curve_Root.L1, if_neg (by decide)]
  | succ b ih =>
    intro k r hk hm h1 h2 h3
    obtain ⟨k, rfl⟩ : ∃ m, k = m + 1 := ⟨k - 1, by omega⟩
    have hb : b < 32 := by
      rcases Nat.lt_or_ge b 32 with h | h
      · exact h
      · have : 2 ^ 33 ≤ 2 ^ (b + 1) := Nat.pow_le_pow_right (by decide) (by omega)
        omega
    have hpow : 2 ^ (b + 1) = 2 ^ b * 2 := Nat.pow_succ 2 b
    have hpos : 0 < 2 ^ b := Nat.two_pow_pos b
    have hup : r + 2 ^ b < 4294967296 := by omega
    have e0 : IntKind.u64.wrap (((b + 1 : Nat) : Int) - 1) = (b : Int) := by rw [u64w] <;> omega
    have e1 : ior .u64 (r : Int) (2 ^ b) = ((r + 2 ^ b : Nat) : Int) := by
      rw [ior_pow b (r : Int) (by omega) (by omega) (by exact_mod_cast hm) (by omega)]
      simp
    have step : ∀ q : Bool, curve_Root.J3 (r : Int) ((b + 1 : Nat) : Int) ((r + 2 ^ b : Nat) : Int) (curve_Root.L1 (n : Int) k) q = curve_Root.L1 (n : Int) k (((if q = true then r + 2 ^ b else r : Nat) : Int)) (b : Int) := by
      intro q
      unfold curve_Root.J3 curve_Root.J2
      rw [e0]
      cases q <;> rfl
    rw [curve_Root.L1, if_pos (by omega), e0, chk_ok _ (by omega), ishl_one b (by omega), e1, Option.bind_some, mul64_small _ _ (by omega) (by omega) (by omega) (by omega), Option.bind_some, if_pos rfl, step]
    have hmod : (r + 2 ^ b) % 2 ^ b = 0 := by
      have : r % 2 ^ b = 0 := by
        have h := Nat.mod_mod_of_dvd r (show 2 ^ b ∣ 2 ^ (b + 1) from ⟨2, hpow⟩)
        rw [← h, hm]; simp
      simp [this]
    have hmod' : r % 2 ^ b = 0 := by simpa using hmod
    by_cases hle : ((r + 2 ^ b : Nat) : Int) * ((r + 2 ^ b : Nat) : Int) ≤ (n : Int)
    · rw [if_pos (decide_eq_true hle)]
      exact ih k (r + 2 ^ b) (by omega) hmod (by exact_mod_cast hle) (by rw [show r + 2 ^ b + 2 ^ b = r + 2 ^ (b + 1) by omega]; exact h2) (by omega)
    · rw [if_neg (fun e => hle (of_decide_eq_true e))]
      refine ih k r (by omega) hmod' h1 ?_ (by omega)
      have : ¬ (r + 2 ^ b) * (r + 2 ^ b) ≤ n := fun h => hle (by exact_mod_cast h)
      omega
theorem root_is (n : Nat) (hn : n < 18446744073709551616) (k : Nat) (hk : 40 ≤ k) :
    ∃ q : Nat, curve_Root k (n : Int) = some (q : Int) ∧ q * q ≤ n ∧ n < (q + 1) * (q + 1) ∧ q < 4294967296 := by
  have hL := bitLen_le n
  have hlt := bitLen_lt n (by simpa using hn)
  unfold curve_Root bits_Len64
  rw [if_pos (by omega), Option.bind_some, Int.toNat_natCast, W_in (by omega), u64w (n := (Lib.bitLen n : Int) + 1) (by omega) (by omega)]
  have e : IntKind.u64.wrap (Int.tdiv ((Lib.bitLen n : Int) + 1) 2) = (((Lib.bitLen n + 1) / 2 : Nat) : Int) := by
    rw [Int.tdiv_eq_ediv_of_nonneg (by omega), u64w] <;> omega
  rw [e, Option.bind_some]
  have h32 : 2 ^ ((Lib.bitLen n + 1) / 2) ≤ 2 ^ 32 := Nat.pow_le_pow_right (by decide) (by omega)
  refine root_loop n _ k 0 (by omega) (Nat.zero_mod _) (by omega) ?_ (by omega)
  rw [Nat.zero_add, ← Nat.pow_add]
  exact Nat.lt_of_lt_of_le hlt (Nat.pow_le_pow_right (by decide) (by omega))
theorem inverseR_is (n : Nat) (h0 : n ≠ 0) (k : Nat) (hk : 40 ≤ k) :
    ∃ q : Nat, curve_Inverse k (n : Int) = some (q : Int) ∧ q * q ≤ 281474976710656 / n ∧ 281474976710656 / n < (q + 1) * (q + 1) ∧ q < 4294967296 := by
  have hd : 281474976710656 / n ≤ 281474976710656 := Nat.div_le_self _ _
  obtain ⟨q, hq, h⟩ := root_is (281474976710656 / n) (by omega) k hk
  refine ⟨q, ?_, h⟩
  unfold curve_Inverse
  rw [if_neg (by omega), chk_ok _ (by omega), Int.tdiv_eq_ediv_of_nonneg (by decide)]
  have e : (281474976710656 : Int) / (n : Int) = ((281474976710656 / n : Nat) : Int) := by simp
  rw [e, u64w (by omega) (by omega), hq]
  rfl
end Go.Proofs.YtbfiagimgokccaaGreat

namespace Go.Proofs.YtbfiagimgokccaaGreat
open Go Go.Hp
set_option linter.unusedVariables false
theorem above_is (a n m : Nat) (ha : a < 4294967296) (hn : n < 18446744073709551616) (h0 : n ≠ 0) (hm : m < 18446744073709551616) :
    ref02_above (a : Int) (n : Int) (m : Int) = some (decide (m < a * a * n)) := by
  unfold ref02_above
  by_cases ha0 : a = 0
  · subst ha0
    rw [if_pos (by rfl)]
    simp
  · rw [if_neg (by omega), if_neg (by omega), chk_ok _ (by omega), chk_ok _ (by omega), Int.tdiv_eq_ediv_of_nonneg (a := (m : Int)) (by omega)]
    have h1 : m / n / a < a ↔ m / n < a * a := Nat.div_lt_iff_lt_mul (by omega)
    have h2 : m / n < a * a ↔ m < a * a * n := Nat.div_lt_iff_lt_mul (by omega)
    have hd : m / n ≤ m := Nat.div_le_self _ _
    have hd2 : m / n / a ≤ m / n := Nat.div_le_self _ _
    have e : (m : Int) / (n : Int) = ((m / n : Nat) : Int) := by simp
    have e2 : ((m / n : Nat) : Int) / (a : Int) = ((m / n / a : Nat) : Int) := by simp
    rw [e]
    have h3 := h1.trans h2
    clear h1 h2 e
    generalize m / n / a = y at *
    generalize m / n = x at *
    rw [u64w (n := (x : Int)) (by omega) (by omega), Int.tdiv_eq_ediv_of_nonneg (by omega), e2, u64w (by omega) (by omega)]
    congr 1
    rw [decide_eq_decide, ← h3]
    omega
theorem greatest_loop (n m : Nat) (hn : n < 18446744073709551616) (h0 : n ≠ 0) (hm : m < 18446744073709551616) (d : Nat) : ∀ (k a b : Nat), d < k → a < b → b ≤ 4294967296 → b - a ≤ 2 ^ d → a * a * n ≤ m → m < b * b * n →
    ∃ q : Nat, ref02_greatest.L1 (n : Int) (m : Int) k (a : Int) (b : Int) = some (q : Int) ∧ q * q * n ≤ m ∧ m < (q + 1) * (q + 1) * n := by
  induction d with
  | zero =>
    intro k a b hk hab hb hd h1 h2
    obtain ⟨k, rfl⟩ : ∃ m, k = m + 1 := ⟨k - 1, by omega⟩
    have e : b = a + 1 := by simp at hd; omega
    subst e
    refine ⟨a, ?_, h1, h2⟩
    rw [ref02_greatest.L1, if_neg (by rw [u64w] <;> omega)]
  | succ d ih =>
    intro k a b hk hab hb hd h1 h2
    obtain ⟨k, rfl⟩ : ∃ m, k = m + 1 := ⟨k - 1, by omega⟩
    have hpow : 2 ^ (d + 1) = 2 ^ d * 2 := Nat.pow_succ 2 d
    have hpos : 0 < 2 ^ d := Nat.two_pow_pos d
    rw [ref02_greatest.L1]
    by_cases hs : b - a ≤ 1
    · have e : b = a + 1 := by omega
      subst e
      refine ⟨a, ?_, h1, h2⟩
      rw [if_neg (by rw [u64w] <;> omega)]
    · rw [if_pos (by rw [u64w] <;> omega)]
      have e : IntKind.u64.wrap (Int.tdiv (IntKind.u64.wrap ((a : Int) + (b : Int))) 2) = (((a + b) / 2 : Nat) : Int) := by
        rw [u64w (n := (a : Int) + (b : Int)) (by omega) (by omega), Int.tdiv_eq_ediv_of_nonneg (by omega), u64w] <;> omega
      rw [e, Option.bind_some, above_is _ n m (by omega) hn h0 hm, Option.bind_some]
      by_cases hc : m < (a + b) / 2 * ((a + b) / 2) * n
      · rw [decide_eq_true hc, if_pos rfl]
        exact ih k a ((a + b) / 2) (by omega) (by omega) (by omega) (by omega) h1 hc
      · rw [decide_eq_false hc, if_neg (by decide)]
        exact ih k ((a + b) / 2) b (by omega) (by omega) (by omega) (by omega) (by omega) h2
theorem pinv_is {N : Nat} (hN : 100 ≤ N) (n : Int) (h0 : 0 ≤ n) (h1 : n < 18446744073709551616) : curve_Inverse N n = some (invS n) ∧ -9223372036854775808 ≤ invS n ∧ invS n ≤ 9223372036854775807 := by
  have hi := inverse_is (N := N) hN n
  obtain ⟨m, rfl⟩ := Int.eq_ofNat_of_zero_le h0
  by_cases hm : m = 0
  · subst hm
    have z : ∀ k, curve_Inverse k ((0 : Nat) : Int) = some 16777216 := fun k => by unfold curve_Inverse; exact if_pos rfl
    have z2 : ∀ k, ref02_Inverse k ((0 : Nat) : Int) = some 16777216 := fun k => by unfold ref02_Inverse; exact if_pos rfl
    rw [z2 N] at hi
    rw [z N, ← Option.some.inj hi]
    exact ⟨rfl, by decide⟩
  · obtain ⟨q, e, a1, a2, a3⟩ := inverseR_is m hm N (by omega)
    obtain ⟨p, ep, b1, b2⟩ : ∃ p : Nat, ref02_Inverse N (m : Int) = some (p : Int) ∧ p * p * m ≤ 281474976710656 ∧ 281474976710656 < (p + 1) * (p + 1) * m := by
      obtain ⟨p, e, b⟩ := greatest_loop m 281474976710656 (by omega) hm (by decide) 32 N 0 4294967296 (by omega) (by omega) (by omega) (by decide) (by omega) (by
        have : 4294967296 * 4294967296 * 1 ≤ 4294967296 * 4294967296 * m := Nat.mul_le_mul_left _ (by omega)
        omega)
      refine ⟨p, ?_, b⟩
      unfold ref02_Inverse ref02_greatest
      rw [if_neg (by omega)]
      show (ref02_greatest.L1 (m : Int) ((281474976710656 : Nat) : Int) N ((0 : Nat) : Int) ((4294967296 : Nat) : Int)).bind _ = _
      rw [e, Option.bind_some]
    have c1 : p * p ≤ 281474976710656 / m := (Nat.le_div_iff_mul_le (by omega)).2 b1
    have c2 : 281474976710656 / m < (p + 1) * (p + 1) := (Nat.div_lt_iff_lt_mul (by omega)).2 b2
    have hqp := root_one a1 a2 c1 c2
    rw [ep] at hi
    rw [e, ← Option.some.inj hi, hqp]
    refine ⟨rfl, ?_⟩
    omega
end Go.Proofs.YtbfiagimgokccaaGreat

namespace Go.Proofs.YtbfiagimgokccaaGreat
open Go Go.Hp
set_option linter.unusedVariables false
set_option linter.unusedSimpArgs false
set_option linter.unusedSectionVars false
theorem wu_range (x : Int) : 0 ≤ IntKind.u64.wrap x ∧ IntKind.u64.wrap x < 18446744073709551616 := by rw [IntKind.wrap_u64]; omega
theorem tame_is (y : Int) : norm_tame y = some (min (max (IntKind.i64.wrap y) (-8388608)) 8388607) := rfl
theorem square_is {N : Nat} (x : List Int) (h0 : 0 < x.length) (hl : x.length ≤ 200) (hN : 200 < N) : norm_square N x = some (IntKind.u64.wrap (Int.tdiv (sqS x x.length) (IntKind.u64.wrap ((x.length : Nat) : Int)))) := by
  unfold norm_square
  refine loop_c (fun m (s : Int) i => norm_square.L1 x m s i) (fun i => sqS x i) x.length _ (fun m i hi => ?_) (fun m => ?_) N (by omega)
  · show norm_square.L1 x (m + 1) _ (i : Int) = norm_square.L1 x m _ _
    rw [norm_square.L1, if_pos (by omega), idx_d x 0 hi, Option.bind_some, tame_is, Option.bind_some, Option.bind_some, Option.bind_some, W_succ i (by omega)]
    rfl
  · show norm_square.L1 x (m + 1) _ (x.length : Int) = _
    rw [norm_square.L1, if_neg (by omega), chk_ok _ (by rw [wu_in (by omega)]; omega), Option.bind_some]
theorem pnorm_is {N : Nat} (hN : 200 < N) (g x : List Int) (hg : g.length = x.length) (h0 : 0 < x.length) (hl : x.length ≤ 200) : norm_Norm N g x = some (normS g x, 0) := by
  have hr := wu_range (Int.tdiv (sqS x x.length) (IntKind.u64.wrap ((x.length : Nat) : Int)))
  obtain ⟨hv, _, _⟩ := pinv_is (N := N) (by omega) _ hr.1 hr.2
  unfold norm_Norm
  rw [if_neg (by omega), if_neg (by omega), if_neg (by omega), square_is x h0 hl hN, Option.bind_some, hv, Option.bind_some, chk_ok _ (by omega), Int.toNat_natCast]
  let f : Nat → Int := fun i => IntKind.i8.wrap (min (max (sh (IntKind.i64.wrap (IntKind.i64.wrap (min (max (IntKind.i64.wrap (x.getD i 0)) (-8388608)) 8388607 * IntKind.i64.wrap (invS (IntKind.u64.wrap (Int.tdiv (sqS x x.length) (IntKind.u64.wrap ((x.length : Nat) : Int)))))) * IntKind.i64.wrap (g.getD i 0))) 23) (-128)) 127)
  rw [fill_0 x.length f 0]
  refine loop_c (fun m (s : List Int) i => norm_Norm.L1 g x _ m s i) (fun i => tabl x.length fun k => if k < i then f k else 0) x.length _ (fun m i hi => ?_) (fun m => ?_) N (by omega)
  · show norm_Norm.L1 g x _ (m + 1) _ (i : Int) = norm_Norm.L1 g x _ m _ _
    rw [norm_Norm.L1, if_pos (by omega), idx_d x 0 hi, Option.bind_some, tame_is, Option.bind_some, idx_d g 0 (by omega), Option.bind_some, shift_is _ _ (W_range _), Option.bind_some, sat8_is, Option.bind_some, idx_t _ hi, Option.bind_some, W_succ i (by omega)]
    have e : min (max (sh (IntKind.i64.wrap (IntKind.i64.wrap (min (max (IntKind.i64.wrap (x.getD i 0)) (-8388608)) 8388607 * IntKind.i64.wrap (invS (IntKind.u64.wrap (Int.tdiv (sqS x x.length) (IntKind.u64.wrap ((x.length : Nat) : Int)))))) * IntKind.i64.wrap (g.getD i 0))) (min (max (23 : Int) 0) 62).toNat) (-128)) 127 = f i := by
      show _ = IntKind.i8.wrap (min (max (sh (IntKind.i64.wrap (IntKind.i64.wrap (min (max (IntKind.i64.wrap (x.getD i 0)) (-8388608)) 8388607 * IntKind.i64.wrap (invS (IntKind.u64.wrap (Int.tdiv (sqS x x.length) (IntKind.u64.wrap ((x.length : Nat) : Int)))))) * IntKind.i64.wrap (g.getD i 0))) 23) (-128)) 127)
      rw [w8_is, show (min (max (23 : Int) 0) 62).toNat = 23 from rfl]; omega
    rw [e, fill_step x.length f 0 i]
  · show norm_Norm.L1 g x _ (m + 1) _ (x.length : Int) = _
    rw [norm_Norm.L1, if_neg (by omega), fill_n]
    rfl
theorem clone8_is (x : List Int) (h : x.length ≤ 100000) : slices_Clone_s_int8_int8 x = some x := by
  unfold slices_Clone_s_int8_int8
  rw [app_ok _ _ (by simp; omega), Option.bind_some]; rfl
theorem gate_is {N : Nat} (u : List Int) (hl : u.length ≤ 300) (hN : 300 < N) : norm_Gate N u = some (reluS u) := by
  unfold norm_Gate
  rw [clone8_is u (by omega), Option.bind_some]
  let f : Nat → Int := fun i => if u.getD i 0 < 0 then 0 else u.getD i 0
  have h0 : u = tabl u.length fun k => if k < 0 then f k else u.getD k 0 := by
    conv => lhs; rw [tab_of u 0]
    exact tabl_congr fun j hj => (if_neg (by omega)).symm
  have e0 : norm_Gate.L1 u N u 0 = norm_Gate.L1 u N (tabl u.length fun k => if k < 0 then f k else u.getD k 0) 0 := congrArg (fun z => norm_Gate.L1 u N z 0) h0
  rw [e0]
  refine loop_c (fun m (s : List Int) i => norm_Gate.L1 u m s i) (fun i => tabl u.length fun k => if k < i then f k else u.getD k 0) u.length _ (fun m i hi => ?_) (fun m => ?_) N (by omega)
  · show norm_Gate.L1 u (m + 1) _ (i : Int) = norm_Gate.L1 u m _ _
    rw [norm_Gate.L1, if_pos (by omega), idx_t _ hi, Option.bind_some, Option.bind_some, W_succ i (by omega), if_neg (show ¬ i < i by omega), Int.toNat_natCast, tabl_set]
    congr 1
    refine tabl_congr fun p hp => ?_
    by_cases e : p = i
    · subst e; rw [if_pos rfl, if_pos (by omega)]
      show _ = if u.getD p 0 < 0 then 0 else u.getD p 0
      split <;> omega
    · rw [if_neg e]
      by_cases e2 : p < i
      · rw [if_pos e2, if_pos (by omega)]
      · rw [if_neg e2, if_neg (by omega)]
  · show norm_Gate.L1 u (m + 1) _ (u.length : Int) = _
    rw [norm_Gate.L1, if_neg (by omega)]
    exact congrArg some (tabl_congr fun j hj => if_pos hj)
end Go.Proofs.YtbfiagimgokccaaGreat
end
section
namespace Go.Proofs.YtbfiagimgokccaaGreat
open Go Go.Hp
set_option linter.unusedVariables false
set_option linter.unusedSimpArgs false
set_option linter.unusedSectionVars false
theorem tmodN (a b : Nat) : Int.tmod (a : Int) (b : Int) = ((a % b : Nat) : Int) := by rw [Int.tmod_eq_emod_of_nonneg (by omega)]; simp
theorem tdivN (a b : Nat) : Int.tdiv (a : Int) (b : Int) = ((a / b : Nat) : Int) := by rw [Int.tdiv_eq_ediv_of_nonneg (by omega)]; simp
theorem mulN (a b : Nat) (h : a * b ≤ 4611686018427387904) : IntKind.i64.wrap ((a : Int) * (b : Int)) = ((a * b : Nat) : Int) := by
  rw [show (a : Int) * (b : Int) = ((a * b : Nat) : Int) by simp, W_in (by omega)]
theorem W_nat (k : Nat) (h : k ≤ 4611686018427387904) : IntKind.i64.wrap (k : Int) = (k : Int) := W_in (by omega)
structure Cu where
  st : Nat
  pa : Nat
structure COK (d : Dim) (c : Cu) : Prop where
  st : 0 < c.st ∧ c.st ≤ d.ly
  pa : 0 < c.pa ∧ c.pa ≤ d.h
  h : d.h % c.pa = 0
  inn : d.inn % c.pa = 0
def cutS (c : Cu) : S_api_Cut := ⟨(c.st : Int), (c.pa : Int)⟩
def sp (i n m : Nat) : Nat := i * n / m
theorem sp_le (i n m : Nat) : sp i n m ≤ sp (i + 1) n m := Nat.div_le_div_right (Nat.mul_le_mul_right n (by omega))
theorem sp_in (i n m : Nat) (hm : 0 < m) (hi : i ≤ m) : sp i n m ≤ n := by
  have h : i * n ≤ m * n := Nat.mul_le_mul_right n hi
  exact Nat.le_trans (Nat.div_le_div_right h) (by rw [Nat.mul_comm, Nat.mul_div_cancel _ hm]; exact Nat.le_refl _)
theorem sp_even (i n m : Nat) (hm : 0 < m) (h : n % m = 0) : sp i n m = i * (n / m) := by
  obtain ⟨q, hq⟩ := Nat.dvd_of_mod_eq_zero h
  subst hq
  unfold sp
  rw [Nat.mul_div_cancel_left _ hm, Nat.mul_left_comm, Nat.mul_div_cancel_left _ hm]
theorem span_is (i n m : Nat) (hm : 0 < m) (hi : i ≤ 1000) (hn : n ≤ 1000) : ref10_Span (i : Int) (n : Int) (m : Int) = some ⟨((sp i n m : Nat) : Int), ((sp (i + 1) n m : Nat) : Int)⟩ := by
  have h1 : i * n ≤ 1000 * 1000 := Nat.mul_le_mul hi hn
  have h2 : (i + 1) * n ≤ 1001 * 1000 := Nat.mul_le_mul (by omega) hn
  have h3 : i * n / m ≤ i * n := Nat.div_le_self _ _
  have h4 : (i + 1) * n / m ≤ (i + 1) * n := Nat.div_le_self _ _
  unfold ref10_Span sp
  rw [chk_ok _ (by omega), chk_ok _ (by omega), mulN i n (by omega), W_succ i (by omega), mulN (i + 1) n (by omega), tdivN, tdivN, W_nat _ (Nat.le_trans h3 (Nat.le_trans h1 (by decide))), W_nat _ (Nat.le_trans h4 (Nat.le_trans h2 (by decide)))]
theorem pspan_is (i n m : Nat) (him : i < m) (hi : i ≤ 1000) (hn : n ≤ 1000) : slice_span true (i : Int) (n : Int) (m : Int) = some (⟨((sp i n m : Nat) : Int), ((sp (i + 1) n m : Nat) : Int)⟩, 0) := by
  have h1 : i * n ≤ 1000 * 1000 := Nat.mul_le_mul hi hn
  have h2 : (i + 1) * n ≤ 1001 * 1000 := Nat.mul_le_mul (by omega) hn
  have h3 : i * n / m ≤ i * n := Nat.div_le_self _ _
  have h4 : (i + 1) * n / m ≤ (i + 1) * n := Nat.div_le_self _ _
  unfold slice_span sp
  rw [if_pos rfl, if_neg (by omega), if_neg (by omega), chk_ok _ (by omega), chk_ok _ (by omega), mulN i n (by omega), W_succ i (by omega), mulN (i + 1) n (by omega), tdivN, tdivN, W_nat _ (Nat.le_trans h3 (Nat.le_trans h1 (by decide))), W_nat _ (Nat.le_trans h4 (Nat.le_trans h2 (by decide)))]
def partM (m : S_api_Mat) (cols r0 r1 c0 c1 : Nat) : S_api_Mat := ⟨((r1 - r0 : Nat) : Int), ((c1 - c0 : Nat) : Int), tabl ((r1 - r0) * (c1 - c0)) fun k => m.V.getD ((r0 + k / (c1 - c0)) * cols + (c0 + k % (c1 - c0))) 0⟩
theorem partM_R (m : S_api_Mat) (cols r0 r1 c0 c1 : Nat) : matR (partM m cols r0 r1 c0 c1) (r1 - r0) (c1 - c0) := ⟨rfl, rfl, tabl_len _ _⟩
theorem divmod_at (i w j : Nat) (hj : j < w) : (i * w + j) / w = i ∧ (i * w + j) % w = j := by
  rw [Nat.mul_comm i w]
  exact ⟨by rw [Nat.mul_add_div (by omega), Nat.div_eq_of_lt hj, Nat.add_zero], by rw [Nat.mul_add_mod, Nat.mod_eq_of_lt hj]⟩
theorem partOf_is {N : Nat} (hN : 300 < N) {m : S_api_Mat} {rows cols : Nat} (h : matR m rows cols) (hr : rows ≤ 200) (hc : cols ≤ 200) (r0 r1 c0 c1 : Nat) (h1 : r0 ≤ r1) (h2 : r1 ≤ rows) (h3 : c0 ≤ c1) (h4 : c1 ≤ cols) (h5 : c0 < c1) :
    ref04_Part N m (r0 : Int) (r1 : Int) (c0 : Int) (c1 : Int) = some (partM m cols r0 r1 c0 c1) := by
  have hrc : rows * cols ≤ 40000 := Nat.le_trans (Nat.mul_le_mul hr hc) (by decide)
  unfold ref04_Part
  let f : Nat → Int := fun k => m.V.getD ((r0 + k / (c1 - c0)) * cols + (c0 + k % (c1 - c0))) 0
  obtain ⟨m', s', hs, e⟩ := loop_to (fun q (s : List Int) i => ref04_Part.L1 N m (r0 : Int) (r1 : Int) (c0 : Int) (c1 : Int) q s i) (fun i => ((r0 + i : Nat) : Int)) (r1 - r0) (fun i s => s = tabl (i * (c1 - c0)) f) (fun q i s hi hs => by
    subst hs
    have hb : (r0 + i + 1) * cols ≤ rows * cols := Nat.mul_le_mul_right _ (by omega)
    have hb2 : (r0 + i + 1) * cols = (r0 + i) * cols + cols := Nat.succ_mul _ _
    have hi1 : (i + 1) * (c1 - c0) = i * (c1 - c0) + (c1 - c0) := Nat.succ_mul _ _
    have hi2 : (i + 1) * (c1 - c0) ≤ 200 * 200 := Nat.mul_le_mul (by omega) (by omega)
    refine ⟨tabl ((i + 1) * (c1 - c0)) f, rfl, ?_⟩
    show ref04_Part.L1 N m (r0 : Int) (r1 : Int) (c0 : Int) (c1 : Int) (q + 1) _ ((r0 + i : Nat) : Int) = _
    rw [ref04_Part.L1, if_pos (by omega)]
    obtain ⟨m2, s2, hs2, e2⟩ := loop_to (fun t (s : List Int) j => ref04_Part.L2 m (c1 : Int) ((r0 + i : Nat) : Int) (ref04_Part.L1 N m (r0 : Int) (r1 : Int) (c0 : Int) (c1 : Int) q) t s j) (fun j => ((c0 + j : Nat) : Int)) (c1 - c0) (fun j s => s = tabl (i * (c1 - c0) + j) f) (fun t j s hj hs => by
      subst hs
      obtain ⟨e1, e2⟩ := divmod_at i (c1 - c0) j hj
      refine ⟨tabl (i * (c1 - c0) + (j + 1)) f, rfl, ?_⟩
      show ref04_Part.L2 m (c1 : Int) ((r0 + i : Nat) : Int) _ (t + 1) _ ((c0 + j : Nat) : Int) = _
      have ew : IntKind.i64.wrap (IntKind.i64.wrap (((r0 + i : Nat) : Int) * m.Cols) + ((c0 + j : Nat) : Int)) = (((r0 + i) * cols + (c0 + j) : Nat) : Int) := by
        rw [h.2.1, mulN _ _ (by omega), W_in (by omega)]; omega
      rw [ref04_Part.L2, if_pos (by omega), ew, idx_d m.V 0 (by rw [h.2.2]; omega), Option.bind_some, app_ok _ _ (by rw [tabl_len]; simp only [List.length_cons, List.length_nil]; omega), Option.bind_some, W_succ _ (by omega), ← Nat.add_assoc (i * (c1 - c0)) j 1, tabl_succ]
      have ef : f (i * (c1 - c0) + j) = m.V.getD ((r0 + i) * cols + (c0 + j)) 0 := by
        show m.V.getD ((r0 + (i * (c1 - c0) + j) / (c1 - c0)) * cols + (c0 + (i * (c1 - c0) + j) % (c1 - c0))) 0 = _
        rw [e1, e2]
      rw [ef]
      rfl) N (tabl (i * (c1 - c0)) f) (by omega) rfl
    refine Eq.trans e2 ?_
    show ref04_Part.L2 m (c1 : Int) ((r0 + i : Nat) : Int) _ (m2 + 1) s2 ((c0 + (c1 - c0) : Nat) : Int) = _
    rw [ref04_Part.L2, if_neg (by omega), W_succ _ (by omega), hs2, ← hi1]
    rfl) N [] (by omega) (by rw [Nat.zero_mul]; rfl)
  rw [show ((r0 : Nat) : Int) = ((r0 + 0 : Nat) : Int) by omega]
  refine Eq.trans e ?_
  show ref04_Part.L1 N m (r0 : Int) (r1 : Int) (c0 : Int) (c1 : Int) (m' + 1) s' ((r0 + (r1 - r0) : Nat) : Int) = _
  rw [ref04_Part.L1, if_neg (by omega), hs, W_in (by omega), W_in (by omega)]
  unfold partM
  congr 2
  · omega
  · omega
section
variable {d : Dim} (hd : DOK d)
include hd
theorem cut_is {N : Nat} (hN : 200 < N) (a b : Int) : ∃ c : Cu, COK d c ∧ ref10_Cut N (shapeS d) a b = some (cutS c) := by
  have hh := hd.h; have hly := hd.ly; have hi := hd.inn
  have key : ∀ (q m i : Nat) (l : List Int), i + q = d.h + 1 → q < m → 0 < i → (∀ v ∈ l, ∃ n : Nat, v = (n : Int) ∧ 0 < n ∧ n ≤ d.h ∧ d.h % n = 0 ∧ d.inn % n = 0) → l.length < i → (1 < i → l ≠ []) → ∃ c, COK d c ∧ ref10_Cut.L1 (shapeS d) a b m l (i : Int) = some (cutS c) := by
    intro q
    induction q with
    | zero =>
      intro m i l hi hm h0 hl hll hne
      obtain ⟨m, rfl⟩ : ∃ q, m = q + 1 := ⟨m - 1, by omega⟩
      have hpos : 0 < l.length := List.length_pos_iff.2 (hne (by omega))
      obtain ⟨k, hk, ek⟩ := W_restN b l.length hpos (by omega)
      obtain ⟨j, hj, ej⟩ := W_restN a d.ly (by omega) (by omega)
      obtain ⟨n, en, n0, n1, n2, n3⟩ := hl _ (List.getElem_mem hk)
      refine ⟨⟨j + 1, n⟩, ⟨⟨by dsimp only; omega, by dsimp only; omega⟩, ⟨n0, n1⟩, n2, n3⟩, ?_⟩
      rw [ref10_Cut.L1]
      show (if (i : Int) ≤ (d.h : Int) then _ else chk ((d.ly : Int) ≠ 0) (chk ((d.ly : Int) ≠ 0) (chk (((l.length : Nat) : Int) ≠ 0) (chk (((l.length : Nat) : Int) ≠ 0) ((idx l (Int.tmod (IntKind.i64.wrap ((Int.tmod b ((l.length : Nat) : Int)) + ((l.length : Nat) : Int))) ((l.length : Nat) : Int))).bind fun y20 => some (⟨(IntKind.i64.wrap (1 + (Int.tmod (IntKind.i64.wrap ((Int.tmod a (d.ly : Int)) + (d.ly : Int))) (d.ly : Int)))), y20⟩ : S_api_Cut)))))) = _
      rw [if_neg (by omega), chk_ok _ (by omega), chk_ok _ (by omega), chk_ok _ (by omega), chk_ok _ (by omega), ek, ej, idx_get l k hk, Option.bind_some, W_in (by omega), en]
      unfold cutS
      congr 2
      show 1 + (j : Int) = ((j + 1 : Nat) : Int)
      omega
    | succ q ih =>
      intro m i l hi hm h0 hl hll hne
      obtain ⟨m, rfl⟩ : ∃ q, m = q + 1 := ⟨m - 1, by omega⟩
      have j3 : ∀ z : Bool, (z = true → d.h % i = 0 ∧ d.inn % i = 0) → (i = 1 → z = true) → ∃ c, COK d c ∧ ref10_Cut.J3 l (i : Int) (ref10_Cut.L1 (shapeS d) a b m) z = some (cutS c) := by
        intro z hz h1
        unfold ref10_Cut.J3 ref10_Cut.J2
        cases z with
        | true =>
          obtain ⟨z1, z2⟩ := hz rfl
          rw [if_pos rfl, app_ok _ _ (by simp only [List.length_cons, List.length_nil]; omega), Option.bind_some, W_succ i (by omega)]
          refine ih m (i + 1) _ (by omega) (by omega) (by omega) (fun v hv => ?_) (by simp; omega) (fun _ => by simp)
          rcases List.mem_append.1 hv with h | h
          · exact hl v h
          · rw [List.mem_singleton] at h
            exact ⟨i, h, by omega, by omega, z1, z2⟩
        | false =>
          rw [if_neg (by decide), W_succ i (by omega)]
          refine ih m (i + 1) l (by omega) (by omega) (by omega) hl (by omega) (fun h => hne (by
            rcases Nat.lt_or_ge 1 i with h2 | h2
            · exact h2
            · have : i = 1 := by omega
              have := h1 this
              cases this))
      rw [ref10_Cut.L1]
      show ∃ c, COK d c ∧ (if (i : Int) ≤ (d.h : Int) then chk ((i : Int) ≠ 0) (if Int.tmod (d.h : Int) (i : Int) = 0 then chk ((i : Int) ≠ 0) (ref10_Cut.J3 l (i : Int) (ref10_Cut.L1 (shapeS d) a b m) (decide (Int.tmod (d.inn : Int) (i : Int) = 0))) else ref10_Cut.J3 l (i : Int) (ref10_Cut.L1 (shapeS d) a b m) false) else _) = some (cutS c)
      rw [if_pos (by omega), chk_ok _ (by omega), tmodN, tmodN]
      by_cases c1 : ((d.h % i : Nat) : Int) = 0
      · rw [if_pos c1, chk_ok _ (by omega)]
        refine j3 _ (fun e => ⟨by omega, by have := of_decide_eq_true e; omega⟩) (fun e => ?_)
        subst e
        rw [Nat.mod_one]; rfl
      · rw [if_neg c1]
        refine j3 false (fun e => by cases e) (fun e => ?_)
        subst e
        rw [Nat.mod_one] at c1
        exact absurd rfl c1
  exact key d.h N 1 [] (by omega) (by omega) (by omega) (by simp) (by simp) (fun h => by omega)
end
end Go.Proofs.YtbfiagimgokccaaGreat
end
section
namespace Go.Proofs.YtbfiagimgokccaaGreat
open Go Go.Hp
set_option linter.unusedVariables false
set_option linter.unusedSimpArgs false
set_option linter.unusedSectionVars false
def hb (d : Dim) (c : Cu) (p : Nat) : Nat := sp p d.h c.pa * d.wd
def nb (d : Dim) (c : Cu) (p : Nat) : Nat := sp p d.inn c.pa
def lb (d : Dim) (c : Cu) (s : Nat) : Nat := sp s d.ly c.st
def blkS (d : Dim) (c : Cu) (p : Nat) (b : S_api_Block) : S_api_Block :=
  ⟨b.First, b.Second, partM b.Q d.w (hb d c p) (hb d c (p + 1)) 0 d.w, partM b.K d.w (hb d c p) (hb d c (p + 1)) 0 d.w, partM b.V d.w (hb d c p) (hb d c (p + 1)) 0 d.w, partM b.O d.w 0 d.w (hb d c p) (hb d c (p + 1)), partM b.Up d.w (nb d c p) (nb d c (p + 1)) 0 d.w, partM b.Down d.inn 0 d.w (nb d c p) (nb d c (p + 1))⟩
def zM : S_api_Mat := ⟨0, 0, []⟩
def takeS (d : Dim) (w : S_api_Weights) (c : Cu) (s p : Nat) : S_api_Shard :=
  ⟨shapeS d, cutS c, (s : Int), (p : Int), if s = 0 then w.Embed else zM, tabl (lb d c (s + 1) - lb d c s) (fun i => blkS d c p (w.Blocks.getD (lb d c s + i) zB)), if s + 1 = c.st then w.Last else [], if s + 1 = c.st then w.Head else zM⟩
def hpa (d : Dim) (c : Cu) : Nat := d.h / c.pa
def ipa (d : Dim) (c : Cu) : Nat := d.inn / c.pa
section
variable {d : Dim} (hd : DOK d) {c : Cu} (hc : COK d c)
include hd hc
theorem hb_is (p : Nat) : hb d c p = p * (hpa d c * d.wd) := by
  unfold hb hpa; rw [sp_even p d.h c.pa hc.pa.1 hc.h, Nat.mul_assoc]
theorem nb_is (p : Nat) : nb d c p = p * ipa d c := sp_even p d.inn c.pa hc.pa.1 hc.inn
theorem hpa_pos : 0 < hpa d c ∧ c.pa * hpa d c = d.h := by
  have := Nat.mul_div_cancel' (Nat.dvd_of_mod_eq_zero hc.h)
  have h0 := hd.h.1
  refine ⟨?_, this⟩
  rcases Nat.eq_zero_or_pos (hpa d c) with h | h
  · unfold hpa at h; rw [h] at this; omega
  · exact h
theorem ipa_pos : 0 < ipa d c ∧ c.pa * ipa d c = d.inn := by
  have := Nat.mul_div_cancel' (Nat.dvd_of_mod_eq_zero hc.inn)
  have h0 := hd.inn.1
  refine ⟨?_, this⟩
  rcases Nat.eq_zero_or_pos (ipa d c) with h | h
  · unfold ipa at h; rw [h] at this; omega
  · exact h
theorem hb_fit (p : Nat) (hp : p < c.pa) : hb d c p < hb d c (p + 1) ∧ hb d c (p + 1) ≤ d.w ∧ hb d c (p + 1) - hb d c p = hpa d c * d.wd := by
  obtain ⟨h0, h1⟩ := hpa_pos hd hc
  have hwd := hd.wd
  have hpos : 0 < hpa d c * d.wd := Nat.mul_pos h0 hwd.1
  have h2 : (p + 1) * (hpa d c * d.wd) = p * (hpa d c * d.wd) + hpa d c * d.wd := Nat.succ_mul _ _
  have h3 : (p + 1) * (hpa d c * d.wd) ≤ c.pa * (hpa d c * d.wd) := Nat.mul_le_mul_right _ (by omega)
  have h4 : c.pa * (hpa d c * d.wd) = d.w := by rw [← Nat.mul_assoc, h1]; rfl
  rw [hb_is hd hc, hb_is hd hc]
  omega
theorem nb_fit (p : Nat) (hp : p < c.pa) : nb d c p < nb d c (p + 1) ∧ nb d c (p + 1) ≤ d.inn ∧ nb d c (p + 1) - nb d c p = ipa d c := by
  obtain ⟨h0, h1⟩ := ipa_pos hd hc
  have h2 : (p + 1) * ipa d c = p * ipa d c + ipa d c := Nat.succ_mul _ _
  have h3 : (p + 1) * ipa d c ≤ c.pa * ipa d c := Nat.mul_le_mul_right _ (by omega)
  rw [nb_is hd hc, nb_is hd hc]
  omega
theorem lb_fit (s : Nat) (hs : s < c.st) : lb d c s ≤ lb d c (s + 1) ∧ lb d c (s + 1) ≤ d.ly := ⟨sp_le _ _ _, sp_in _ _ _ hc.st.1 (by omega)⟩
structure BP (d : Dim) (c : Cu) (b : S_api_Block) : Prop where
  first : b.First.length = d.w
  second : b.Second.length = d.w
  q : matR b.Q (hpa d c * d.wd) d.w
  k : matR b.K (hpa d c * d.wd) d.w
  v : matR b.V (hpa d c * d.wd) d.w
  o : matR b.O d.w (hpa d c * d.wd)
  up : matR b.Up (ipa d c) d.w
  down : matR b.Down d.w (ipa d c)
theorem blkS_ok (p : Nat) (hp : p < c.pa) {b : S_api_Block} (hb_ : BOK d b) : BP d c (blkS d c p b) := by
  obtain ⟨a1, a2, a3⟩ := hb_fit hd hc p hp
  obtain ⟨b1, b2, b3⟩ := nb_fit hd hc p hp
  have e0 : d.w - 0 = d.w := by omega
  refine ⟨hb_.first, hb_.second, ?_, ?_, ?_, ?_, ?_, ?_⟩
  · have := partM_R b.Q d.w (hb d c p) (hb d c (p + 1)) 0 d.w; rw [a3, e0] at this; exact this
  · have := partM_R b.K d.w (hb d c p) (hb d c (p + 1)) 0 d.w; rw [a3, e0] at this; exact this
  · have := partM_R b.V d.w (hb d c p) (hb d c (p + 1)) 0 d.w; rw [a3, e0] at this; exact this
  · have := partM_R b.O d.w 0 d.w (hb d c p) (hb d c (p + 1)); rw [a3, e0] at this; exact this
  · have := partM_R b.Up d.w (nb d c p) (nb d c (p + 1)) 0 d.w; rw [b3, e0] at this; exact this
  · have := partM_R b.Down d.inn 0 d.w (nb d c p) (nb d c (p + 1)); rw [b3, e0] at this; exact this
theorem take13_is {N : Nat} (hN : 300 < N) {w : S_api_Weights} (hw : WOK d w) (hsh : w.Shape = shapeS d) (s p : Nat) (hs : s < c.st) (hp : p < c.pa) : ref11_Take N w (cutS c) (s : Int) (p : Int) = some (takeS d w c s p) := by
  have hh := hd.h; have hly := hd.ly; have hi := hd.inn; have hww := dw16 hd; have hwd := hd.wd
  have hst := hc.st; have hpa := hc.pa
  have hdw : d.w = d.h * d.wd := rfl
  have hw0 : 0 < d.w := by rw [hdw]; exact Nat.mul_pos hh.1 hwd.1
  obtain ⟨a1, a2, a3⟩ := hb_fit hd hc p hp
  obtain ⟨b1, b2, b3⟩ := nb_fit hd hc p hp
  obtain ⟨l1, l2⟩ := lb_fit hd hc s hs
  have s1 := sp_in p d.h c.pa hpa.1 (by omega)
  have s2 := sp_in (p + 1) d.h c.pa hpa.1 (by omega)
  have m1 : sp p d.h c.pa * d.wd ≤ d.h * d.wd := Nat.mul_le_mul_right _ s1
  have m2 : sp (p + 1) d.h c.pa * d.wd ≤ d.h * d.wd := Nat.mul_le_mul_right _ s2
  have ewd : IntKind.i64.wrap (Int.tdiv w.Shape.Width w.Shape.Heads) = (d.wd : Int) := by
    rw [hw.width, hw.heads, hdw]
    have : ((d.h * d.wd : Nat) : Int) = (d.h : Int) * (d.wd : Int) := by simp
    rw [this, Int.mul_tdiv_cancel_left _ (by omega), W_in (by omega)]
  have e1 : ref10_Span (s : Int) w.Shape.Layers (cutS c).Stages = some ⟨((lb d c s : Nat) : Int), ((lb d c (s + 1) : Nat) : Int)⟩ := by rw [hw.layers]; exact span_is s d.ly c.st hst.1 (by omega) (by omega)
  have e2 : ref10_Span (p : Int) w.Shape.Heads (cutS c).Parts = some ⟨((sp p d.h c.pa : Nat) : Int), ((sp (p + 1) d.h c.pa : Nat) : Int)⟩ := by rw [hw.heads]; exact span_is p d.h c.pa hpa.1 (by omega) (by omega)
  have e3 : ref10_Span (p : Int) w.Shape.Inner (cutS c).Parts = some ⟨((nb d c p : Nat) : Int), ((nb d c (p + 1) : Nat) : Int)⟩ := by rw [hw.inner]; exact span_is p d.inn c.pa hpa.1 (by omega) (by omega)
  have loop : ∀ (er ec : Int) (ev : List Int), ref11_Take.J1 N w (cutS c) (s : Int) (p : Int) (d.wd : Int) ⟨((lb d c s : Nat) : Int), ((lb d c (s + 1) : Nat) : Int)⟩ ⟨((sp p d.h c.pa : Nat) : Int), ((sp (p + 1) d.h c.pa : Nat) : Int)⟩ ⟨((nb d c p : Nat) : Int), ((nb d c (p + 1) : Nat) : Int)⟩ er ec ev =
      some ⟨shapeS d, cutS c, (s : Int), (p : Int), ⟨er, ec, ev⟩, tabl (lb d c (s + 1) - lb d c s) (fun i => blkS d c p (w.Blocks.getD (lb d c s + i) zB)), if s + 1 = c.st then w.Last else [], if s + 1 = c.st then w.Head else zM⟩ := by
    intro er ec ev
    unfold ref11_Take.J1
    obtain ⟨m', s', hs', e⟩ := loop_to (fun m (z : List S_api_Block) i => ref11_Take.L2 N w (cutS c) (s : Int) (p : Int) (d.wd : Int) ⟨((lb d c s : Nat) : Int), ((lb d c (s + 1) : Nat) : Int)⟩ ⟨((sp p d.h c.pa : Nat) : Int), ((sp (p + 1) d.h c.pa : Nat) : Int)⟩ ⟨((nb d c p : Nat) : Int), ((nb d c (p + 1) : Nat) : Int)⟩ er ec ev m z i) (fun i => ((lb d c s + i : Nat) : Int)) (lb d c (s + 1) - lb d c s) (fun i z => z = tabl i fun i => blkS d c p (w.Blocks.getD (lb d c s + i) zB)) (fun m i z hi hz => by
      subst hz
      refine ⟨_, rfl, ?_⟩
      have hb_ : BOK d (w.Blocks.getD (lb d c s + i) zB) := hw.blocks _ (getD_in _ _ _ (by have := hw.blen; omega))
      have w0 : IntKind.i64.wrap (((sp p d.h c.pa : Nat) : Int) * (d.wd : Int)) = ((hb d c p : Nat) : Int) := mulN _ _ (by omega)
      have w1 : IntKind.i64.wrap (((sp (p + 1) d.h c.pa : Nat) : Int) * (d.wd : Int)) = ((hb d c (p + 1) : Nat) : Int) := mulN _ _ (by omega)
      have z0 : (0 : Int) = ((0 : Nat) : Int) := rfl
      have hW : w.Shape.Width = ((d.w : Nat) : Int) := hw.width
      have p1 := partOf_is hN hb_.q (by omega) (by omega) (hb d c p) (hb d c (p + 1)) 0 d.w (by omega) a2 (by omega) (Nat.le_refl _) hw0
      have p2 := partOf_is hN hb_.k (by omega) (by omega) (hb d c p) (hb d c (p + 1)) 0 d.w (by omega) a2 (by omega) (Nat.le_refl _) hw0
      have p3 := partOf_is hN hb_.v (by omega) (by omega) (hb d c p) (hb d c (p + 1)) 0 d.w (by omega) a2 (by omega) (Nat.le_refl _) hw0
      have p4 := partOf_is hN hb_.o (by omega) (by omega) 0 d.w (hb d c p) (hb d c (p + 1)) (by omega) (Nat.le_refl _) (by omega) a2 a1
      have p5 := partOf_is hN hb_.up (by omega) (by omega) (nb d c p) (nb d c (p + 1)) 0 d.w (by omega) b2 (by omega) (Nat.le_refl _) hw0
      have p6 := partOf_is hN hb_.down (by omega) (by omega) 0 d.w (nb d c p) (nb d c (p + 1)) (by omega) (Nat.le_refl _) (by omega) b2 b1
      show ref11_Take.L2 N w (cutS c) (s : Int) (p : Int) (d.wd : Int) _ _ _ er ec ev (m + 1) _ ((lb d c s + i : Nat) : Int) = _
      rw [ref11_Take.L2]
      dsimp only
      rw [if_pos (by omega), idx_d _ zB (by have := hw.blen; omega), Option.bind_some, w0, w1, hW, matR_eta, matR_eta, matR_eta, matR_eta, matR_eta, matR_eta]
      show (ref04_Part N _ _ _ ((0 : Nat) : Int) _).bind _ = _
      rw [p1, Option.bind_some]
      show (ref04_Part N _ _ _ ((0 : Nat) : Int) _).bind _ = _
      rw [p2, Option.bind_some]
      show (ref04_Part N _ _ _ ((0 : Nat) : Int) _).bind _ = _
      rw [p3, Option.bind_some]
      show (ref04_Part N _ ((0 : Nat) : Int) _ _ _).bind _ = _
      rw [p4, Option.bind_some]
      show (ref04_Part N _ _ _ ((0 : Nat) : Int) _).bind _ = _
      rw [p5, Option.bind_some]
      show (ref04_Part N _ ((0 : Nat) : Int) _ _ _).bind _ = _
      rw [p6, Option.bind_some, app_ok _ _ (by rw [tabl_len]; simp only [List.length_cons, List.length_nil]; omega), Option.bind_some, W_succ _ (by omega), ← Nat.add_assoc, tabl_succ]
      rfl) N [] (by omega) rfl
    show ref11_Take.L2 N w (cutS c) (s : Int) (p : Int) (d.wd : Int) _ _ _ er ec ev N [] ((lb d c s + 0 : Nat) : Int) = _
    refine Eq.trans e ?_
    show ref11_Take.L2 N w (cutS c) (s : Int) (p : Int) (d.wd : Int) _ _ _ er ec ev (m' + 1) s' ((lb d c s + (lb d c (s + 1) - lb d c s) : Nat) : Int) = _
    rw [ref11_Take.L2]
    dsimp only
    rw [if_neg (by omega), hs']
    show (if (s : Int) = IntKind.i64.wrap ((c.st : Int) - 1) then some _ else some _) = _
    rw [W_in (by omega), hsh]
    by_cases q : s + 1 = c.st
    · rw [if_pos (by omega), if_pos q, if_pos q]
    · rw [if_neg (by omega), if_neg q, if_neg q]; rfl
  unfold ref11_Take
  rw [chk_ok _ (by rw [hw.heads]; omega), ewd, Option.bind_some, e1, Option.bind_some, e2, Option.bind_some, e3, Option.bind_some]
  unfold takeS
  by_cases q : s = 0
  · rw [if_pos (by omega), loop, if_pos q]
  · rw [if_neg (by omega), loop, if_neg q]; rfl
end
end Go.Proofs.YtbfiagimgokccaaGreat
end
section
namespace Go.Proofs.YtbfiagimgokccaaGreat
open Go Go.Hp
set_option linter.unusedVariables false
set_option linter.unusedSimpArgs false
set_option linter.unusedSectionVars false
theorem win13_is (x a b : Int) (h : a ≤ x ∧ x ≤ b) : weight_in x a b = some true := by
  unfold weight_in
  rw [if_pos (by omega), decide_eq_true h.2]
theorem pis_is {N : Nat} (hN : 5 < N) {m : S_api_Mat} {r c : Nat} (h : matR m r c) (hr : r ≤ 200) (hc : c ≤ 200) : part_is N m (r : Int) (c : Int) = some true := by
  obtain ⟨k, rfl⟩ : ∃ k, N = k + 3 := ⟨N - 3, by omega⟩
  unfold part_is
  rw [if_pos h.1, if_pos h.2.1]
  try rw [matR_eta]
  unfold matmul_Right slices_ContainsFunc_s_api_Mat_api_Mat slices_IndexFunc_s_api_Mat_api_Mat
  rw [slices_IndexFunc_s_api_Mat_api_Mat.L1, if_pos (by simp), show idx [m] 0 = some m from rfl, Option.bind_some, matP h hr hc, Option.bind_some, if_neg (by decide), show IntKind.i64.wrap (0 + 1) = 1 from rfl, slices_IndexFunc_s_api_Mat_api_Mat.L1, if_neg (by simp)]
  rfl
theorem zM_R : matR zM 0 0 := ⟨rfl, rfl, rfl⟩
theorem ints13_same {N : Nat} (xs : List Int) (hx : xs.length < N) (h2 : xs.length ≤ 100000) : ref04_Ints N xs xs = some true := by
  unfold ref04_Ints
  rw [if_neg (fun q => q rfl)]
  refine loop_c (fun m (_ : Unit) i => ref04_Ints.L1 xs xs m i) (fun _ => ()) xs.length _ (fun m i hi => ?_) (fun m => ?_) N hx
  · show ref04_Ints.L1 xs xs (m + 1) (i : Int) = _
    rw [ref04_Ints.L1, if_pos (by omega), idx_get _ _ hi, Option.bind_some, Option.bind_some, if_neg (fun q => q rfl), W_succ i (by omega)]
  · show ref04_Ints.L1 xs xs (m + 1) (xs.length : Int) = _
    rw [ref04_Ints.L1, if_neg (by omega)]
section
variable {d : Dim} (hd : DOK d)
include hd
theorem ewd13 : IntKind.i64.wrap (Int.tdiv ((d.w : Nat) : Int) (d.h : Int)) = (d.wd : Int) := by
  have hh := hd.h; have hwd := hd.wd
  rw [show ((d.w : Nat) : Int) = (d.h : Int) * (d.wd : Int) by show ((d.h * d.wd : Nat) : Int) = _; simp, Int.mul_tdiv_cancel_left _ (by omega), W_in (by omega)]
theorem wR_is (hp : 0 < d.pl) : weight_Right (shapeS d) = some true := by
  have hww := dw16 hd; have hi := hd.inn; have hh := hd.h; have hwd := hd.wd; have hly := hd.ly; have hvo := hd.voc; have hpl := hd.pl
  have hdw : d.w = d.h * d.wd := rfl
  have hw2 : 2 ≤ d.w := by
    have : 1 * 2 ≤ d.h * d.wd := Nat.mul_le_mul (by omega) (by omega)
    omega
  have hm : Int.tmod ((d.w : Nat) : Int) (IntKind.i64.wrap (2 * (d.h : Int))) = 0 := by
    rw [W_in (by omega), Int.tmod_eq_emod_of_nonneg (by omega)]
    obtain ⟨e, he⟩ : ∃ e, d.wd = 2 * e := ⟨d.wd / 2, by omega⟩
    have : ((d.w : Nat) : Int) = 2 * (d.h : Int) * (e : Int) := by
      rw [hdw, he]
      have : d.h * (2 * e) = 2 * d.h * e := by rw [Nat.mul_left_comm, Nat.mul_assoc]
      rw [this]; simp
    rw [this, Int.mul_emod_right]
  unfold weight_Right shapeS
  dsimp only
  rw [win13_is _ _ _ ⟨by omega, by omega⟩, Option.bind_some, if_pos rfl, win13_is _ _ _ ⟨by omega, by omega⟩, Option.bind_some, if_pos rfl, win13_is _ _ _ ⟨by omega, by omega⟩, Option.bind_some, if_pos rfl]
  rw [chk_ok _ (by rw [W_in (by omega)]; omega), if_pos hm, win13_is _ _ _ ⟨by omega, by omega⟩, Option.bind_some, if_pos rfl, win13_is _ _ _ ⟨by omega, by omega⟩, Option.bind_some, if_pos rfl, win13_is _ _ _ ⟨by omega, by omega⟩, Option.bind_some]
variable (hp0 : 0 < d.pl) {c : Cu} (hc : COK d c)
include hp0 hc
theorem sR_is : slice_Right (shapeS d) (cutS c) = some true := by
  have hh := hd.h; have hly := hd.ly; have hst := hc.st; have hpa := hc.pa
  have hm : c.st * c.pa ≤ 3 * 4 := Nat.mul_le_mul (by omega) (by omega)
  have hf : slice_fits (cutS c) = some true := by
    unfold slice_fits cutS
    dsimp only
    rw [if_pos (by omega), if_pos (by omega), if_pos (by omega), decide_eq_true (by omega)]
  unfold slice_Right
  show (weight_Right (shapeS d)).bind _ = _
  rw [wR_is hd hp0, Option.bind_some, if_pos rfl]
  show (slice_fits (cutS c)).bind _ = _
  rw [hf, Option.bind_some, if_pos rfl]
  show (if (c.st : Int) ≤ (d.ly : Int) then chk ((c.pa : Int) ≠ 0) (if Int.tmod (d.h : Int) (c.pa : Int) = 0 then chk ((c.pa : Int) ≠ 0) (if Int.tmod (d.inn : Int) (c.pa : Int) = 0 then some (decide ((IntKind.i64.wrap ((c.st : Int) * (c.pa : Int))) ≤ 64)) else some false) else some false) else some false) = _
  rw [if_pos (by omega), chk_ok _ (by omega), tmodN, hc.h, if_pos (show ((0 : Nat) : Int) = 0 from rfl), chk_ok _ (by omega), tmodN, hc.inn, if_pos (show ((0 : Nat) : Int) = 0 from rfl), mulN _ _ (by omega), decide_eq_true (by omega)]
theorem slayers_is (s : Nat) (hs : s < c.st) : slice_Layers (shapeS d) (cutS c) (s : Int) = some (⟨((lb d c s : Nat) : Int), ((lb d c (s + 1) : Nat) : Int)⟩, 0) := by
  have hly := hd.ly; have hst := hc.st
  unfold slice_Layers
  show (slice_Right (shapeS d) (cutS c)).bind _ = _
  rw [sR_is hd hp0 hc, Option.bind_some]
  show (slice_span true (s : Int) (d.ly : Int) (c.st : Int)).bind _ = _
  rw [pspan_is s d.ly c.st hs (by omega) (by omega), Option.bind_some]
  rfl
theorem sheads_is (p : Nat) (hp : p < c.pa) : slice_Heads (shapeS d) (cutS c) (p : Int) = some (⟨((sp p d.h c.pa : Nat) : Int), ((sp (p + 1) d.h c.pa : Nat) : Int)⟩, 0) := by
  have hh := hd.h; have hpa := hc.pa
  unfold slice_Heads
  show (slice_Right (shapeS d) (cutS c)).bind _ = _
  rw [sR_is hd hp0 hc, Option.bind_some]
  show (slice_span true (p : Int) (d.h : Int) (c.pa : Int)).bind _ = _
  rw [pspan_is p d.h c.pa hp (by omega) (by omega), Option.bind_some]
theorem sinner_is (p : Nat) (hp : p < c.pa) : slice_Inner (shapeS d) (cutS c) (p : Int) = some (⟨((nb d c p : Nat) : Int), ((nb d c (p + 1) : Nat) : Int)⟩, 0) := by
  have hi := hd.inn; have hh := hd.h; have hpa := hc.pa
  unfold slice_Inner
  show (slice_Right (shapeS d) (cutS c)).bind _ = _
  rw [sR_is hd hp0 hc, Option.bind_some]
  show (slice_span true (p : Int) (d.inn : Int) (c.pa : Int)).bind _ = _
  rw [pspan_is p d.inn c.pa hp (by omega) (by omega), Option.bind_some]
  rfl
theorem hbW (p : Nat) (hp : p ≤ c.pa) : IntKind.i64.wrap (((sp p d.h c.pa : Nat) : Int) * (d.wd : Int)) = ((hb d c p : Nat) : Int) := by
  have hh := hd.h; have hwd := hd.wd; have hpa := hc.pa
  have s1 := sp_in p d.h c.pa hpa.1 hp
  have m1 : sp p d.h c.pa * d.wd ≤ 4 * 16 := Nat.mul_le_mul (by omega) (by omega)
  exact mulN _ _ (by omega)
def spanS (d : Dim) (c : Cu) (s p : Nat) : S_part_spans := ⟨⟨((lb d c s : Nat) : Int), ((lb d c (s + 1) : Nat) : Int)⟩, ⟨((hb d c p : Nat) : Int), ((hb d c (p + 1) : Nat) : Int)⟩, ⟨((nb d c p : Nat) : Int), ((nb d c (p + 1) : Nat) : Int)⟩⟩
theorem partof_is (s p : Nat) (hs : s < c.st) (hp : p < c.pa) : part_of (shapeS d) (cutS c) (s : Int) (p : Int) = some (spanS d c s p, 0) := by
  have hh := hd.h
  unfold part_of
  show (slice_Layers (shapeS d) (cutS c) (s : Int)).bind _ = _
  rw [slayers_is hd hp0 hc s hs, Option.bind_some, if_neg (fun q => q rfl)]
  show (slice_Heads (shapeS d) (cutS c) (p : Int)).bind _ = _
  rw [sheads_is hd hp0 hc p hp, Option.bind_some, if_neg (fun q => q rfl)]
  show (slice_Inner (shapeS d) (cutS c) (p : Int)).bind _ = _
  rw [sinner_is hd hp0 hc p hp, Option.bind_some]
  show chk ((d.h : Int) ≠ 0) ((some (IntKind.i64.wrap (Int.tdiv ((d.w : Nat) : Int) (d.h : Int)))).bind _) = _
  rw [chk_ok _ (by omega), ewd13 hd, Option.bind_some]
  show some ((⟨_, (⟨IntKind.i64.wrap (((sp p d.h c.pa : Nat) : Int) * (d.wd : Int)), IntKind.i64.wrap (((sp (p + 1) d.h c.pa : Nat) : Int) * (d.wd : Int))⟩ : A2_i64), _⟩ : S_part_spans), _) = _
  rw [hbW hd hp0 hc p (by omega), hbW hd hp0 hc (p + 1) (by omega)]
  rfl
variable {w : S_api_Weights} (hw : WOK d w)
include hw
theorem ends_is {N : Nat} (hN : 10 < N) (s p : Nat) (hs : s < c.st) : part_ends N (takeS d w c s p) = some true := by
  have hww := dw16 hd; have hvo := hd.voc; have hst := hc.st
  have hly := hd.ly
  have e1 := pis_is (N := N) (by omega) hw.embed (by omega) (by omega)
  have e2 := pis_is (N := N) (by omega) hw.head (by omega) (by omega)
  have e0 := pis_is (N := N) (by omega) zM_R (by omega) (by omega)
  have key : ∀ (a b : Int) (m : S_api_Mat), part_is N m b a = some true → m = (takeS d w c s p).Embed → part_ends.J1 N (takeS d w c s p) a b = some true := by
    intro a b m hm em
    unfold part_ends.J1
    show (if (s : Int) = IntKind.i64.wrap ((c.st : Int) - 1) then _ else _) = _
    rw [W_in (by omega)]
    by_cases q : s + 1 = c.st
    · rw [if_pos (by omega)]
      unfold part_ends.J2
      try rw [matR_eta]
      rw [← em, hm, Option.bind_some, if_pos rfl]
      try rw [matR_eta]
      unfold takeS
      dsimp only
      rw [if_pos q, if_pos q]
      show (part_is N w.Head (d.voc : Int) ((d.w : Nat) : Int)).bind _ = _
      rw [e2, Option.bind_some, if_pos rfl, hw.last]
      exact congrArg some (decide_eq_true rfl)
    · rw [if_neg (by omega)]
      unfold part_ends.J2
      try rw [matR_eta]
      rw [← em, hm, Option.bind_some, if_pos rfl]
      try rw [matR_eta]
      unfold takeS
      dsimp only
      rw [if_neg q, if_neg q]
      show (part_is N zM ((0 : Nat) : Int) ((0 : Nat) : Int)).bind _ = _
      rw [e0, Option.bind_some, if_pos rfl]
      rfl
  unfold part_ends
  show (if (s : Int) = 0 then _ else _) = _
  by_cases q : s = 0
  · rw [if_pos (by omega)]
    exact key _ _ w.Embed e1 (by unfold takeS; rw [if_pos q])
  · rw [if_neg (by omega)]
    exact key _ _ zM e0 (by unfold takeS; rw [if_neg q])
theorem wrong_is {N : Nat} (hN : 10 < N) (s p : Nat) (hs : s < c.st) (hp : p < c.pa) : part_wrong N (takeS d w c s p) = some false := by
  have hww := dw16 hd; have hvo := hd.voc; have hst := hc.st; have hly := hd.ly; have hi := hd.inn; have hh := hd.h
  obtain ⟨a1, a2, a3⟩ := hb_fit hd hc p hp
  obtain ⟨b1, b2, b3⟩ := nb_fit hd hc p hp
  obtain ⟨l1, l2⟩ := lb_fit hd hc s hs
  have e1 : IntKind.i64.wrap (((hb d c (p + 1) : Nat) : Int) - ((hb d c p : Nat) : Int)) = ((hpa d c * d.wd : Nat) : Int) := by rw [W_in (by omega), ← a3]; omega
  have e2 : IntKind.i64.wrap (((nb d c (p + 1) : Nat) : Int) - ((nb d c p : Nat) : Int)) = ((ipa d c : Nat) : Int) := by rw [W_in (by omega), ← b3]; omega
  have e3 : IntKind.i64.wrap (((lb d c (s + 1) : Nat) : Int) - ((lb d c s : Nat) : Int)) = ((lb d c (s + 1) - lb d c s : Nat) : Int) := by rw [W_in (by omega)]; omega
  unfold part_wrong
  show (part_of (shapeS d) (cutS c) (s : Int) (p : Int)).bind _ = _
  rw [partof_is hd hp0 hc s p hs hp, Option.bind_some, if_neg (fun q => q rfl)]
  show (part_ends N (takeS d w c s p)).bind _ = _
  rw [ends_is hd hp0 hc hw hN s p hs, Option.bind_some, if_pos rfl]
  show (if (((takeS d w c s p).Blocks.length : Nat) : Int) ≠ IntKind.i64.wrap (((lb d c (s + 1) : Nat) : Int) - ((lb d c s : Nat) : Int)) then _ else _) = _
  rw [e3]
  have hbl : (takeS d w c s p).Blocks.length = lb d c (s + 1) - lb d c s := tabl_len _ _
  rw [if_neg (by rw [hbl]; exact fun q => q rfl)]
  unfold part_wrong.J1
  refine loop_c (fun m (_ : Unit) i => part_wrong.L2 N (takeS d w c s p) (spanS d c s p, 0) m i) (fun _ => ()) (lb d c (s + 1) - lb d c s) _ (fun m i hi => ?_) (fun m => ?_) N (by omega)
  · show part_wrong.L2 N (takeS d w c s p) (spanS d c s p, 0) (m + 1) (i : Int) = part_wrong.L2 N (takeS d w c s p) (spanS d c s p, 0) m _
    have hB : BP d c (blkS d c p (w.Blocks.getD (lb d c s + i) zB)) := blkS_ok hd hc p hp (hw.blocks _ (getD_in _ _ _ (by have := hw.blen; omega)))
    have hB' : idx (takeS d w c s p).Blocks (i : Int) = some (blkS d c p (w.Blocks.getD (lb d c s + i) zB)) := idx_t _ hi
    have k1 := pis_is (N := N) (by omega) hB.q (by omega) (by omega)
    have k2 := pis_is (N := N) (by omega) hB.k (by omega) (by omega)
    have k3 := pis_is (N := N) (by omega) hB.v (by omega) (by omega)
    have k4 := pis_is (N := N) (by omega) hB.o (by omega) (by omega)
    have k5 := pis_is (N := N) (by omega) hB.up (by omega) (by omega)
    have k6 := pis_is (N := N) (by omega) hB.down (by omega) (by omega)
    generalize blkS d c p (w.Blocks.getD (lb d c s + i) zB) = y at hB hB' k1 k2 k3 k4 k5 k6
    rw [part_wrong.L2, if_pos (by rw [hbl]; omega), hB', Option.bind_some]
    show (if ((y.First.length : Nat) : Int) ≠ ((d.w : Nat) : Int) then _ else if ((y.Second.length : Nat) : Int) ≠ ((d.w : Nat) : Int) then _ else (part_is N y.Q (IntKind.i64.wrap (((hb d c (p + 1) : Nat) : Int) - ((hb d c p : Nat) : Int))) ((d.w : Nat) : Int)).bind _) = _
    rw [if_neg (by rw [hB.first]; exact fun q => q rfl), if_neg (by rw [hB.second]; exact fun q => q rfl), e1, k1, Option.bind_some, if_pos rfl]
    show (part_is N y.K (IntKind.i64.wrap (((hb d c (p + 1) : Nat) : Int) - ((hb d c p : Nat) : Int))) ((d.w : Nat) : Int)).bind _ = _
    rw [e1, k2, Option.bind_some, if_pos rfl]
    show (part_is N y.V (IntKind.i64.wrap (((hb d c (p + 1) : Nat) : Int) - ((hb d c p : Nat) : Int))) ((d.w : Nat) : Int)).bind _ = _
    rw [e1, k3, Option.bind_some, if_pos rfl]
    show (part_is N y.O ((d.w : Nat) : Int) (IntKind.i64.wrap (((hb d c (p + 1) : Nat) : Int) - ((hb d c p : Nat) : Int)))).bind _ = _
    rw [e1, k4, Option.bind_some, if_pos rfl]
    show (part_is N y.Up (IntKind.i64.wrap (((nb d c (p + 1) : Nat) : Int) - ((nb d c p : Nat) : Int))) ((d.w : Nat) : Int)).bind _ = _
    rw [e2, k5, Option.bind_some, if_pos rfl]
    show (part_is N y.Down ((d.w : Nat) : Int) (IntKind.i64.wrap (((nb d c (p + 1) : Nat) : Int) - ((nb d c p : Nat) : Int)))).bind _ = _
    rw [e2, k6, Option.bind_some, if_pos rfl, W_succ i (by omega)]
  · show part_wrong.L2 N (takeS d w c s p) (spanS d c s p, 0) (m + 1) (((lb d c (s + 1) - lb d c s : Nat) : Int)) = _
    rw [part_wrong.L2, if_neg (by rw [hbl]; omega)]
    rfl
theorem right13_is {N : Nat} (hN : 10 < N) (s p : Nat) (hs : s < c.st) (hp : p < c.pa) : part_Right N [takeS d w c s p] = some true := by
  obtain ⟨k, rfl⟩ : ∃ k, N = k + 3 := ⟨N - 3, by omega⟩
  unfold part_Right slices_ContainsFunc_s_api_Shard_api_Shard slices_IndexFunc_s_api_Shard_api_Shard
  rw [slices_IndexFunc_s_api_Shard_api_Shard.L1, if_pos (by simp), show idx [takeS d w c s p] 0 = some (takeS d w c s p) from rfl, Option.bind_some, wrong_is hd hp0 hc hw hN s p hs hp, Option.bind_some, if_neg (by decide), show IntKind.i64.wrap (0 + 1) = 1 from rfl, slices_IndexFunc_s_api_Shard_api_Shard.L1, if_neg (by simp)]
  rfl
end
end Go.Proofs.YtbfiagimgokccaaGreat
end
section
namespace Go.Proofs.YtbfiagimgokccaaGreat
open Go Go.Hp
set_option linter.unusedVariables false
set_option linter.unusedSimpArgs false
set_option linter.unusedSectionVars false
section
variable {d : Dim} (hd : DOK d) (hp0 : 0 < d.pl) {c : Cu} (hc : COK d c) {w : S_api_Weights} (hw : WOK d w)
include hd hp0 hc hw
end
end Go.Proofs.YtbfiagimgokccaaGreat
end
section
namespace Go.Proofs.YtbfiagimgokccaaGreat
open Go Go.Hp
set_option linter.unusedVariables false
set_option linter.unusedSimpArgs false
set_option linter.unusedSectionVars false
theorem rquants_is {N : Nat} {m : S_api_Mat} {r c : Nat} (h : matR m r c) (hr : r ≤ 200) (hc : c ≤ 200) (hN : 200 < N) (x : List Int) (hx : x.length = c) : ref13_quants N m x = some (quantsS m x r c) := by
  unfold ref13_quants
  try rw [show (⟨m.Rows, m.Cols, m.V⟩ : S_api_Mat) = m from rfl]
  rw [apply_is h hr hc hN x hx, Option.bind_some]
  refine loop_c (fun k (s : List Int) i => ref13_quants.L1 N (applyS m x r c, true) k s i) (fun i => tabl i fun i => IntKind.i8.wrap (scl ((applyS m x r c).getD i 0) 1 7 (-128) 127)) r _ (fun k i hi => ?_) (fun k => ?_) N (by omega)
  · show ref13_quants.L1 N _ (k + 1) _ (i : Int) = ref13_quants.L1 N _ k _ _
    have hl := applyS_len m x r c
    rw [ref13_quants.L1, if_pos (by rw [hl]; omega), idx_d _ 0 (by rw [hl]; omega), Option.bind_some, refscale_is (by omega) _ _ _ _ _ (by decide), Option.bind_some, app_ok _ _ (by rw [tabl_len]; simp only [List.length_cons, List.length_nil]; omega), Option.bind_some, W_succ i (by omega), tabl_succ]
  · show ref13_quants.L1 N _ (k + 1) _ (r : Int) = _
    have hl := applyS_len m x r c
    rw [ref13_quants.L1, if_neg (by rw [hl]; omega)]; rfl
theorem rturned_is {N : Nat} (hN : 200 < N) (place w n : Nat) (hp : place ≤ 1000) (x : List Int) (hx : x.length = n * w) (hn : n ≤ 150) (hw : 0 < w) (hw2 : w % 2 = 0) (hw3 : w ≤ 26) : ref13_turned N (place : Int) (w : Int) x = some (turnedS place w x n) := by
  unfold ref13_turned
  have hnw : ∀ i, i ≤ n → i * w ≤ n * w := fun i hi => Nat.mul_le_mul_right w hi
  have hb : n * w ≤ 150 * 26 := Nat.mul_le_mul hn hw3
  obtain ⟨m', s', hs, e⟩ := loop_to (fun m (s : List Int) i => ref13_turned.L1 N (place : Int) (w : Int) x m s i) (fun i => ((i * w : Nat) : Int)) n (fun i s => s = turnedS place w x i) (fun m i s hi hs => by
    refine ⟨_, rfl, ?_⟩
    subst hs
    have h1 := hnw (i + 1) (by omega)
    have h2 : (i + 1) * w = i * w + w := Nat.succ_mul i w
    have e1 : IntKind.i64.wrap (((i * w : Nat) : Int) + (w : Int)) = (((i + 1) * w : Nat) : Int) := by rw [W_in (by omega)]; omega
    have hpl := part_len x w i n hx hi
    show ref13_turned.L1 N _ _ x (m + 1) _ ((i * w : Nat) : Int) = ref13_turned.L1 N _ _ x m _ _
    rw [ref13_turned.L1, if_pos (by omega), e1, chk_ok _ (by omega), Int.toNat_natCast, Int.toNat_natCast]
    have ht := turn_is hN place hp (part x w i) (by omega)
    rw [show (x.take ((i + 1) * w)).drop (i * w) = part x w i from rfl, ht, Option.bind_some, app_ok _ _ (by rw [turnedS_len place w x n hx hw2 i (by omega), turnS_len]; omega), Option.bind_some]
    rfl) N [] (by omega) rfl
  subst hs
  have e0 : ((0 * w : Nat) : Int) = 0 := by simp
  rw [show ref13_turned.L1 N (place : Int) (w : Int) x N [] 0 = ref13_turned.L1 N (place : Int) (w : Int) x N [] ((0 * w : Nat) : Int) by rw [e0]]
  refine Eq.trans e ?_
  show ref13_turned.L1 N _ _ x (m' + 1) _ ((n * w : Nat) : Int) = _
  rw [ref13_turned.L1, if_neg (by omega)]
def headG (wd : Nat) (Ks Vs : Nat → List Int) (n : Nat) (q : List Int) (h : Nat) : List Int :=
  mixS (softS 64 0 (tabl n fun p => IntKind.i32.wrap (dots (part q wd h) (part (Ks p) wd h) wd))) (tabl n fun p => part (Vs p) wd h) wd
def attG (wd : Nat) (Ks Vs : Nat → List Int) (n : Nat) (q : List Int) : Nat → List Int
  | 0 => []
  | k + 1 => attG wd Ks Vs n q k ++ headG wd Ks Vs n q k
theorem headG_len (wd : Nat) (Ks Vs : Nat → List Int) (n : Nat) (q : List Int) (h : Nat) : (headG wd Ks Vs n q h).length = wd := mixS_len _ _ _
theorem attG_len (wd : Nat) (Ks Vs : Nat → List Int) (n : Nat) (q : List Int) : ∀ k, (attG wd Ks Vs n q k).length = k * wd
  | 0 => by simp [attG]
  | k + 1 => by rw [attG, List.length_append, attG_len wd Ks Vs n q k, headG_len, Nat.succ_mul]
theorem patG (wd H : Nat) (x : List Int) (h : Nat) (hx : x.length = H * wd) (hh : h < H) (hb : H * wd ≤ 1000) : (0 : Int) ≤ ((h * wd : Nat) : Int) ∧ ((h * wd : Nat) : Int) ≤ IntKind.i64.wrap (((h * wd : Nat) : Int) + (wd : Int)) ∧ IntKind.i64.wrap (((h * wd : Nat) : Int) + (wd : Int)) ≤ ((x.length : Nat) : Int) ∧ (x.take (IntKind.i64.wrap (((h * wd : Nat) : Int) + (wd : Int))).toNat).drop (((h * wd : Nat) : Int)).toNat = part x wd h := by
  have h1 : (h + 1) * wd ≤ H * wd := Nat.mul_le_mul_right _ (by omega)
  have h3 : (h + 1) * wd = h * wd + wd := Nat.succ_mul _ _
  have e : IntKind.i64.wrap (((h * wd : Nat) : Int) + (wd : Int)) = (((h + 1) * wd : Nat) : Int) := by rw [W_in (by omega)]; omega
  rw [e, Int.toNat_natCast, Int.toNat_natCast]
  exact ⟨by omega, by omega, by omega, rfl⟩
theorem bhead_is {N : Nat} (hN : 300 < N) (wd H n : Nat) (hb : H * wd ≤ 200) (hn0 : 0 < n) (hn : n ≤ 50) (q : List Int) (hq : q.length = H * wd) (ks vs : List (List Int)) (hk : ks.length = n) (hv : vs.length = n) (hks : ∀ p, p < n → (ks.getD p []).length = H * wd) (hvs : ∀ p, p < n → (vs.getD p []).length = H * wd) (h : Nat) (hh : h < H) :
    block_head N (part q wd h) ks vs ((h * wd : Nat) : Int) = some (headG wd (fun p => ks.getD p []) (fun p => vs.getD p []) n q h) := by
  have lq := part_len q wd h H hq hh
  have hw : wd ≤ 200 := Nat.le_trans (Nat.le_mul_of_pos_left wd (show 0 < H by omega)) hb
  unfold block_head
  refine loop_c (fun m2 (s : List Int × List (List Int)) i => block_head.L1 N (part q wd h) ks vs ((h * wd : Nat) : Int) m2 s.1 s.2 i) (fun p => (tabl p fun p => IntKind.i32.wrap (dots (part q wd h) (part (ks.getD p []) wd h) wd), tabl p fun p => part (vs.getD p []) wd h)) n _ (fun m2 p hp2 => ?_) (fun m2 => ?_) N (by omega)
  · show block_head.L1 N (part q wd h) ks vs _ (m2 + 1) (tabl p _) (tabl p _) (p : Int) = block_head.L1 N (part q wd h) ks vs _ m2 (tabl (p + 1) _) (tabl (p + 1) _) _
    obtain ⟨p1, p2, p3, p4⟩ := patG wd H _ h (hks p hp2) hh (by omega)
    obtain ⟨v1, v2, v3, v4⟩ := patG wd H _ h (hvs p hp2) hh (by omega)
    have lk := part_len _ wd h H (hks p hp2) hh
    have hdot := rdot_is (N := N) (part q wd h) (part (ks.getD p []) wd h) (by rw [lq, lk]) (by rw [lq]; omega) (by rw [lq]; omega)
    rw [lq] at hdot
    rw [block_head.L1, if_pos (by omega), idx_d ks [] (by omega), Option.bind_some, lq, chk_ok _ ⟨p1, p2, p3⟩, p4, hdot, Option.bind_some, app_ok _ _ (by rw [tabl_len]; simp only [List.length_cons, List.length_nil]; omega), Option.bind_some, idx_d vs [] (by omega), Option.bind_some, chk_ok _ ⟨v1, v2, v3⟩, v4, app_ok _ _ (by rw [tabl_len]; simp only [List.length_cons, List.length_nil]; omega), Option.bind_some, W_succ p (by omega), tabl_succ, tabl_succ]
  · show block_head.L1 N (part q wd h) ks vs _ (m2 + 1) (tabl n _) (tabl n _) (n : Int) = _
    have hmx := pmix_is (N := N) (softS 64 0 (tabl n fun p => IntKind.i32.wrap (dots (part q wd h) (part (ks.getD p []) wd h) wd))) (tabl n fun p => part (vs.getD p []) wd h) wd (by rw [softS_len, tabl_len, tabl_len]) (by rw [tabl_len]; exact hn0) (by rw [tabl_len]; omega) (fun i hi => by
      rw [tabl_len] at hi
      rw [tabl_getD _ _ _ _ hi]
      exact part_len _ wd h H (hvs i hi) hh) (by omega) (by omega)
    rw [block_head.L1, if_neg (by omega), psoftmax_is _ _ _ (by rw [tabl_len]; exact hn0) (by rw [tabl_len]; omega) (by omega), Option.bind_some, hmx, Option.bind_some]
    rfl
end Go.Proofs.YtbfiagimgokccaaGreat
end
section
namespace Go.Proofs.YtbfiagimgokccaaGreat
open Go Go.Hp
set_option linter.unusedVariables false
set_option linter.unusedSimpArgs false
set_option linter.unusedSectionVars false
theorem bytes_is {N : Nat} (a b : List Int) (hN : a.length < N) (hl : a.length ≤ 100000) : ref04_Bytes N a b = some (decide (a = b)) := by
  unfold ref04_Bytes
  by_cases h : a.length = b.length
  · rw [if_neg (by omega)]
    have key : ∀ q i m : Nat, i + q = a.length → q < m → ref04_Bytes.L1 a b m (i : Int) = some (decide (a.drop i = b.drop i)) := by
      intro q
      induction q with
      | zero =>
        intro i m hi hm
        obtain ⟨m, rfl⟩ : ∃ q, m = q + 1 := ⟨m - 1, by omega⟩
        rw [ref04_Bytes.L1, if_neg (by omega), List.drop_of_length_le (by omega), List.drop_of_length_le (by omega), decide_eq_true rfl]
      | succ q ih =>
        intro i m hi hm
        obtain ⟨m, rfl⟩ : ∃ q, m = q + 1 := ⟨m - 1, by omega⟩
        have h1 : i < a.length := by omega
        have h2 : i < b.length := by omega
        rw [ref04_Bytes.L1, if_pos (by omega), idx_get a i h1, Option.bind_some, idx_get b i h2, Option.bind_some, List.drop_eq_getElem_cons h1, List.drop_eq_getElem_cons h2]
        by_cases e : a[i] = b[i]
        · rw [if_neg (fun q => q e), W_succ i (by omega), ih (i + 1) m (by omega) (by omega)]
          congr 1
          rw [decide_eq_decide, e]
          exact ⟨fun q => by rw [q], fun q => by injection q⟩
        · rw [if_pos e]
          congr 1
          rw [eq_comm, decide_eq_false_iff_not]
          intro q
          injection q with q1 q2
          exact e q1
    have := key a.length 0 N (by omega) hN
    rw [List.drop_zero, List.drop_zero] at this
    exact this
  · rw [if_pos (by omega)]
    congr 1
    rw [eq_comm, decide_eq_false_iff_not]
    intro q; exact h (by rw [q])
theorem equal_is {N : Nat} (a b : List Int) (hN : a.length < N) (hl : a.length ≤ 100000) : slices_Equal_s_int8_int8 N a b = some (decide (a = b)) := by
  unfold slices_Equal_s_int8_int8
  by_cases h : a.length = b.length
  · rw [if_neg (by omega)]
    have key : ∀ q i m : Nat, i + q = a.length → q < m → slices_Equal_s_int8_int8.L1 a b m (i : Int) = some (decide (a.drop i = b.drop i)) := by
      intro q
      induction q with
      | zero =>
        intro i m hi hm
        obtain ⟨m, rfl⟩ : ∃ q, m = q + 1 := ⟨m - 1, by omega⟩
        rw [slices_Equal_s_int8_int8.L1, if_neg (by omega), List.drop_of_length_le (by omega), List.drop_of_length_le (by omega), decide_eq_true rfl]
      | succ q ih =>
        intro i m hi hm
        obtain ⟨m, rfl⟩ : ∃ q, m = q + 1 := ⟨m - 1, by omega⟩
        have h1 : i < a.length := by omega
        have h2 : i < b.length := by omega
        rw [slices_Equal_s_int8_int8.L1, if_pos (by omega), idx_get a i h1, Option.bind_some, idx_get b i h2, Option.bind_some, List.drop_eq_getElem_cons h1, List.drop_eq_getElem_cons h2]
        by_cases e : a[i] = b[i]
        · rw [if_neg (fun q => q e), W_succ i (by omega), ih (i + 1) m (by omega) (by omega)]
          congr 1
          rw [decide_eq_decide, e]
          exact ⟨fun q => by rw [q], fun q => by injection q⟩
        · rw [if_pos e]
          congr 1
          rw [eq_comm, decide_eq_false_iff_not]
          intro q
          injection q with q1 q2
          exact e q1
    have := key a.length 0 N (by omega) hN
    rw [List.drop_zero, List.drop_zero] at this
    exact this
  · rw [if_pos (by omega)]
    congr 1
    rw [eq_comm, decide_eq_false_iff_not]
    intro q; exact h (by rw [q])
def rget : List S_ref12_Row → S_api_Spot → Option S_cache_rows
  | [], _ => none
  | r :: L, s => if r.At = s then some ⟨r.K, r.V⟩ else rget L s
theorem rget_app (L : List S_ref12_Row) (r : S_ref12_Row) (s : S_api_Spot) : rget (L ++ [r]) s = match rget L s with | some v => some v | none => if r.At = s then some ⟨r.K, r.V⟩ else none := by
  induction L with
  | nil => rfl
  | cons x L ih =>
    rw [List.cons_append, rget, rget]
    by_cases h : x.At = s
    · rw [if_pos h, if_pos h]
    · rw [if_neg h, if_neg h, ih]
theorem rfind_is {N : Nat} (st : S_ref12_Store) (s : S_api_Spot) (hN : st.L.length < N) (hl : st.L.length ≤ 5000) :
    match rget st.L s with | none => ref12_Store_Find N st s = some (-1) | some v => ∃ k, ∃ h : k < st.L.length, ref12_Store_Find N st s = some (k : Int) ∧ st.L[k].K = v.k ∧ st.L[k].V = v.v := by
  have key : ∀ q i m : Nat, i + q = st.L.length → q < m → match rget (st.L.drop i) s with | none => ref12_Store_Find.L1 st s m (i : Int) = some (-1) | some v => ∃ k, ∃ h : k < st.L.length, ref12_Store_Find.L1 st s m (i : Int) = some (k : Int) ∧ st.L[k].K = v.k ∧ st.L[k].V = v.v := by
    intro q
    induction q with
    | zero =>
      intro i m hi hm
      obtain ⟨m, rfl⟩ : ∃ q, m = q + 1 := ⟨m - 1, by omega⟩
      rw [List.drop_of_length_le (by omega)]
      show ref12_Store_Find.L1 st s (m + 1) (i : Int) = some (-1)
      rw [ref12_Store_Find.L1, if_neg (by omega)]
    | succ q ih =>
      intro i m hi hm
      obtain ⟨m, rfl⟩ : ∃ q, m = q + 1 := ⟨m - 1, by omega⟩
      have h1 : i < st.L.length := by omega
      have e : ref12_Store_Find.L1 st s (m + 1) (i : Int) = if st.L[i].At = s then some (i : Int) else ref12_Store_Find.L1 st s m ((i + 1 : Nat) : Int) := by
        rw [ref12_Store_Find.L1, if_pos (by omega), idx_get _ i h1, Option.bind_some, W_succ i (by omega)]
      have := ih (i + 1) m (by omega) (by omega)
      rw [e, List.drop_eq_getElem_cons h1, rget]
      by_cases c : st.L[i].At = s
      · rw [if_pos c, if_pos c]
        exact ⟨i, h1, rfl, rfl, rfl⟩
      · rw [if_neg c, if_neg c]
        exact this
  have := key st.L.length 0 N (by omega) hN
  rw [List.drop_zero] at this
  exact this
def putE (room : Int) (n : Nat) (g : S_api_Spot → Option S_cache_rows) (s : S_api_Spot) (k v : List Int) : Int :=
  if s.Request < 0 then 2 else if s.Layer < 0 then 2 else if s.Place < 0 then 2 else if k.length ≠ v.length then 30 else
  if s.Place > 0 ∧ g ⟨s.Request, s.Layer, s.Place - 1⟩ = none then 120 else
  match g s with
  | some r => if r.k = k ∧ r.v = v then 0 else 2
  | none => if (n : Int) ≥ room then 80 else 0
def putM (m : S_cache_Store) (s : S_api_Spot) (k v : List Int) : S_cache_Store :=
  if putE m.room m.m.length (mget m.m) s k v = 0 ∧ mget m.m s = none then ⟨m.room, mset m.m s ⟨k, v⟩⟩ else m
def putR (m : S_ref12_Store) (s : S_api_Spot) (k v : List Int) : S_ref12_Store :=
  if putE m.Room m.L.length (rget m.L) s k v = 0 ∧ rget m.L s = none then ⟨m.Room, m.L ++ [⟨s, k, v⟩]⟩ else m
theorem put_is {N : Nat} (m : S_cache_Store) (s : S_api_Spot) (k v : List Int) (hs : s.Place ≤ 1000000) (hk : k.length < N) (hk2 : k.length ≤ 100000) (hv : v.length ≤ 100000) (hm : ∀ s r, mget m.m s = some r → r.k.length < N ∧ r.k.length ≤ 100000 ∧ r.v.length < N ∧ r.v.length ≤ 100000) :
    cache_Store_Put N m s k v = some (putE m.room m.m.length (mget m.m) s k v, putM m s k v) := by
  unfold cache_Store_Put putM putE
  rw [Option.bind_some]
  by_cases c1 : s.Request < 0
  · rw [if_pos c1, if_pos c1, if_neg (fun q => absurd q.1 (by decide))]
  rw [if_neg c1, if_neg c1]
  by_cases c2 : s.Layer < 0
  · rw [if_pos c2, if_pos c2, if_neg (fun q => absurd q.1 (by decide))]
  rw [if_neg c2, if_neg c2]
  by_cases c3 : s.Place < 0
  · rw [if_pos c3, if_pos c3, if_neg (fun q => absurd q.1 (by decide))]
  rw [if_neg c3, if_neg c3]
  by_cases c4 : k.length = v.length
  rotate_left
  · rw [if_pos (by omega), if_pos c4, if_neg (fun q => absurd q.1 (by decide))]
  rw [if_neg (show ¬ ((k.length : Nat) : Int) ≠ ((v.length : Nat) : Int) by omega), if_neg (show ¬ k.length ≠ v.length from fun q => q c4)]
  have ha : cache_Store_ahead m s = some (if s.Place > 0 ∧ mget m.m ⟨s.Request, s.Layer, s.Place - 1⟩ = none then false else true) := by
    unfold cache_Store_ahead
    by_cases c : s.Place = 0
    · rw [if_pos c, if_neg (fun q => by omega)]
    · rw [if_neg c, Option.bind_some, W_in (by omega)]
      congr 1
      cases hz : mget m.m ⟨s.Request, s.Layer, s.Place - 1⟩ with
      | none => rw [if_pos ⟨by omega, rfl⟩]; rfl
      | some r => rw [if_neg (fun q => by cases q.2)]; rfl
  show (cache_Store_ahead m s).bind _ = _
  by_cases c5 : s.Place > 0 ∧ mget m.m ⟨s.Request, s.Layer, s.Place - 1⟩ = none
  · have ha' : cache_Store_ahead m s = some false := by rw [ha, if_pos c5]
    rw [ha', Option.bind_some, if_neg (by decide), if_pos c5, if_neg (fun q => absurd q.1 (by decide))]
  have ha' : cache_Store_ahead m s = some true := by rw [ha, if_neg c5]
  rw [ha', Option.bind_some, if_pos rfl, if_neg c5]
  show (if (mget m.m s).isSome = true then (slices_Equal_s_int8_int8 N ((mget m.m s).getD ⟨[], []⟩).k k).bind _ else _) = _
  cases hg : mget m.m s with
  | some r =>
    obtain ⟨h1, h2, h3, h4⟩ := hm _ _ hg
    have j1 : ∀ z, cache_Store_Put.J1 m s k v z = some (if z = true then 0 else 2, m) := by
      intro z
      unfold cache_Store_Put.J1
      cases z
      · rw [if_neg (by decide)]
        show (if (mget m.m s).isSome = true then _ else _) = _
        rw [hg]
        rfl
      · rw [if_pos rfl]; rfl
    show (slices_Equal_s_int8_int8 N r.k k).bind (fun r28 => if r28 = true then (slices_Equal_s_int8_int8 N r.v v).bind _ else _) = _
    show _ = some (if r.k = k ∧ r.v = v then (0 : Int) else 2, if (if r.k = k ∧ r.v = v then (0 : Int) else 2) = 0 ∧ some r = none then _ else m)
    rw [if_neg (show ¬ ((if r.k = k ∧ r.v = v then (0 : Int) else 2) = 0 ∧ some r = none) from fun q => by cases q.2), equal_is _ _ h1 h2, Option.bind_some]
    by_cases e1 : r.k = k
    · rw [decide_eq_true e1, if_pos rfl, equal_is _ _ h3 h4, Option.bind_some, j1]
      by_cases e2 : r.v = v
      · rw [decide_eq_true e2, if_pos rfl]
        rw [if_pos ⟨e1, e2⟩]
      · rw [decide_eq_false e2, if_neg (by decide)]
        rw [if_neg (fun q => e2 q.2)]
    · rw [decide_eq_false e1, if_neg (by decide), j1, if_neg (by decide)]
      rw [if_neg (fun q => e1 q.1)]
  | none =>
    rw [if_neg (by simp)]
    unfold cache_Store_Put.J1
    rw [if_neg (by decide)]
    show (if (mget m.m s).isSome = true then _ else _) = _
    rw [hg, if_neg (by simp)]
    show _ = some (if (m.m.length : Int) ≥ m.room then (80 : Int) else 0, if (if (m.m.length : Int) ≥ m.room then (80 : Int) else 0) = 0 ∧ (none : Option S_cache_rows) = none then _ else m)
    by_cases c6 : (m.m.length : Int) ≥ m.room
    · rw [if_pos c6, if_pos c6, if_neg (fun q => absurd q.1 (by decide))]
    · rw [if_neg c6, if_neg c6, clone8_is _ hk2, Option.bind_some, clone8_is _ hv, Option.bind_some, if_pos ⟨rfl, rfl⟩]
theorem rput_is {N : Nat} (m : S_ref12_Store) (s : S_api_Spot) (k v : List Int) (hs : s.Place ≤ 1000000) (hk : k.length < N) (hk2 : k.length ≤ 100000) (hv : v.length ≤ 100000) (hl : m.L.length ≤ 5000) (hN : m.L.length < N) (hm : ∀ s r, rget m.L s = some r → r.k.length < N ∧ r.k.length ≤ 100000 ∧ r.v.length < N ∧ r.v.length ≤ 100000) :
    ref12_Store_Put N m s k v = some (putE m.Room m.L.length (rget m.L) s k v, putR m s k v) := by
  unfold ref12_Store_Put putR putE
  by_cases c1 : s.Request < 0
  · rw [if_pos c1, if_pos c1, if_neg (fun q => absurd q.1 (by decide))]
  rw [if_neg c1, if_neg c1]
  by_cases c2 : s.Layer < 0
  · rw [if_pos c2, if_pos c2, if_neg (fun q => absurd q.1 (by decide))]
  rw [if_neg c2, if_neg c2]
  by_cases c3 : s.Place < 0
  · rw [if_pos c3, if_pos c3, if_neg (fun q => absurd q.1 (by decide))]
  rw [if_neg c3, if_neg c3]
  by_cases c4 : k.length = v.length
  rotate_left
  · rw [if_pos (by omega), if_pos c4, if_neg (fun q => absurd q.1 (by decide))]
  rw [if_neg (show ¬ ((k.length : Nat) : Int) ≠ ((v.length : Nat) : Int) by omega), if_neg (show ¬ k.length ≠ v.length from fun q => q c4)]
  have hj : ∀ z : Bool, (z = true ↔ (s.Place > 0 ∧ rget m.L ⟨s.Request, s.Layer, s.Place - 1⟩ = none)) → ref12_Store_Put.J1 N m s k v z = some (if s.Place > 0 ∧ rget m.L ⟨s.Request, s.Layer, s.Place - 1⟩ = none then (120 : Int) else match rget m.L s with | some r => if r.k = k ∧ r.v = v then 0 else 2 | none => if (m.L.length : Int) ≥ m.Room then 80 else 0,
      if (if s.Place > 0 ∧ rget m.L ⟨s.Request, s.Layer, s.Place - 1⟩ = none then (120 : Int) else match rget m.L s with | some r => if r.k = k ∧ r.v = v then 0 else 2 | none => if (m.L.length : Int) ≥ m.Room then 80 else 0) = 0 ∧ rget m.L s = none then ⟨m.Room, m.L ++ [⟨s, k, v⟩]⟩ else m) := by
    intro z hz
    unfold ref12_Store_Put.J1
    by_cases c5 : s.Place > 0 ∧ rget m.L ⟨s.Request, s.Layer, s.Place - 1⟩ = none
    · rw [hz.2 c5, if_pos rfl, if_pos c5, if_neg (fun q => absurd q.1 (by decide))]
    have zf : z = false := by
      cases z
      · rfl
      · exact absurd (hz.1 rfl) c5
    subst zf
    rw [if_neg (by decide), if_neg c5]
    have hf := rfind_is (N := N) m s hN hl
    show (ref12_Store_Find N m s).bind _ = _
    cases hg : rget m.L s with
    | some r =>
      rw [hg] at hf
      obtain ⟨i, hi, e, ek, ev⟩ := hf
      obtain ⟨h1, h2, h3, h4⟩ := hm _ _ hg
      show _ = some (if r.k = k ∧ r.v = v then (0 : Int) else 2, if (if r.k = k ∧ r.v = v then (0 : Int) else 2) = 0 ∧ some r = none then _ else m)
      rw [if_neg (show ¬ ((if r.k = k ∧ r.v = v then (0 : Int) else 2) = 0 ∧ some r = none) from fun q => by cases q.2), e, Option.bind_some, if_pos (show (i : Int) ≥ 0 by omega), idx_get _ i hi, Option.bind_some, ek, bytes_is _ _ h1 h2, Option.bind_some]
      unfold ref12_Store_Put.J3
      by_cases e1 : r.k = k
      · rw [decide_eq_true e1, if_pos rfl, Option.bind_some, ev, bytes_is _ _ h3 h4, Option.bind_some]
        by_cases e2 : r.v = v
        · rw [decide_eq_true e2, if_pos rfl, if_pos ⟨e1, e2⟩]
        · rw [decide_eq_false e2, if_neg (by decide), if_neg (fun q => e2 q.2)]
      · rw [decide_eq_false e1, if_neg (by decide), if_neg (by decide), if_neg (fun q => e1 q.1)]
    | none =>
      rw [hg] at hf
      rw [hf, Option.bind_some, if_neg (by decide)]
      show _ = some (if (m.L.length : Int) ≥ m.Room then (80 : Int) else 0, if (if (m.L.length : Int) ≥ m.Room then (80 : Int) else 0) = 0 ∧ (none : Option S_cache_rows) = none then _ else m)
      by_cases c6 : (m.L.length : Int) ≥ m.Room
      · rw [if_pos c6, if_pos c6, if_neg (fun q => absurd q.1 (by decide))]
      · rw [if_neg c6, if_neg c6, app_ok _ _ (by simp only [List.length_nil]; omega), Option.bind_some, app_ok _ _ (by simp only [List.length_nil]; omega), Option.bind_some, app_ok _ _ (by simp only [List.length_cons, List.length_nil]; omega), Option.bind_some, if_pos ⟨rfl, rfl⟩]
        rfl
  by_cases c7 : s.Place > 0
  · rw [if_pos c7, W_in (by omega)]
    have hf := rfind_is (N := N) m ⟨s.Request, s.Layer, s.Place - 1⟩ hN hl
    cases hg : rget m.L ⟨s.Request, s.Layer, s.Place - 1⟩ with
    | some r =>
      rw [hg] at hf
      obtain ⟨i, hi, e, _⟩ := hf
      rw [e, Option.bind_some]
      have := hj (decide ((i : Int) < 0)) ⟨fun q => by have := of_decide_eq_true q; omega, fun q => by rw [hg] at q; cases q.2⟩
      rw [hg] at this
      exact this
    | none =>
      rw [hg] at hf
      rw [hf, Option.bind_some]
      have := hj (decide ((-1 : Int) < 0)) ⟨fun q => ⟨c7, hg⟩, fun q => rfl⟩
      rw [hg] at this
      exact this
  · rw [if_neg c7]
    exact hj false ⟨fun q => (by cases q), fun q => absurd q.1 c7⟩
theorem get_some {m : S_cache_Store} {s : S_api_Spot} {r : S_cache_rows} (h : mget m.m s = some r) (h1 : r.k.length ≤ 100000) (h2 : r.v.length ≤ 100000) : cache_Store_Get m s = some (r.k, r.v, true) := by
  unfold cache_Store_Get
  show (some ((mget m.m s).getD ⟨[], []⟩)).bind (fun y9 => (slices_Clone_s_int8_int8 y9.k).bind fun r20 => (slices_Clone_s_int8_int8 y9.v).bind fun r26 => some (r20, r26, (mget m.m s).isSome)) = _
  rw [h, Option.bind_some, Option.getD_some, clone8_is _ h1, Option.bind_some, clone8_is _ h2, Option.bind_some]
  rfl
theorem get_none {m : S_cache_Store} {s : S_api_Spot} (h : mget m.m s = none) : cache_Store_Get m s = some ([], [], false) := by
  unfold cache_Store_Get
  show (some ((mget m.m s).getD ⟨[], []⟩)).bind (fun y9 => (slices_Clone_s_int8_int8 y9.k).bind fun r20 => (slices_Clone_s_int8_int8 y9.v).bind fun r26 => some (r20, r26, (mget m.m s).isSome)) = _
  rw [h, Option.bind_some, Option.getD_none]
  rfl
theorem line_is {N : Nat} (m : S_cache_Store) (req ly : Int) (n : Nat) (hn : n < N) (hn2 : n ≤ 10000) (f : Nat → S_cache_rows) (hf : ∀ p, p < n → mget m.m ⟨req, ly, (p : Int)⟩ = some (f p)) (he : mget m.m ⟨req, ly, (n : Int)⟩ = none) (hl : ∀ p, p < n → (f p).k.length ≤ 100000 ∧ (f p).v.length ≤ 100000) :
    cache_Store_Line N m req ly = some (tabl n fun p => (f p).k, tabl n fun p => (f p).v) := by
  unfold cache_Store_Line
  refine loop_c (fun q (s : List (List Int) × List (List Int)) i => cache_Store_Line.L1 m req ly q s.1 s.2 i) (fun i => (tabl i fun p => (f p).k, tabl i fun p => (f p).v)) n _ (fun q i hi => ?_) (fun q => ?_) N hn
  · show cache_Store_Line.L1 m req ly (q + 1) (tabl i _) (tabl i _) (i : Int) = cache_Store_Line.L1 m req ly q (tabl (i + 1) _) (tabl (i + 1) _) _
    obtain ⟨h1, h2⟩ := hl i hi
    rw [cache_Store_Line.L1, get_some (hf i hi) h1 h2, Option.bind_some, if_pos rfl, app_ok _ _ (by rw [tabl_len]; simp only [List.length_cons, List.length_nil]; omega), Option.bind_some, app_ok _ _ (by rw [tabl_len]; simp only [List.length_cons, List.length_nil]; omega), Option.bind_some, W_succ i (by omega), tabl_succ, tabl_succ]
  · show cache_Store_Line.L1 m req ly (q + 1) _ _ (n : Int) = _
    rw [cache_Store_Line.L1, get_none he, Option.bind_some, if_neg (by decide)]
end Go.Proofs.YtbfiagimgokccaaGreat
end
section
namespace Go.Proofs.YtbfiagimgokccaaGreat
open Go Go.Hp
set_option linter.unusedVariables false
set_option linter.unusedSimpArgs false
set_option linter.unusedSectionVars false
def layS (d : Dim) (w : S_api_Weights) (c : Cu) (s p : Nat) (ly : Int) : Option S_api_Block := if ((lb d c s : Nat) : Int) ≤ ly ∧ ly < ((lb d c (s + 1) : Nat) : Int) then some (blkS d c p (w.Blocks.getD ly.toNat zB)) else none
section
variable {d : Dim} (hd : DOK d) (hp0 : 0 < d.pl) {c : Cu} (hc : COK d c) {w : S_api_Weights} (hw : WOK d w)
include hd hp0 hc hw
theorem bfits_is {N : Nat} (hN : 10 < N) (s p : Nat) (hs : s < c.st) (hp : p < c.pa) (x : List Int) : block_fits N (takeS d w c s p) x = some (decide (x.length = d.w)) := by
  unfold block_fits
  show (part_Right N [takeS d w c s p]).bind _ = _
  rw [right13_is hd hp0 hc hw hN s p hs hp, Option.bind_some, if_pos rfl]
  show some (decide (((x.length : Nat) : Int) = ((d.w : Nat) : Int))) = _
  congr 1
  rw [decide_eq_decide]
  omega
theorem blayer_is (s p : Nat) (hs : s < c.st) (hp : p < c.pa) (ly : Int) : block_layer (takeS d w c s p) ly = some (match layS d w c s p ly with | some b => (b, true) | none => (zB, false)) := by
  obtain ⟨l1, l2⟩ := lb_fit hd hc s hs
  have hly := hd.ly
  unfold block_layer
  show (slice_Layers (shapeS d) (cutS c) (s : Int)).bind _ = _
  rw [slayers_is hd hp0 hc s hs, Option.bind_some, if_neg (fun q => q rfl)]
  show (if ly < ((lb d c s : Nat) : Int) then some (zB, false) else if ly ≥ ((lb d c (s + 1) : Nat) : Int) then some (zB, false) else (idx (takeS d w c s p).Blocks (IntKind.i64.wrap (ly - ((lb d c s : Nat) : Int)))).bind fun y => some (y, true)) = _
  unfold layS
  by_cases c1 : ly < ((lb d c s : Nat) : Int)
  · rw [if_pos c1, if_neg (fun q => by omega)]
  rw [if_neg c1]
  by_cases c2 : ly ≥ ((lb d c (s + 1) : Nat) : Int)
  · rw [if_pos c2, if_neg (fun q => by omega)]
  rw [if_neg c2, if_pos ⟨by omega, by omega⟩]
  obtain ⟨n, rfl⟩ : ∃ n : Nat, ly = n := ⟨ly.toNat, by omega⟩
  have e : IntKind.i64.wrap ((n : Int) - ((lb d c s : Nat) : Int)) = ((n - lb d c s : Nat) : Int) := by rw [W_in (by omega)]; omega
  have e2 : idx (takeS d w c s p).Blocks ((n - lb d c s : Nat) : Int) = some (blkS d c p (w.Blocks.getD (lb d c s + (n - lb d c s)) zB)) := idx_t _ (by omega)
  rw [e, e2, Option.bind_some, Int.toNat_natCast, show lb d c s + (n - lb d c s) = n by omega]
theorem rlayer_is (s p : Nat) (hs : s < c.st) (hp : p < c.pa) (ly : Int) : ref13_Layer (takeS d w c s p) ly = some (match layS d w c s p ly with | some b => (b, true) | none => (zB, false)) := by
  obtain ⟨l1, l2⟩ := lb_fit hd hc s hs
  have hly := hd.ly; have hst := hc.st
  unfold ref13_Layer
  show (ref10_Span (s : Int) (d.ly : Int) (c.st : Int)).bind _ = _
  rw [span_is s d.ly c.st hst.1 (by omega) (by omega), Option.bind_some]
  show (if ly < ((lb d c s : Nat) : Int) then some (zB, false) else if ly ≥ ((lb d c (s + 1) : Nat) : Int) then some (zB, false) else (idx (takeS d w c s p).Blocks (IntKind.i64.wrap (ly - ((lb d c s : Nat) : Int)))).bind fun y => some (y, true)) = _
  unfold layS
  by_cases c1 : ly < ((lb d c s : Nat) : Int)
  · rw [if_pos c1, if_neg (fun q => by omega)]
  rw [if_neg c1]
  by_cases c2 : ly ≥ ((lb d c (s + 1) : Nat) : Int)
  · rw [if_pos c2, if_neg (fun q => by omega)]
  rw [if_neg c2, if_pos ⟨by omega, by omega⟩]
  obtain ⟨n, rfl⟩ : ∃ n : Nat, ly = n := ⟨ly.toNat, by omega⟩
  have e : IntKind.i64.wrap ((n : Int) - ((lb d c s : Nat) : Int)) = ((n - lb d c s : Nat) : Int) := by rw [W_in (by omega)]; omega
  have e2 : idx (takeS d w c s p).Blocks ((n - lb d c s : Nat) : Int) = some (blkS d c p (w.Blocks.getD (lb d c s + (n - lb d c s)) zB)) := idx_t _ (by omega)
  rw [e, e2, Option.bind_some, Int.toNat_natCast, show lb d c s + (n - lb d c s) = n by omega]
theorem layS_ok (s p : Nat) (hs : s < c.st) (hp : p < c.pa) (ly : Int) (b : S_api_Block) (h : layS d w c s p ly = some b) : BP d c b ∧ 0 ≤ ly ∧ ly < d.ly := by
  obtain ⟨l1, l2⟩ := lb_fit hd hc s hs
  unfold layS at h
  by_cases c1 : ((lb d c s : Nat) : Int) ≤ ly ∧ ly < ((lb d c (s + 1) : Nat) : Int)
  · rw [if_pos c1] at h
    injection h with h
    subst h
    exact ⟨blkS_ok hd hc p hp (hw.blocks _ (getD_in _ _ _ (by have := hw.blen; omega))), by omega, by omega⟩
  · rw [if_neg c1] at h
    cases h
end
structure SW (g : S_api_Spot → Option S_cache_rows) (len pl : Nat) : Prop where
  len : ∀ s r, g s = some r → r.k.length = len ∧ r.v.length = len
  place : ∀ s r, g s = some r → 0 ≤ s.Place ∧ s.Place < pl
  down : ∀ s r, g s = some r → 0 < s.Place → ∃ r', g ⟨s.Request, s.Layer, s.Place - 1⟩ = some r'
theorem SW.all {g : S_api_Spot → Option S_cache_rows} {len pl : Nat} (h : SW g len pl) (req ly : Int) : ∀ n : Nat, (∃ r, g ⟨req, ly, (n : Int)⟩ = some r) → ∀ p : Nat, p ≤ n → ∃ r, g ⟨req, ly, (p : Int)⟩ = some r := by
  intro n
  induction n with
  | zero => intro e p hp; obtain rfl : p = 0 := by omega
            exact e
  | succ n ih =>
    intro ⟨r, e⟩ p hp
    rcases Nat.lt_or_ge n p with q | q
    · obtain rfl : p = n + 1 := by omega
      exact ⟨r, e⟩
    · refine ih ?_ p q
      obtain ⟨r', e'⟩ := h.down _ _ e (by show (0 : Int) < ((n + 1 : Nat) : Int); omega)
      refine ⟨r', ?_⟩
      rw [← e']
      congr 2
      show (n : Int) = ((n + 1 : Nat) : Int) - 1
      omega
theorem SW.ends {g : S_api_Spot → Option S_cache_rows} {len pl : Nat} (h : SW g len pl) (req ly : Int) : ∃ n : Nat, n ≤ pl ∧ (∀ p : Nat, p < n → ∃ r, g ⟨req, ly, (p : Int)⟩ = some r) ∧ g ⟨req, ly, (n : Int)⟩ = none := by
  have key : ∀ n : Nat, (∀ p : Nat, p < n → ∃ r, g ⟨req, ly, (p : Int)⟩ = some r) ∨ ∃ k : Nat, k < n ∧ (∀ p : Nat, p < k → ∃ r, g ⟨req, ly, (p : Int)⟩ = some r) ∧ g ⟨req, ly, (k : Int)⟩ = none := by
    intro n
    induction n with
    | zero => exact .inl fun p hp => by omega
    | succ n ih =>
      rcases ih with q | ⟨k, q1, q2, q3⟩
      · cases e : g ⟨req, ly, (n : Int)⟩ with
        | none => exact .inr ⟨n, by omega, q, e⟩
        | some r =>
          refine .inl fun p hp => ?_
          rcases Nat.lt_or_ge p n with z | z
          · exact q p z
          · obtain rfl : p = n := by omega
            exact ⟨r, e⟩
      · exact .inr ⟨k, by omega, q2, q3⟩
  rcases key (pl + 1) with q | ⟨k, q1, q2, q3⟩
  · obtain ⟨r, e⟩ := q pl (by omega)
    have := (h.place _ _ e).2
    exact absurd this (by show ¬ (pl : Int) < (pl : Int); omega)
  · exact ⟨k, by omega, q2, q3⟩
theorem mget_putM (m : S_cache_Store) (s : S_api_Spot) (k v : List Int) (t : S_api_Spot) : mget (putM m s k v).m t = if putE m.room m.m.length (mget m.m) s k v = 0 ∧ mget m.m s = none ∧ t = s then some ⟨k, v⟩ else mget m.m t := by
  unfold putM
  by_cases c1 : putE m.room m.m.length (mget m.m) s k v = 0 ∧ mget m.m s = none
  · rw [if_pos c1]
    show mget (mset m.m s ⟨k, v⟩) t = _
    rw [mget_mset]
    by_cases c2 : t = s
    · rw [if_pos c2, if_pos ⟨c1.1, c1.2, c2⟩]
    · rw [if_neg c2, if_neg (fun q => c2 q.2.2)]
  · rw [if_neg c1, if_neg (fun q => c1 ⟨q.1, q.2.1⟩)]
theorem rget_putR (m : S_ref12_Store) (s : S_api_Spot) (k v : List Int) (t : S_api_Spot) : rget (putR m s k v).L t = if putE m.Room m.L.length (rget m.L) s k v = 0 ∧ rget m.L s = none ∧ t = s then some ⟨k, v⟩ else rget m.L t := by
  unfold putR
  by_cases c1 : putE m.Room m.L.length (rget m.L) s k v = 0 ∧ rget m.L s = none
  · rw [if_pos c1]
    show rget (m.L ++ [⟨s, k, v⟩]) t = _
    have e : (if putE m.Room m.L.length (rget m.L) s k v = 0 ∧ rget m.L s = none ∧ t = s then some (⟨k, v⟩ : S_cache_rows) else rget m.L t) = if t = s then some ⟨k, v⟩ else rget m.L t := by
      by_cases c2 : t = s
      · rw [if_pos ⟨c1.1, c1.2, c2⟩, if_pos c2]
      · rw [if_neg (fun q => c2 q.2.2), if_neg c2]
    rw [e, rget_app]
    by_cases c2 : t = s
    · rw [if_pos c2, c2, c1.2]; exact if_pos rfl
    · rw [if_neg c2]
      cases rget m.L t with
      | some r => rfl
      | none => exact if_neg (fun q => c2 q.symm)
  · rw [if_neg c1, if_neg (fun q => c1 ⟨q.1, q.2.1⟩)]
end Go.Proofs.YtbfiagimgokccaaGreat
end
section
namespace Go.Proofs.YtbfiagimgokccaaGreat
open Go Go.Hp
set_option linter.unusedVariables false
set_option linter.unusedSimpArgs false
set_option linter.unusedSectionVars false
theorem putE_0 {room : Int} {n : Nat} {g : S_api_Spot → Option S_cache_rows} {s : S_api_Spot} {k v : List Int} (h : putE room n g s k v = 0) : 0 ≤ s.Request ∧ 0 ≤ s.Layer ∧ 0 ≤ s.Place ∧ (0 < s.Place → ∃ r, g ⟨s.Request, s.Layer, s.Place - 1⟩ = some r) ∧ (g s = none ∨ g s = some ⟨k, v⟩) := by
  unfold putE at h
  by_cases c1 : s.Request < 0
  · rw [if_pos c1] at h; exact absurd h (by decide)
  rw [if_neg c1] at h
  by_cases c2 : s.Layer < 0
  · rw [if_pos c2] at h; exact absurd h (by decide)
  rw [if_neg c2] at h
  by_cases c3 : s.Place < 0
  · rw [if_pos c3] at h; exact absurd h (by decide)
  rw [if_neg c3] at h
  by_cases c4 : k.length ≠ v.length
  · rw [if_pos c4] at h; exact absurd h (by decide)
  rw [if_neg c4] at h
  by_cases c5 : s.Place > 0 ∧ g ⟨s.Request, s.Layer, s.Place - 1⟩ = none
  · rw [if_pos c5] at h; exact absurd h (by decide)
  rw [if_neg c5] at h
  refine ⟨by omega, by omega, by omega, fun q => ?_, ?_⟩
  · cases e : g ⟨s.Request, s.Layer, s.Place - 1⟩ with
    | none => exact absurd ⟨q, e⟩ c5
    | some r => exact ⟨r, rfl⟩
  · cases e : g s with
    | none => exact .inl rfl
    | some r =>
      rw [e] at h
      by_cases c6 : r.k = k ∧ r.v = v
      · right; rw [← c6.1, ← c6.2]
      · have : (if r.k = k ∧ r.v = v then (0 : Int) else 2) = 0 := h
        rw [if_neg c6] at this
        exact absurd this (by decide)
theorem putE_congr {room room' : Int} {n n' : Nat} {g g' : S_api_Spot → Option S_cache_rows} (s : S_api_Spot) (k v : List Int) (h : ∀ t, t.Request = s.Request → g t = g' t) (hn : (n : Int) ≥ room ↔ (n' : Int) ≥ room') : putE room n g s k v = putE room' n' g' s k v := by
  unfold putE
  rw [h s rfl, h ⟨s.Request, s.Layer, s.Place - 1⟩ rfl]
  by_cases c : (n : Int) ≥ room
  · have c' := hn.1 c
    simp only [if_pos c, if_pos c']
  · have c' : ¬ (n' : Int) ≥ room' := fun q => c (hn.2 q)
    simp only [if_neg c, if_neg c']
def Laid (room : Int) (n : Nat) (g g' : S_api_Spot → Option S_cache_rows) (s : S_api_Spot) (k v : List Int) : Prop := ∀ t, g' t = if putE room n g s k v = 0 ∧ g s = none ∧ t = s then some ⟨k, v⟩ else g t
theorem Laid.at {room : Int} {n : Nat} {g g' : S_api_Spot → Option S_cache_rows} {s : S_api_Spot} {k v : List Int} (h : Laid room n g g' s k v) (h0 : putE room n g s k v = 0) : g' s = some ⟨k, v⟩ := by
  obtain ⟨_, _, _, _, e⟩ := putE_0 h0
  rw [h s]
  rcases e with e | e
  · rw [if_pos ⟨h0, e, rfl⟩]
  · rw [if_neg (fun q => by rw [e] at q; cases q.2.1), e]
theorem Laid.keeps {room : Int} {n : Nat} {g g' : S_api_Spot → Option S_cache_rows} {s : S_api_Spot} {k v : List Int} (h : Laid room n g g' s k v) {t : S_api_Spot} {r : S_cache_rows} (e : g t = some r) : g' t = some r := by
  rw [h t, if_neg (fun q => by have := q.2.2; subst this; rw [e] at q; cases q.2.1), e]
theorem SW.put {g g' : S_api_Spot → Option S_cache_rows} {len pl : Nat} (h : SW g len pl) {room : Int} {n : Nat} {s : S_api_Spot} {k v : List Int} (hl : Laid room n g g' s k v) (hk : k.length = len) (hv : v.length = len) (hpl : s.Place < pl) : SW g' len pl := by
  have cases_ : ∀ t r, g' t = some r → g t = some r ∨ (putE room n g s k v = 0 ∧ t = s ∧ r = ⟨k, v⟩) := by
    intro t r e
    rw [hl t] at e
    by_cases c : putE room n g s k v = 0 ∧ g s = none ∧ t = s
    · rw [if_pos c] at e
      injection e with e
      exact .inr ⟨c.1, c.2.2, e.symm⟩
    · rw [if_neg c] at e
      exact .inl e
  refine ⟨fun t r e => ?_, fun t r e => ?_, fun t r e h0 => ?_⟩
  · rcases cases_ t r e with e | ⟨_, _, rfl⟩
    · exact h.len t r e
    · exact ⟨hk, hv⟩
  · rcases cases_ t r e with e | ⟨e0, rfl, _⟩
    · exact h.place t r e
    · exact ⟨(putE_0 e0).2.2.1, hpl⟩
  · rcases cases_ t r e with e | ⟨e0, rfl, _⟩
    · obtain ⟨r', e'⟩ := h.down t r e h0
      exact ⟨r', hl.keeps e'⟩
    · obtain ⟨r', e'⟩ := (putE_0 e0).2.2.2.1 h0
      exact ⟨r', hl.keeps e'⟩
theorem laid_m (m : S_cache_Store) (s : S_api_Spot) (k v : List Int) : Laid m.room m.m.length (mget m.m) (mget (putM m s k v).m) s k v := mget_putM m s k v
theorem laid_r (m : S_ref12_Store) (s : S_api_Spot) (k v : List Int) : Laid m.Room m.L.length (rget m.L) (rget (putR m s k v).L) s k v := rget_putR m s k v
theorem Laid.same {room room' : Int} {n n' : Nat} {g g' h h' : S_api_Spot → Option S_cache_rows} {s : S_api_Spot} {k v : List Int} (a : Laid room n g g' s k v) (b : Laid room' n' h h' s k v) (e : ∀ t, t.Request = s.Request → g t = h t) (hn : (n : Int) ≥ room ↔ (n' : Int) ≥ room') : ∀ t, t.Request = s.Request → g' t = h' t := by
  intro t ht
  rw [a t, b t, putE_congr s k v e hn, e s rfl, e t ht]
end Go.Proofs.YtbfiagimgokccaaGreat
end
section
namespace Go.Proofs.YtbfiagimgokccaaGreat
open Go Go.Hp
set_option linter.unusedVariables false
set_option linter.unusedSimpArgs false
set_option linter.unusedSectionVars false
theorem headG_congr (wd : Nat) (Ks Vs Ks' Vs' : Nat → List Int) (n : Nat) (q : List Int) (h : Nat) (e : ∀ p, p < n → Ks p = Ks' p ∧ Vs p = Vs' p) : headG wd Ks Vs n q h = headG wd Ks' Vs' n q h := by
  unfold headG
  rw [tabl_congr fun p hp => by rw [(e p hp).1], tabl_congr (f := fun p => part (Vs p) wd h) fun p hp => by rw [(e p hp).2]]
theorem take_getD {α : Type} (l : List α) (n k : Nat) (z : α) (h : k < n) : (l.take n).getD k z = l.getD k z := by
  rw [List.getD_eq_getElem?_getD, List.getElem?_take, if_pos h, ← List.getD_eq_getElem?_getD]
theorem bheads_is {N : Nat} (hN : 300 < N) (H wd dw : Nat) (hwd : 0 < wd) (hb : H * wd ≤ 200) (hdw : dw ≤ 200) (place : Nat) (hpl : place ≤ 40) (at_ : S_api_Spot) (hat : at_.Place = (place : Int)) (b : S_api_Block) (hO : matR b.O dw (H * wd)) (q : List Int) (hq : q.length = H * wd) (e : Int × S_cache_Store) (ks vs : List (List Int)) (hks : place < ks.length) (hvs : place < vs.length) (f : Nat → S_cache_rows)
    (hf : ∀ p, p ≤ place → ks.getD p [] = (f p).k ∧ vs.getD p [] = (f p).v ∧ (f p).k.length = H * wd ∧ (f p).v.length = H * wd) :
    block_Attend.L1 N at_ (b, true) (wd : Int) q e (ks, vs) N [] 0 = some (applyS b.O (attG wd (fun p => (f p).k) (fun p => (f p).v) (place + 1) q H) dw (H * wd), 0, e.2) := by
  have ep : IntKind.i64.wrap (at_.Place + 1) = ((place + 1 : Nat) : Int) := by rw [hat, W_succ place (by omega)]
  have hH : H ≤ 200 := Nat.le_trans (Nat.le_mul_of_pos_right H hwd) hb
  obtain ⟨m', s', hs, e1⟩ := loop_to (fun m (s : List Int) i => block_Attend.L1 N at_ (b, true) (wd : Int) q e (ks, vs) m s i) (fun i => ((i * wd : Nat) : Int)) H (fun i s => s = attG wd (fun p => (f p).k) (fun p => (f p).v) (place + 1) q i) (fun m h s hh hs => by
    subst hs
    refine ⟨_, rfl, ?_⟩
    have hal := attG_len wd (fun p => (f p).k) (fun p => (f p).v) (place + 1) q h
    have hhw : (h + 1) * wd ≤ H * wd := Nat.mul_le_mul_right _ (by omega)
    have hsm : (h + 1) * wd = h * wd + wd := Nat.succ_mul _ _
    obtain ⟨q1, q2, q3, q4⟩ := patG wd H q h hq hh (by omega)
    have ew : IntKind.i64.wrap (((h * wd : Nat) : Int) + (wd : Int)) = (((h + 1) * wd : Nat) : Int) := by rw [W_in (by omega)]; omega
    have hd := bhead_is hN wd H (place + 1) hb (by omega) (by omega) q hq (ks.take (place + 1)) (vs.take (place + 1)) (by simp; omega) (by simp; omega) (fun p hp => by rw [take_getD _ _ _ _ hp, (hf p (by omega)).1]; exact (hf p (by omega)).2.2.1) (fun p hp => by rw [take_getD _ _ _ _ hp, (hf p (by omega)).2.1]; exact (hf p (by omega)).2.2.2) h hh
    rw [headG_congr wd _ _ (fun p => (f p).k) (fun p => (f p).v) (place + 1) q h (fun p hp => ⟨by rw [take_getD _ _ _ _ hp, (hf p (by omega)).1], by rw [take_getD _ _ _ _ hp, (hf p (by omega)).2.1]⟩)] at hd
    show block_Attend.L1 N at_ (b, true) (wd : Int) q e (ks, vs) (m + 1) _ ((h * wd : Nat) : Int) = _
    rw [block_Attend.L1, if_pos (by omega), chk_ok _ ⟨q1, q2, q3⟩, ep]
    dsimp only
    rw [chk_ok _ (by omega), chk_ok _ (by omega), q4, Int.toNat_natCast, hd, Option.bind_some, app_ok _ _ (by rw [hal, headG_len]; omega), Option.bind_some, Option.bind_some, ew]
    rfl) N [] (by omega) rfl
  have e0 : ((0 * wd : Nat) : Int) = 0 := by simp
  rw [show block_Attend.L1 N at_ (b, true) (wd : Int) q e (ks, vs) N [] 0 = block_Attend.L1 N at_ (b, true) (wd : Int) q e (ks, vs) N [] ((0 * wd : Nat) : Int) by rw [e0]]
  refine Eq.trans e1 ?_
  subst hs
  show block_Attend.L1 N at_ (b, true) (wd : Int) q e (ks, vs) (m' + 1) _ ((H * wd : Nat) : Int) = _
  rw [block_Attend.L1, if_neg (by omega)]
  show (matmul_Apply N b.O _).bind _ = _
  rw [papply_is hO hdw hb (by omega) _ (attG_len _ _ _ _ _ _), Option.bind_some]
theorem rheads_is {N : Nat} (hN : 300 < N) (H wd dw : Nat) (hwd : 0 < wd) (hb : H * wd ≤ 200) (hdw : dw ≤ 200) (place : Nat) (hpl : place ≤ 40) (at_ : S_api_Spot) (hat : at_.Place = (place : Int)) (b : S_api_Block) (hO : matR b.O dw (H * wd)) (q : List Int) (hq : q.length = H * wd) (e : Int × S_ref12_Store) (hl : e.2.L.length < N) (hl2 : e.2.L.length ≤ 5000) (f : Nat → S_cache_rows)
    (hf : ∀ p : Nat, p ≤ place → rget e.2.L ⟨at_.Request, at_.Layer, (p : Int)⟩ = some (f p) ∧ (f p).k.length = H * wd ∧ (f p).v.length = H * wd) :
    ref13_Attend.L1 N at_ (b, true) (wd : Int) q e N [] 0 = some (applyS b.O (attG wd (fun p => (f p).k) (fun p => (f p).v) (place + 1) q H) dw (H * wd), 0, e.2) := by
  have hH : H ≤ 200 := Nat.le_trans (Nat.le_mul_of_pos_right H hwd) hb
  obtain ⟨m', s', hs, e1⟩ := loop_to (fun m (s : List Int) i => ref13_Attend.L1 N at_ (b, true) (wd : Int) q e m s i) (fun i => ((i * wd : Nat) : Int)) H (fun i s => s = attG wd (fun p => (f p).k) (fun p => (f p).v) (place + 1) q i) (fun m h s hh hs => by
    subst hs
    refine ⟨_, rfl, ?_⟩
    have hal := attG_len wd (fun p => (f p).k) (fun p => (f p).v) (place + 1) q h
    have hhw : (h + 1) * wd ≤ H * wd := Nat.mul_le_mul_right _ (by omega)
    have hsm : (h + 1) * wd = h * wd + wd := Nat.succ_mul _ _
    obtain ⟨q1, q2, q3, q4⟩ := patG wd H q h hq hh (by omega)
    have ew : IntKind.i64.wrap (((h * wd : Nat) : Int) + (wd : Int)) = (((h + 1) * wd : Nat) : Int) := by rw [W_in (by omega)]; omega
    have lq := part_len q wd h H hq hh
    show ref13_Attend.L1 N at_ (b, true) (wd : Int) q e (m + 1) _ ((h * wd : Nat) : Int) = _
    rw [ref13_Attend.L1, if_pos (by omega)]
    refine loop_c (fun m2 (s : List Int × List (List Int)) i => ref13_Attend.L2 N at_ (wd : Int) q e (attG wd (fun p => (f p).k) (fun p => (f p).v) (place + 1) q h) ((h * wd : Nat) : Int) (ref13_Attend.L1 N at_ (b, true) (wd : Int) q e m) m2 s.1 s.2 i) (fun p => (tabl p fun p => IntKind.i32.wrap (dots (part q wd h) (part (f p).k wd h) wd), tabl p fun p => part (f p).v wd h)) (place + 1) _ (fun m2 p hp2 => ?_) (fun m2 => ?_) N (by omega)
    · show ref13_Attend.L2 N at_ (wd : Int) q e _ _ _ (m2 + 1) (tabl p _) (tabl p _) (p : Int) = ref13_Attend.L2 N at_ (wd : Int) q e _ _ _ m2 (tabl (p + 1) _) (tabl (p + 1) _) _
      obtain ⟨h1, h2, h3⟩ := hf p (by omega)
      obtain ⟨p1, p2, p3, p4⟩ := patG wd H _ h h2 hh (by omega)
      obtain ⟨v1, v2, v3, v4⟩ := patG wd H _ h h3 hh (by omega)
      have lk := part_len _ wd h H h2 hh
      have hdot := dot_is (N := N) (part q wd h) (part (f p).k wd h) (by rw [lq, lk]) (by rw [lq]; omega) (by rw [lq]; omega)
      rw [lq] at hdot
      have hfi := rfind_is (N := N) e.2 ⟨at_.Request, at_.Layer, (p : Int)⟩ hl hl2
      rw [h1] at hfi
      obtain ⟨i, hi, ef, ek, ev⟩ := hfi
      rw [ref13_Attend.L2, if_pos (by omega), ef, Option.bind_some, chk_ok _ ⟨q1, q2, q3⟩, idx_get _ i hi, Option.bind_some, ek, chk_ok _ ⟨p1, p2, p3⟩, q4, p4, hdot, Option.bind_some, app_ok _ _ (by rw [tabl_len]; simp only [List.length_cons, List.length_nil]; omega), Option.bind_some, Option.bind_some, ev, chk_ok _ ⟨v1, v2, v3⟩, v4, app_ok _ _ (by rw [tabl_len]; simp only [List.length_cons, List.length_nil]; omega), Option.bind_some, W_succ p (by omega), tabl_succ, tabl_succ]
    · show ref13_Attend.L2 N at_ (wd : Int) q e _ _ _ (m2 + 1) (tabl (place + 1) _) (tabl (place + 1) _) ((place + 1 : Nat) : Int) = _
      have hmx := mix_is (N := N) (softS 64 0 (tabl (place + 1) fun p => IntKind.i32.wrap (dots (part q wd h) (part (f p).k wd h) wd))) (tabl (place + 1) fun p => part (f p).v wd h) wd (by rw [softS_len, tabl_len, tabl_len]) (by rw [tabl_len]; omega) (by rw [tabl_len]; omega) (fun i hi => by
        rw [tabl_len] at hi
        rw [tabl_getD _ _ _ _ hi]
        exact part_len _ wd h H (hf i (by omega)).2.2 hh) (by omega) (by omega)
      rw [ref13_Attend.L2, if_neg (by omega), softmax_is _ _ _ (by rw [tabl_len]; omega) (by omega), Option.bind_some, hmx, Option.bind_some, app_ok _ _ (by rw [hal, mixS_len]; omega), Option.bind_some, Option.bind_some, ew]
      rfl) N [] (by omega) rfl
  have e0 : ((0 * wd : Nat) : Int) = 0 := by simp
  rw [show ref13_Attend.L1 N at_ (b, true) (wd : Int) q e N [] 0 = ref13_Attend.L1 N at_ (b, true) (wd : Int) q e N [] ((0 * wd : Nat) : Int) by rw [e0]]
  refine Eq.trans e1 ?_
  subst hs
  show ref13_Attend.L1 N at_ (b, true) (wd : Int) q e (m' + 1) _ ((H * wd : Nat) : Int) = _
  rw [ref13_Attend.L1, if_neg (by omega)]
  show (ref04_Apply N b.O _).bind _ = _
  rw [apply_is hO hdw hb (by omega) _ (attG_len _ _ _ _ _ _), Option.bind_some]
end Go.Proofs.YtbfiagimgokccaaGreat
end
section
namespace Go.Proofs.YtbfiagimgokccaaGreat
open Go Go.Hp
set_option linter.unusedVariables false
set_option linter.unusedSimpArgs false
set_option linter.unusedSectionVars false
theorem rnorm_is {N : Nat} (hN : 200 < N) (g x : List Int) (hg : g.length = x.length) (hl : x.length ≤ 200) : ref05_Norm N g x = some (normS g x) := by
  unfold ref05_Norm
  refine loop_c (fun m (s : Int) i => ref05_Norm.L1 N g x m s i) (fun i => sqS x i) x.length _ (fun m i hi => ?_) (fun m => ?_) N (by omega)
  · show ref05_Norm.L1 N g x (m + 1) _ (i : Int) = ref05_Norm.L1 N g x m _ _
    rw [ref05_Norm.L1, if_pos (by omega), idx_d x 0 hi, Option.bind_some, near_is _ _ _ (by decide), Option.bind_some, Option.bind_some, W_succ i (by omega)]
    rfl
  · show ref05_Norm.L1 N g x (m + 1) _ (x.length : Int) = _
    rw [ref05_Norm.L1, if_neg (by omega)]
    refine loop_c (fun m (s : List Int) i => ref05_Norm.L2 N g x (sqS x x.length) m s i) (fun i => tabl i fun i => IntKind.i8.wrap (min (max (sh (IntKind.i64.wrap (IntKind.i64.wrap (min (max (IntKind.i64.wrap (x.getD i 0)) (-8388608)) 8388607 * IntKind.i64.wrap (invS (IntKind.u64.wrap (Int.tdiv (sqS x x.length) (IntKind.u64.wrap ((x.length : Nat) : Int)))))) * IntKind.i64.wrap (g.getD i 0))) 23) (-128)) 127)) x.length _ (fun m i hi => ?_) (fun m => ?_) N (by omega)
    · show ref05_Norm.L2 N g x _ (m + 1) _ (i : Int) = ref05_Norm.L2 N g x _ m _ _
      have hu : IntKind.u64.wrap ((x.length : Nat) : Int) = ((x.length : Nat) : Int) := wu_in (by omega)
      rw [ref05_Norm.L2, if_pos (by omega), chk_ok _ (by rw [hu]; omega), inverse_is (by omega), Option.bind_some, idx_d x 0 hi, Option.bind_some, near_is _ _ _ (by decide), Option.bind_some, idx_d g 0 (by omega), Option.bind_some, refshift_is (by omega) _ _ (W_range _), Option.bind_some, near_is _ _ _ (by decide), Option.bind_some, app_ok _ _ (by rw [tabl_len]; simp only [List.length_cons, List.length_nil]; omega), Option.bind_some, W_succ i (by omega), tabl_succ]
      rfl
    · show ref05_Norm.L2 N g x _ (m + 1) _ (x.length : Int) = _
      rw [ref05_Norm.L2, if_neg (by omega)]; rfl
def zR : S_cache_rows := ⟨[], []⟩
def qG (d : Dim) (H : Nat) (b : S_api_Block) (place : Nat) (x : List Int) : List Int := turnedS place d.wd (quantsS b.Q (normS b.First x) (H * d.wd) d.w) H
def kG (d : Dim) (H : Nat) (b : S_api_Block) (place : Nat) (x : List Int) : List Int := turnedS place d.wd (quantsS b.K (normS b.First x) (H * d.wd) d.w) H
def vG (d : Dim) (H : Nat) (b : S_api_Block) (x : List Int) : List Int := quantsS b.V (normS b.First x) (H * d.wd) d.w
def ansG (d : Dim) (H : Nat) (b : S_api_Block) (g : S_api_Spot → Option S_cache_rows) (req ly : Int) (place : Nat) (x : List Int) : List Int :=
  applyS b.O (attG d.wd (fun p => ((g ⟨req, ly, (p : Int)⟩).getD zR).k) (fun p => ((g ⟨req, ly, (p : Int)⟩).getD zR).v) (place + 1) (qG d H b place x) H) d.w (H * d.wd)
section
variable {d : Dim} (hd : DOK d) (hp0 : 0 < d.pl) {c : Cu} (hc : COK d c) {w : S_api_Weights} (hw : WOK d w)
include hd hp0 hc hw
theorem hwd16 : hpa d c * d.wd ≤ 16 ∧ 0 < hpa d c := by
  obtain ⟨h0, h1⟩ := hpa_pos hd hc
  have h2 : hpa d c ≤ d.h := by unfold hpa; exact Nat.div_le_self _ _
  have h3 : hpa d c * d.wd ≤ d.h * d.wd := Nat.mul_le_mul_right _ h2
  have := hd.w
  exact ⟨by omega, h0⟩
theorem kG_len (b : S_api_Block) (place : Nat) (x : List Int) : (kG d (hpa d c) b place x).length = hpa d c * d.wd := turnedS_len _ _ _ _ (quantsS_len _ _ _ _) hd.wd.2.1 _ (Nat.le_refl _)
theorem qG_len (b : S_api_Block) (place : Nat) (x : List Int) : (qG d (hpa d c) b place x).length = hpa d c * d.wd := turnedS_len _ _ _ _ (quantsS_len _ _ _ _) hd.wd.2.1 _ (Nat.le_refl _)
theorem vG_len (b : S_api_Block) (x : List Int) : (vG d (hpa d c) b x).length = hpa d c * d.wd := quantsS_len _ _ _ _
theorem battend_is {N : Nat} (hN : 300 < N) (s p : Nat) (hs : s < c.st) (hp : p < c.pa) (x : List Int) (hx : x.length = d.w) (req ly : Int) (b : S_api_Block) (hb : layS d w c s p ly = some b) (place : Nat) (hpl : place < d.pl) (m : S_cache_Store) (hm : SW (mget m.m) (hpa d c * d.wd) d.pl) :
    block_Attend N (takeS d w c s p) m ⟨req, ly, (place : Int)⟩ x = some (if putE m.room m.m.length (mget m.m) ⟨req, ly, (place : Int)⟩ (kG d (hpa d c) b place x) (vG d (hpa d c) b x) = 0 then (ansG d (hpa d c) b (mget (putM m ⟨req, ly, (place : Int)⟩ (kG d (hpa d c) b place x) (vG d (hpa d c) b x)).m) req ly place x, 0, putM m ⟨req, ly, (place : Int)⟩ (kG d (hpa d c) b place x) (vG d (hpa d c) b x))
      else ([], putE m.room m.m.length (mget m.m) ⟨req, ly, (place : Int)⟩ (kG d (hpa d c) b place x) (vG d (hpa d c) b x), putM m ⟨req, ly, (place : Int)⟩ (kG d (hpa d c) b place x) (vG d (hpa d c) b x))) := by
  have hpl2 := hd.pl; have hww := dw16 hd; have hh := hd.h; have hwd := hd.wd
  obtain ⟨h16, hH0⟩ := hwd16 hd hp0 hc hw
  obtain ⟨hB, l0, l1⟩ := layS_ok hd hp0 hc hw s p hs hp ly b hb
  have hdw : d.w = d.h * d.wd := rfl
  have hw0 : 0 < d.w := by rw [hdw]; exact Nat.mul_pos hh.1 hwd.1
  have hH : hpa d c ≤ 16 := Nat.le_trans (Nat.le_mul_of_pos_right _ hwd.1) h16
  have hal : (normS b.First x).length = d.w := by rw [normS_len, hx]
  unfold block_Attend
  show (block_fits N (takeS d w c s p) x).bind _ = _
  rw [bfits_is hd hp0 hc hw (by omega) s p hs hp x, Option.bind_some, decide_eq_true hx, if_pos rfl]
  show (block_layer (takeS d w c s p) ly).bind _ = _
  rw [blayer_is hd hp0 hc hw s p hs hp ly, hb, Option.bind_some, if_pos rfl]
  show (if ((place : Nat) : Int) < 0 then _ else if ((place : Nat) : Int) ≥ (d.pl : Int) then _ else chk ((d.h : Int) ≠ 0) ((some (IntKind.i64.wrap (Int.tdiv ((d.w : Nat) : Int) (d.h : Int)))).bind _)) = _
  rw [if_neg (by omega), if_neg (by omega), chk_ok _ (by omega), ewd13 hd, Option.bind_some, pnorm_is (by omega) b.First x (by rw [hB.first, hx]) (by omega) (by omega), Option.bind_some]
  show (block_quants N b.Q (normS b.First x)).bind _ = _
  rw [pquants_is hB.q (by omega) (by omega) (by omega) _ hal, Option.bind_some, pturned_is (by omega) place d.wd (hpa d c) (by omega) _ (quantsS_len _ _ _ _) (by omega) hwd.1 hwd.2.1 (by omega), Option.bind_some]
  show (block_quants N b.K (normS b.First x)).bind _ = _
  rw [pquants_is hB.k (by omega) (by omega) (by omega) _ hal, Option.bind_some, pturned_is (by omega) place d.wd (hpa d c) (by omega) _ (quantsS_len _ _ _ _) (by omega) hwd.1 hwd.2.1 (by omega), Option.bind_some]
  show (block_quants N b.V (normS b.First x)).bind _ = _
  rw [pquants_is hB.v (by omega) (by omega) (by omega) _ hal, Option.bind_some]
  show (cache_Store_Put N m ⟨req, ly, (place : Int)⟩ (kG d (hpa d c) b place x) (vG d (hpa d c) b x)).bind _ = _
  have lk := kG_len hd hp0 hc hw b place x
  have lv := vG_len hd hp0 hc hw b x
  have lq := qG_len hd hp0 hc hw b place x
  rw [put_is m _ _ _ (by show (place : Int) ≤ 1000000; omega) (by omega) (by omega) (by omega) (fun t r e => by have := hm.len t r e; omega), Option.bind_some]
  generalize hk : kG d (hpa d c) b place x = k at *
  generalize hv : vG d (hpa d c) b x = v at *
  by_cases h0 : putE m.room m.m.length (mget m.m) ⟨req, ly, (place : Int)⟩ k v = 0
  · rw [if_pos h0]
    show (if putE m.room m.m.length (mget m.m) ⟨req, ly, (place : Int)⟩ k v ≠ 0 then _ else (cache_Store_Line N (putM m ⟨req, ly, (place : Int)⟩ k v) req ly).bind _) = _
    rw [if_neg (fun q => q h0), h0]
    have hl := laid_m m ⟨req, ly, (place : Int)⟩ k v
    have hsw := hm.put hl lk lv (by show (place : Int) < (d.pl : Int); omega)
    generalize putM m ⟨req, ly, (place : Int)⟩ k v = m' at *
    obtain ⟨n, n1, n2, n3⟩ := hsw.ends req ly
    have hat := hl.at h0
    have hpn : place < n := by
      rcases Nat.lt_or_ge place n with q | q
      · exact q
      · obtain ⟨r, e⟩ := hsw.all req ly place ⟨_, hat⟩ n q
        rw [n3] at e; cases e
    have hf : ∀ p : Nat, p < n → mget m'.m ⟨req, ly, (p : Int)⟩ = some ((mget m'.m ⟨req, ly, (p : Int)⟩).getD zR) ∧ ((mget m'.m ⟨req, ly, (p : Int)⟩).getD zR).k.length = hpa d c * d.wd ∧ ((mget m'.m ⟨req, ly, (p : Int)⟩).getD zR).v.length = hpa d c * d.wd := fun p hp => by
      obtain ⟨r, e⟩ := n2 p hp
      rw [e, Option.getD_some]
      exact ⟨rfl, hsw.len _ _ e⟩
    rw [line_is m' req ly n (by omega) (by omega) (fun p => (mget m'.m ⟨req, ly, (p : Int)⟩).getD zR) (fun p hp => (hf p hp).1) n3 (fun p hp => by have := (hf p hp).2; omega), Option.bind_some]
    exact bheads_is hN (hpa d c) d.wd d.w hwd.1 (by omega) (by omega) place (by omega) ⟨req, ly, (place : Int)⟩ rfl b hB.o (qG d (hpa d c) b place x) lq (0, m') _ _ (by rw [tabl_len]; exact hpn) (by rw [tabl_len]; exact hpn) (fun p => (mget m'.m ⟨req, ly, (p : Int)⟩).getD zR) (fun p hp => ⟨tabl_getD _ _ _ _ (by omega), tabl_getD _ _ _ _ (by omega), (hf p (by omega)).2⟩)
  · rw [if_neg h0]
    show (if putE m.room m.m.length (mget m.m) ⟨req, ly, (place : Int)⟩ k v ≠ 0 then _ else _) = _
    rw [if_pos h0]
theorem rattend_is {N : Nat} (hN : 300 < N) (s p : Nat) (hs : s < c.st) (hp : p < c.pa) (x : List Int) (hx : x.length = d.w) (req ly : Int) (b : S_api_Block) (hb : layS d w c s p ly = some b) (place : Nat) (hpl : place < d.pl) (m : S_ref12_Store) (hm : SW (rget m.L) (hpa d c * d.wd) d.pl) (hl : m.L.length + 1 < N) (hl2 : m.L.length < 5000) :
    ref13_Attend N (takeS d w c s p) m ⟨req, ly, (place : Int)⟩ x = some (if putE m.Room m.L.length (rget m.L) ⟨req, ly, (place : Int)⟩ (kG d (hpa d c) b place x) (vG d (hpa d c) b x) = 0 then (ansG d (hpa d c) b (rget (putR m ⟨req, ly, (place : Int)⟩ (kG d (hpa d c) b place x) (vG d (hpa d c) b x)).L) req ly place x, 0, putR m ⟨req, ly, (place : Int)⟩ (kG d (hpa d c) b place x) (vG d (hpa d c) b x))
      else ([], putE m.Room m.L.length (rget m.L) ⟨req, ly, (place : Int)⟩ (kG d (hpa d c) b place x) (vG d (hpa d c) b x), putR m ⟨req, ly, (place : Int)⟩ (kG d (hpa d c) b place x) (vG d (hpa d c) b x))) := by
  have hpl2 := hd.pl; have hww := dw16 hd; have hh := hd.h; have hwd := hd.wd
  obtain ⟨h16, hH0⟩ := hwd16 hd hp0 hc hw
  obtain ⟨hB, l0, l1⟩ := layS_ok hd hp0 hc hw s p hs hp ly b hb
  have hdw : d.w = d.h * d.wd := rfl
  have hw0 : 0 < d.w := by rw [hdw]; exact Nat.mul_pos hh.1 hwd.1
  have hH : hpa d c ≤ 16 := Nat.le_trans (Nat.le_mul_of_pos_right _ hwd.1) h16
  have hal : (normS b.First x).length = d.w := by rw [normS_len, hx]
  unfold ref13_Attend
  show (ref13_Layer (takeS d w c s p) ly).bind _ = _
  rw [rlayer_is hd hp0 hc hw s p hs hp ly, hb, Option.bind_some, if_pos rfl]
  show (if ((place : Nat) : Int) < 0 then _ else if ((place : Nat) : Int) ≥ (d.pl : Int) then _ else chk ((d.h : Int) ≠ 0) ((some (IntKind.i64.wrap (Int.tdiv ((d.w : Nat) : Int) (d.h : Int)))).bind _)) = _
  rw [if_neg (by omega), if_neg (by omega), chk_ok _ (by omega), ewd13 hd, Option.bind_some]
  show (ref05_Norm N b.First x).bind _ = _
  rw [rnorm_is (by omega) b.First x (by rw [hB.first, hx]) (by omega), Option.bind_some]
  show (ref13_quants N b.Q (normS b.First x)).bind _ = _
  rw [rquants_is hB.q (by omega) (by omega) (by omega) _ hal, Option.bind_some, rturned_is (by omega) place d.wd (hpa d c) (by omega) _ (quantsS_len _ _ _ _) (by omega) hwd.1 hwd.2.1 (by omega), Option.bind_some]
  show (ref13_quants N b.K (normS b.First x)).bind _ = _
  rw [rquants_is hB.k (by omega) (by omega) (by omega) _ hal, Option.bind_some, rturned_is (by omega) place d.wd (hpa d c) (by omega) _ (quantsS_len _ _ _ _) (by omega) hwd.1 hwd.2.1 (by omega), Option.bind_some]
  show (ref13_quants N b.V (normS b.First x)).bind _ = _
  rw [rquants_is hB.v (by omega) (by omega) (by omega) _ hal, Option.bind_some]
  show (ref12_Store_Put N m ⟨req, ly, (place : Int)⟩ (kG d (hpa d c) b place x) (vG d (hpa d c) b x)).bind _ = _
  have lk := kG_len hd hp0 hc hw b place x
  have lv := vG_len hd hp0 hc hw b x
  have lq := qG_len hd hp0 hc hw b place x
  rw [rput_is m _ _ _ (by show (place : Int) ≤ 1000000; omega) (by omega) (by omega) (by omega) (by omega) (by omega) (fun t r e => by have := hm.len t r e; omega), Option.bind_some]
  generalize hk : kG d (hpa d c) b place x = k at *
  generalize hv : vG d (hpa d c) b x = v at *
  by_cases h0 : putE m.Room m.L.length (rget m.L) ⟨req, ly, (place : Int)⟩ k v = 0
  · rw [if_pos h0]
    show (if putE m.Room m.L.length (rget m.L) ⟨req, ly, (place : Int)⟩ k v ≠ 0 then _ else _) = _
    rw [if_neg (fun q => q h0), h0]
    have hlr := laid_r m ⟨req, ly, (place : Int)⟩ k v
    have hsw := hm.put hlr lk lv (by show (place : Int) < (d.pl : Int); omega)
    have hlen : (putR m ⟨req, ly, (place : Int)⟩ k v).L.length ≤ m.L.length + 1 := by
      unfold putR
      split
      · rw [len_app1]; exact Nat.le_refl _
      · omega
    generalize putR m ⟨req, ly, (place : Int)⟩ k v = m' at *
    have hat := hlr.at h0
    have hf : ∀ p : Nat, p ≤ place → rget m'.L ⟨req, ly, (p : Int)⟩ = some ((rget m'.L ⟨req, ly, (p : Int)⟩).getD zR) ∧ ((rget m'.L ⟨req, ly, (p : Int)⟩).getD zR).k.length = hpa d c * d.wd ∧ ((rget m'.L ⟨req, ly, (p : Int)⟩).getD zR).v.length = hpa d c * d.wd := fun p hp => by
      obtain ⟨r, e⟩ := hsw.all req ly place ⟨_, hat⟩ p hp
      rw [e, Option.getD_some]
      exact ⟨rfl, hsw.len _ _ e⟩
    exact rheads_is hN (hpa d c) d.wd d.w hwd.1 (by omega) (by omega) place (by omega) ⟨req, ly, (place : Int)⟩ rfl b hB.o (qG d (hpa d c) b place x) lq (0, m') (by show m'.L.length < N; omega) (by show m'.L.length ≤ 5000; omega) (fun p => (rget m'.L ⟨req, ly, (p : Int)⟩).getD zR) hf
  · rw [if_neg h0]
    show (if putE m.Room m.L.length (rget m.L) ⟨req, ly, (place : Int)⟩ k v ≠ 0 then _ else _) = _
    rw [if_pos h0]
theorem ansG_congr (H : Nat) (b : S_api_Block) (g g' : S_api_Spot → Option S_cache_rows) (req ly : Int) (place : Nat) (x : List Int) (h : ∀ t, t.Request = req → g t = g' t) : ansG d H b g req ly place x = ansG d H b g' req ly place x := by
  unfold ansG
  have : (fun p : Nat => ((g ⟨req, ly, (p : Int)⟩).getD zR)) = fun p : Nat => ((g' ⟨req, ly, (p : Int)⟩).getD zR) := funext fun p => by rw [h _ rfl]
  have e1 : (fun p : Nat => ((g ⟨req, ly, (p : Int)⟩).getD zR).k) = fun p : Nat => ((g' ⟨req, ly, (p : Int)⟩).getD zR).k := funext fun p => by rw [h _ rfl]
  have e2 : (fun p : Nat => ((g ⟨req, ly, (p : Int)⟩).getD zR).v) = fun p : Nat => ((g' ⟨req, ly, (p : Int)⟩).getD zR).v := funext fun p => by rw [h _ rfl]
  rw [e1, e2]
end
end Go.Proofs.YtbfiagimgokccaaGreat
end
section
namespace Go.Proofs.YtbfiagimgokccaaGreat
open Go Go.Hp
set_option linter.unusedVariables false
set_option linter.unusedSimpArgs false
set_option linter.unusedSectionVars false
theorem putM_room (m : S_cache_Store) (s : S_api_Spot) (k v : List Int) : (putM m s k v).room = m.room := by unfold putM; split <;> rfl
theorem putR_room (m : S_ref12_Store) (s : S_api_Spot) (k v : List Int) : (putR m s k v).Room = m.Room := by unfold putR; split <;> rfl
theorem putR_len (m : S_ref12_Store) (s : S_api_Spot) (k v : List Int) : (putR m s k v).L.length ≤ m.L.length + 1 := by
  unfold putR
  split
  · rw [len_app1]; exact Nat.le_refl _
  · omega
end Go.Proofs.YtbfiagimgokccaaGreat
end
