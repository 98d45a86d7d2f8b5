/- What the law needs. -/
import Derived.Test.YtbfiagimgokccaaGreatMBlockJoinsj
import Derived.Test.YtbfiagimgokccaaGreatMBlockJoinsa
section
set_option maxHeartbeats 8000000
namespace Go.Proofs.YtbfiagimgokccaaGreat
open Go Go.RowKit Go.Hp
set_option linter.unusedVariables false
set_option linter.unusedSimpArgs false
set_option maxRecDepth 100000

theorem bd_132_ {ρ : Operand → Value} {w : World} {dst : Option Nat} {ty : TypeId} {pos : String} {after : Array Edge} {g : Option (Nat × Bool)}    :
    (execOp ρ ⟨dst, .build 132 #[], ty, pos, after, g⟩).run Tryz.prog w = .ok (.value (.agg #[(.slice none 0 0), (.slice none 0 0)])) w := by
  simp [execOp, Instr.build, Instr.fill, Tryz.zeroValue132, Tryz.runUnderlying132, Tryz.sizeOf110, Value.cells]

def ref08_Run_One.J5 (j254 : Int) (k4 : (List Int) → Int → Option ((List Int) × S_ref08_Run)) (j269 : (List Int)) : Option ((List Int) × S_ref08_Run) :=
  k4 j269 (IntKind.i64.wrap (j254 + 1))

def ref08_Run_One.L4 (N : Nat) (j49 : Int) (y86 : S_api_Block) (j216 : S_ref08_Run) (r231 : ((List Int))) (r244 : ((List Int))) (k2 : S_ref08_Run → (List Int) → Int → Option ((List Int) × S_ref08_Run)) : Nat → (List Int) → Int → Option ((List Int) × S_ref08_Run)
  | 0, _, _ => none
  | m4 + 1, j250, j254 =>
    if j254 < ((r244.length : Nat) : Int) then
      (idx j250 j254).bind fun y273 =>
      if y273 < 0 then
        (idx j250 j254).bind fun y283 =>
        ref08_Run_One.J5 j254 (ref08_Run_One.L4 N j49 y86 j216 r231 r244 k2 m4) (j250.set (j254).toNat 0)
      else
        ref08_Run_One.J5 j254 (ref08_Run_One.L4 N j49 y86 j216 r231 r244 k2 m4) j250
    else
      (ref04_Apply N (⟨y86.Down.Rows, y86.Down.Cols, y86.Down.V⟩ : S_api_Mat) j250).bind fun r257 =>
      (ref05_Join N r231 r257.1 1 4).bind fun r263 =>
      k2 j216 r263 (IntKind.i64.wrap (j49 + 1))

def ref08_Run_One.L6 (N : Nat) (x0 : S_ref08_Run) (e16 : Int) (j49 : Int) (r127 : ((List Int))) (j216 : S_ref08_Run) (j217 : (List Int)) (j221 : Int) (k3 : S_ref08_Run → (List Int) → Int → Option ((List Int) × S_ref08_Run)) : Nat → (List Int) → (List (List Int)) → Int → Option ((List Int) × S_ref08_Run)
  | 0, _, _, _ => none
  | m6 + 1, j291, j295, j299 =>
    if j299 ≤ ((x0.L.length : Nat) : Int) then
      chk (0 ≤ (IntKind.i64.wrap (j221 * e16)) ∧ (IntKind.i64.wrap (j221 * e16)) ≤ (IntKind.i64.wrap ((IntKind.i64.wrap (j221 + 1)) * e16)) ∧ (IntKind.i64.wrap ((IntKind.i64.wrap (j221 + 1)) * e16)) ≤ ((r127.length : Nat) : Int)) <|
      (idx j216.L j299).bind fun y339 =>
      (idx y339.K j49).bind fun y358 =>
      chk (0 ≤ (IntKind.i64.wrap (j221 * e16)) ∧ (IntKind.i64.wrap (j221 * e16)) ≤ (IntKind.i64.wrap ((IntKind.i64.wrap (j221 + 1)) * e16)) ∧ (IntKind.i64.wrap ((IntKind.i64.wrap (j221 + 1)) * e16)) ≤ ((y358.length : Nat) : Int)) <|
      (ref01_Dot N ((r127.take ((IntKind.i64.wrap ((IntKind.i64.wrap (j221 + 1)) * e16))).toNat).drop ((IntKind.i64.wrap (j221 * e16))).toNat) ((y358.take ((IntKind.i64.wrap ((IntKind.i64.wrap (j221 + 1)) * e16))).toNat).drop ((IntKind.i64.wrap (j221 * e16))).toNat)).bind fun r376 =>
      (app j291 ([r376])).bind fun z380 =>
      (idx y339.V j49).bind fun y391 =>
      chk (0 ≤ (IntKind.i64.wrap (j221 * e16)) ∧ (IntKind.i64.wrap (j221 * e16)) ≤ (IntKind.i64.wrap ((IntKind.i64.wrap (j221 + 1)) * e16)) ∧ (IntKind.i64.wrap ((IntKind.i64.wrap (j221 + 1)) * e16)) ≤ ((y391.length : Nat) : Int)) <|
      (app j295 ([((y391.take ((IntKind.i64.wrap ((IntKind.i64.wrap (j221 + 1)) * e16))).toNat).drop ((IntKind.i64.wrap (j221 * e16))).toNat)])).bind fun z411 =>
      (ref08_Run_One.L6 N x0 e16 j49 r127 j216 j217 j221 k3 m6) z380 z411 (IntKind.i64.wrap (j299 + 1))
    else
      (ref05_Softmax N 64 0 j291).bind fun r304 =>
      (ref05_Mix N r304 j295).bind fun r310 =>
      (app j217 r310.1).bind fun z316 =>
      k3 j216 z316 (IntKind.i64.wrap (j221 + 1))

def ref08_Run_One.L3 (N : Nat) (x0 : S_ref08_Run) (e16 : Int) (j45 : (List Int)) (j49 : Int) (y86 : S_api_Block) (r127 : ((List Int))) (k2 : S_ref08_Run → (List Int) → Int → Option ((List Int) × S_ref08_Run)) : Nat → S_ref08_Run → (List Int) → Int → Option ((List Int) × S_ref08_Run)
  | 0, _, _, _ => none
  | m3 + 1, j216, j217, j221 =>
    if j221 < x0.W.Shape.Heads then
      ref08_Run_One.L6 N x0 e16 j49 r127 j216 j217 j221 (ref08_Run_One.L3 N x0 e16 j45 j49 y86 r127 k2 m3) N ([]) ([]) 0
    else
      (ref04_Apply N (⟨y86.O.Rows, y86.O.Cols, y86.O.V⟩ : S_api_Mat) j217).bind fun r225 =>
      (ref05_Join N j45 r225.1 1 4).bind fun r231 =>
      (ref05_Norm N y86.Second r231).bind fun r238 =>
      (ref08_quants N (⟨y86.Up.Rows, y86.Up.Cols, y86.Up.V⟩ : S_api_Mat) r238).bind fun r244 =>
      ref08_Run_One.L4 N j49 y86 j216 r231 r244 k2 N r244 0

def ref08_Run_One.L2 (N : Nat) (x0 : S_ref08_Run) (e16 : Int) : Nat → S_ref08_Run → (List Int) → Int → Option ((List Int) × S_ref08_Run)
  | 0, _, _, _ => none
  | m2 + 1, j44, j45, j49 =>
    if j49 < x0.W.Shape.Layers then
      (idx j44.W.Blocks j49).bind fun y86 =>
      (ref05_Norm N y86.First j45).bind fun r115 =>
      (ref08_quants N (⟨y86.Q.Rows, y86.Q.Cols, y86.Q.V⟩ : S_api_Mat) r115).bind fun r121 =>
      (ref08_turned N ((x0.L.length : Nat) : Int) e16 r121).bind fun r127 =>
      (idx j44.L ((x0.L.length : Nat) : Int)).bind fun y133 =>
      (ref08_quants N (⟨y86.K.Rows, y86.K.Cols, y86.K.V⟩ : S_api_Mat) r115).bind fun r158 =>
      (ref08_turned N ((x0.L.length : Nat) : Int) e16 r158).bind fun r164 =>
      (app y133.K ([r164])).bind fun z172 =>
      (ref08_quants N (⟨y86.V.Rows, y86.V.Cols, y86.V.V⟩ : S_api_Mat) r115).bind fun r193 =>
      (app y133.V ([r193])).bind fun z201 =>
      ref08_Run_One.L3 N x0 e16 j45 j49 y86 r127 (ref08_Run_One.L2 N x0 e16 m2) N (⟨j44.W, (j44.L.set (((x0.L.length : Nat) : Int)).toNat (⟨z172, z201⟩ : S_ref08_Kept))⟩ : S_ref08_Run) ([]) 0
    else
      (ref05_Norm N j44.W.Last j45).bind fun r64 =>
      (ref04_Apply N (⟨j44.W.Head.Rows, j44.W.Head.Cols, j44.W.Head.V⟩ : S_api_Mat) r64).bind fun r70 =>
      some (r70.1, j44)

def ref08_Run_One.L1 (N : Nat) (x0 : S_ref08_Run) (x1 : Int) (e16 : Int) : Nat → (List Int) → Int → Option ((List Int) × S_ref08_Run)
  | 0, _, _ => none
  | m1 + 1, j17, j21 =>
    if j21 < x0.W.Shape.Width then
      (idx x0.W.Embed.V (IntKind.i64.wrap ((IntKind.i64.wrap (x1 * x0.W.Shape.Width)) + j21))).bind fun y428 =>
      (app j17 ([(IntKind.i32.wrap (16 * (IntKind.i32.wrap y428)))])).bind fun z439 =>
      (ref08_Run_One.L1 N x0 x1 e16 m1) z439 (IntKind.i64.wrap (j21 + 1))
    else
      (app x0.L ([(⟨[], []⟩ : S_ref08_Kept)])).bind fun z37 =>
      ref08_Run_One.L2 N x0 e16 N (⟨x0.W, z37⟩ : S_ref08_Run) j17 0

def ref08_Run_One (N : Nat) (x0 : S_ref08_Run) (x1 : Int) : Option ((List Int) × S_ref08_Run) :=
  chk (x0.W.Shape.Heads ≠ 0) <|
  (some (IntKind.i64.wrap (Int.tdiv x0.W.Shape.Width x0.W.Shape.Heads))).bind fun e16 =>
  ref08_Run_One.L1 N x0 x1 e16 N ([]) 0

theorem ref08_Run_One_any {N : Nat} {b0 : Nat} {x0 : S_ref08_Run} {x1 : Int} {Fr : List HP} {w : World} {r : (List Int) × S_ref08_Run} {K : Value → World → Prop}  (hc : Ctx w (S_ref08_Run.hp b0 x0 :: Fr)) (hp : ref08_Run_One N x0 x1 = some r)
    (k : ∀ (a445 : Option Addr) (n446 : Nat) (q447 : Nat) w', Ctx w' (Own (pInt .i32) 21 (.slice a445 n446 q447) r.1 :: S_ref08_Run.hp b0 r.2 :: Fr) → K (.slice a445 n446 q447) w') : Calls Tryz.prog 21 #[pt b0 0, .int .i64 x1] w (Ret K) := by
 unfold ref08_Run_One at hp; refine Center2 F21 M21 rfl rfl ?_; refine Wseq (Wreg ?_); refine az (.slice none 0 0) <| rn (qn (Wseq (Wreg ?_))); refine mz (pt b0 0) <| sz (nl rfl) ?_; refine sz (v := pt b0 0) (fax 0 rfl U77 rfl Z35 rfl rfl rfl) ?_; refine sz (v := pt b0 0) (fax 0 rfl U35 rfl Z29 rfl rfl rfl) ?_; replace hc := S_ref08_Run.uf hc; obtain ⟨a1, q2, a3, q4, a5, q6, a7, q8, a9, q10, hc⟩ := hc; refine sz (v := .agg (S_api_Shape.cz x0.W.Shape).toArray) (ldg rfl G29 Z29 rfl (Ctx.cells hc (k := 0) rfl rfl 0 (vs := (S_api_Shape.cz x0.W.Shape)) rfl)) ?_; refine rsE (Ctx.allocOp (cs := [.int .i64 0, .int .i64 0, .int .i64 0, .int .i64 0, .int .i64 0, .int .i64 0]) hc V29 rfl) rfl ?_; clear hc; rintro _ w13 ⟨b11, rfl, hc⟩; refine ruE (Ctx.putAgg hc (k := 0) rfl rfl (vs := (S_api_Shape.cz x0.W.Shape)) (cs' := (S_api_Shape.cz x0.W.Shape)) rfl rfl rfl Z29 rfl rfl rfl) rfl ?_; clear hc; rintro w14 hc; replace hc := Ctx.n0 hc; refine rn (qn (Wseq (Wreg ?_))); refine fl 1 U29 Z3 G3 (Ctx.cell hc (k := 0) rfl rfl rfl) rfl rfl rfl rfl rfl rfl rfl rfl ?_; refine fl 2 U29 Z3 G3 (Ctx.cell hc (k := 0) rfl rfl rfl) rfl rfl rfl rfl rfl rfl rfl rfl ?_; replace hp := chk_some hp; obtain ⟨hg15, hp⟩ := hp; refine sz (quw rfl rfl hg15) ?_; replace hp := bind_some hp; obtain ⟨e16, he16, hp⟩ := hp; injection he16 with he16; refine sz (v := .int .i64 e16) (av (v := .int .i64 e16) (by rw [← he16]; rfl)) ?_; refine rn (qn (Wseq (Wreg ?_))); refine mz (pt b0 0) <| sz (nl rfl) ?_; refine fl 14 U77 Z75 G75 (Ctx.cell hc (k := 1) rfl rfl rfl) rfl rfl rfl rfl rfl rfl rfl rfl ?_; refine sz (ln rfl U75) ?_; refine az (.int .i64 ((x0.L.length : Nat) : Int)) <| rn (qn (Wseq (Wreg ?_))); refine az (.slice none 0 0) <| rn (qn (Wseq (Wseq (Wreg ?_)))); refine az (.int .i64 0) <| rn (qn (Wblk ?_)); replace hc := Ctx.p6 (Ctx.p6 (Ctx.p6 (Ctx.p6 (Ctx.p6 (Ctx.p6 hc))))); replace hc := S_ref08_Run.fd (x := x0) hc; replace hc := hc.nilOwn (pInt .i32) 21; replace hc := Ctx.p2 (Ctx.p1 hc); refine Wloop [8, 9, 44, 45, 46, 47, 48, 49, 50, 51, 52, 53, 54, 55, 56, 57, 58, 59, 60, 61, 62, 63, 64, 65, 66, 67, 68] [8, 9] (fun m vs w' => ∃ j17 : (List Int), ∃ j21 : Int, ∃ a18 : Option Addr, ∃ n19 : Nat, ∃ q20 : Nat, vs = [.slice a18 n19 q20, .int .i64 j21] ∧ ref08_Run_One.L1 N x0 x1 e16 m j17 j21 = some r ∧ Ctx w' (B b11 (S_api_Shape.cz x0.W.Shape) 29 :: S_ref08_Run.hp b0 x0 :: Own (pInt .i32) 21 (.slice a18 n19 q20) j17 :: Fr)) N ?_ ?_
 · exact ⟨[], 0, none, 0, 0, rfl, hp, hc⟩
 · clear hp hc; intro m vs u w22 hJ; obtain ⟨j17, j21, a18, n19, q20, rfl, hp, hc⟩ := hJ; obtain rfl := hc.rz 2 reads_own; rcases m with _ | m1
   · cases (show none = some r from hp)
   rw [ref08_Run_One.L1] at hp; refine Wseq (Wseq (Wreg ?_)); refine mz (.int .i64 j21) ?_; refine fl 1 U29 Z3 G3 (Ctx.cell hc (k := 0) rfl rfl rfl) rfl rfl rfl rfl rfl rfl rfl rfl ?_; refine sz (lt' rfl rfl) ?_; refine rn (qn ?_); cases hb24 : (decide (j21 < x0.W.Shape.Width))
   · replace hp := gneg hp (of_decide_eq_false hb24); refine Wcf rfl (Wexit (qx (qx (be (qn (Wseq (Wreg ?_))))))); refine mz (pt b0 0) <| mz (pt b0 0) <| sz (nl rfl) <| sz (v := pt b0 14) (fax 14 rfl U77 rfl Z75 rfl rfl rfl) ?_; replace hc := Ctx.p1 hc; replace hc := S_ref08_Run.uf hc; obtain ⟨a25, q26, a27, q28, a29, q30, a31, q32, a33, q34, hc⟩ := hc; refine sz (ld rfl G75 (Ctx.cell hc (k := 0) rfl rfl rfl)) ?_; refine sz (v := .agg #[.slice none 0 0, .slice none 0 0]) (bd_132_ ) ?_; replace hc := hc.nilOwn (pRo (pInt .i8)) 30; replace hc := hc.nilOwn (pRo (pInt .i8)) 30; replace hc := Ctx.p1 hc; replace hc : Ctx w22 (S_ref08_Kept.vp.r [.slice none 0 0, .slice none 0 0] (⟨[], []⟩ : S_ref08_Kept) :: B b0 (S_ref08_Run.cz x0 a25 q26 a27 q28 a29 q30 a31 q32 a33 q34) 77 :: hR .i8 a25 q26 x0.W.Embed.V :: hS S_api_Block.pr a27 q28 x0.W.Blocks :: hR .i8 a29 q30 x0.W.Last :: hR .i8 a31 q32 x0.W.Head.V :: OwnV S_ref08_Kept.vp 132 (.slice a33 x0.L.length q34) x0.L :: B b11 (S_api_Shape.cz x0.W.Shape) 29 :: oR .i32 21 a18 q20 j17 :: Fr) := Ctx.exB _ _ (Ctx.exB _ _ (Ctx.sepB (Ctx.sepB (Ctx.puB ⟨rfl, rfl⟩ hc)))); replace hc := Ctx.anyB (m := 2) [.slice none 0 0, .slice none 0 0] rfl rfl hc; refine rsE (Ctx.builtOp (css := [[.slice none 0 0, .slice none 0 0]]) (xs := ([[.slice none 0 0, .slice none 0 0]] : List (List Value))) (E := pAny 2) hc U75 Z132 V132 rfl rfl rfl rfl rfl rfl rfl rfl) rfl ?_; clear hc; rintro _ w36 ⟨a35, rfl, hc⟩; replace hc : Ctx w36 (OwnV S_ref08_Kept.vp 132 (.slice a35 1 1) ([(⟨[], []⟩ : S_ref08_Kept)]) :: B b0 (S_ref08_Run.cz x0 a25 q26 a27 q28 a29 q30 a31 q32 a33 q34) 77 :: hR .i8 a25 q26 x0.W.Embed.V :: hS S_api_Block.pr a27 q28 x0.W.Blocks :: hR .i8 a29 q30 x0.W.Last :: hR .i8 a31 q32 x0.W.Head.V :: OwnV S_ref08_Kept.vp 132 (.slice a33 x0.L.length q34) x0.L :: B b11 (S_api_Shape.cz x0.W.Shape) 29 :: oR .i32 21 a18 q20 j17 :: Fr) := Ctx.ownV1 hc; replace hp := bind_some hp; obtain ⟨z37, hz37, hp⟩ := hp; obtain ⟨hg38, e39⟩ := app_some hz37; replace hc := Ctx.p6 hc; refine rsE (Ctx.appendV hc U75 (i := Tryz.t132) rfl rfl rfl rfl rfl rfl rfl rfl hg38) rfl ?_; clear hc; rintro _ w42 ⟨a40, q41, rfl, hc⟩; rw [← e39] at hc ⊢; refine sz (nl rfl) ?_; refine sz (v := pt b0 14) (fax 14 rfl U77 rfl Z75 rfl rfl rfl) ?_; refine ruE (Ctx.putOp hc (k := 1) rfl rfl (v := .slice a40 z37.length q41) (cs' := [.int .i64 x0.W.Shape.Layers, .int .i64 x0.W.Shape.Width, .int .i64 x0.W.Shape.Heads, .int .i64 x0.W.Shape.Inner, .int .i64 x0.W.Shape.Vocab, .int .i64 x0.W.Shape.Places, .int .i64 x0.W.Embed.Rows, .int .i64 x0.W.Embed.Cols, .slice a25 x0.W.Embed.V.length q26, .slice a27 x0.W.Blocks.length q28, .slice a29 x0.W.Last.length q30, .int .i64 x0.W.Head.Rows, .int .i64 x0.W.Head.Cols, .slice a31 x0.W.Head.V.length q32, .slice a40 z37.length q41]) rfl rfl rfl Z75 rfl rfl rfl) rfl ?_; clear hc; rintro w43 hc; replace hc := Ctx.n1 hc; refine rn (qn (Wseq (Wseq (Wreg ?_)))); refine az (.int .i64 0) <| rn (qn (Wblk ?_)); replace hc := Ctx.p5 (Ctx.p5 (Ctx.p5 (Ctx.p5 (Ctx.p5 hc)))); replace hc := S_ref08_Run.fd (x := (⟨x0.W, z37⟩ : S_ref08_Run)) hc; refine Wloop (8 :: 10 :: 11 :: 12 :: 13 :: 14 :: 15 :: 16 :: 17 :: 18 :: 19 :: 20 :: 21 :: 22 :: 23 :: 24 :: 25 :: 26 :: 79 :: 80 :: 81 :: 82 :: 83 :: 84 :: 85 :: 86 :: 87 :: 88 :: 89 :: 90 :: 91 :: 92 :: 93 :: 94 :: 95 :: 96 :: 97 :: 98 :: 99 :: 100 :: 101 :: 102 :: 103 :: 104 :: 105 :: 106 :: 107 :: 108 :: 109 :: 110 :: 111 :: 112 :: 113 :: 114 :: 115 :: 116 :: 117 :: 118 :: 119 :: 120 :: 121 :: 122 :: 123 :: 124 :: 125 :: 126 :: 127 :: 128 :: 129 :: 130 :: 131 :: 132 :: 133 :: 134 :: 135 :: 136 :: 137 :: 138 :: 139 :: 140 :: 141 :: 142 :: 143 :: 144 :: 145 :: 146 :: 147 :: 148 :: 149 :: 150 :: 151 :: 152 :: 153 :: 154 :: 155 :: 156 :: 157 :: 158 :: 159 :: 160 :: 161 :: 162 :: 163 :: 164 :: 165 :: 166 :: 167 :: 168 :: 169 :: 170 :: 171 :: 172 :: 173 :: 174 :: 175 :: 176 :: 177 :: 178 :: 179 :: 180 :: 181 :: 182 :: 183 :: 184 :: 185 :: 186 :: 187 :: 188 :: 189 :: 190 :: 191 :: 192 :: 193 :: 194 :: 195 :: 196 :: 197 :: 198 :: 199 :: 200 :: 201 :: 202 :: 203 :: 204 :: 205 :: 206 :: 207 :: 208 :: 209 :: 210 :: 211 :: 212 :: 213 :: 214 :: 215 :: 216 :: 217 :: 218 :: 219 :: 220 :: 221 :: 222 :: 223 :: 224 :: 225 :: 226 :: 227 :: 228 :: 229 :: 230 :: 231 :: 232 :: 233 :: 234 :: 235 :: 236 :: 237 :: 238 :: 239 :: 240 :: 241 :: 242 :: 243 :: 244 :: 245 :: 246 :: 247 :: 248 :: 249 :: 250 :: 251 :: 252 :: 253 :: 254 :: 255 :: 256 :: 257 :: 258 :: 259 :: 260 :: 261 :: 262 :: 263 :: 264 :: []) [8, 10] (fun m vs w' => ∃ j44 : S_ref08_Run, ∃ j45 : (List Int), ∃ j49 : Int, ∃ a46 : Option Addr, ∃ n47 : Nat, ∃ q48 : Nat, vs = [.slice a46 n47 q48, .int .i64 j49] ∧ ref08_Run_One.L2 N x0 e16 m j44 j45 j49 = some r ∧ Ctx w' (S_ref08_Run.hp b0 j44 :: B b11 (S_api_Shape.cz x0.W.Shape) 29 :: Own (pInt .i32) 21 (.slice a46 n47 q48) j45 :: Fr)) N ?_ ?_
     · exact ⟨(⟨x0.W, z37⟩ : S_ref08_Run), j17, 0, a18, j17.length, q20, rfl, hp, hc⟩
     · clear hp hc; intro m vs u w50 hJ; obtain ⟨j44, j45, j49, a46, n47, q48, rfl, hp, hc⟩ := hJ; obtain rfl := hc.rz 2 reads_own; rcases m with _ | m2
       · cases (show none = some r from hp)
       rw [ref08_Run_One.L2] at hp; refine Wseq (Wseq (Wreg ?_)); refine mz (.int .i64 j49) ?_; refine fl 0 U29 Z3 G3 (Ctx.cell hc (k := 1) rfl rfl rfl) rfl rfl rfl rfl rfl rfl rfl rfl ?_; refine sz (lt' rfl rfl) ?_; refine rn (qn ?_); cases hb52 : (decide (j49 < x0.W.Shape.Layers))
       · replace hp := gneg hp (of_decide_eq_false hb52); refine Wcf rfl (Wexit (qx (qx (be (qn (Wseq ?_)))))); replace hc := S_ref08_Run.uf hc; obtain ⟨a53, q54, a55, q56, a57, q58, a59, q60, a61, q62, hc⟩ := hc; replace hc := hc.drew; refine Wdrw (fun j w' => (j = 4 → ∀ j v, ((S_api_Mat.cz j44.W.Head a59 q60) : List Value)[j]? = some v → w'.cell? ((⟨b0, 11, none⟩ : Addr).add j) = some v) ∧ True) [0, 1, 3, 7, 15, 0, 32, 96, 224, 480, 0, 2016, 4095, 8191, 16383, 16383, 32767, 131071] 0 512 rfl (by kernel_rfl) (fun j hj => ⟨fun _ => Ctx.cells hc (k := 0) rfl rfl 11 (vs := (S_api_Mat.cz j44.W.Head a59 q60)) rfl, trivial⟩) ?_; generalize hw : World.drew w50 = w63 at *; clear hw; refine dM (pt b0 0) rfl rfl rfl ?_; refine ds rfl (fun w' hF => nl rfl) rfl ?_; refine ds (v := pt b0 0) rfl (fun w' hF => fax 0 rfl U77 rfl Z35 rfl rfl rfl) rfl ?_; refine ds (v := pt b0 11) rfl (fun w' hF => fax 11 rfl U35 rfl Z32 rfl rfl rfl) rfl ?_; refine ds (v := .agg (S_api_Mat.cz j44.W.Head a59 q60).toArray) rfl (fun w' hF => ldg rfl G32 Z32 rfl (hF.1 rfl)) rfl ?_; refine dM (pt b0 0) rfl rfl rfl ?_; refine ds rfl (fun w' hF => nl rfl) rfl ?_; refine ds (v := pt b0 0) rfl (fun w' hF => fax 0 rfl U77 rfl Z35 rfl rfl rfl) rfl ?_; refine ds (v := pt b0 10) rfl (fun w' hF => fax 10 rfl U35 rfl Z30 rfl rfl rfl) rfl ?_; refine dx rfl (ld rfl G30 (Ctx.cell hc (k := 0) rfl rfl rfl)) rfl rfl ?_; refine dM (.slice a46 j45.length q48) rfl rfl rfl ?_; replace hc := hc.dz 3; obtain ⟨r64, hr64, hp⟩ := bind_some hp; replace hc := Ctx.p1 (Ctx.p8 hc); refine dc (cl C19 rfl rfl) rfl rfl ?_; refine ref05_Norm_any reads_ro reads_own hc hr64 ?_; clear hc; intro a65 n66 q67 w68 hc; obtain rfl := hc.rz 0 reads_own; refine ⟨fun j hj hb => ⟨fun _ => Ctx.cells hc (k := 3) rfl rfl 11 (vs := (S_api_Mat.cz j44.W.Head a59 q60)) rfl, trivial⟩, ?_⟩; replace hc := hc.dz 7; obtain ⟨r70, hr70, hp⟩ := bind_some hp; replace hc := Ctx.p1 (Ctx.p1 hc); refine dc (cl C18 rfl rfl) rfl rfl ?_; refine ref04_Apply_any (x0 := j44.W.Head) reads_own hc hr70 ?_; clear hc; intro a71 n72 q73 w74 hc; obtain rfl := hc.rz 0 reads_own; refine ⟨fun j hj hb => ⟨fun e => (by subst e; exact absurd hj (by decide)), trivial⟩, ?_⟩; refine dM (.tuple #[.slice a71 r70.1.length q73, .bool r70.2]) rfl rfl rfl ?_; refine ds rfl (fun w' hF => ext (v := .slice a71 r70.1.length q73) rfl rfl) rfl ?_; refine ds rfl (fun w' hF => ext (v := .bool r70.2) rfl rfl) rfl ?_; refine dA (.slice a71 r70.1.length q73) rfl rfl rfl ?_; refine dA (.bool r70.2) rfl rfl rfl ?_; refine dn (qn (Wseq (Wreg ?_))); refine mz (.slice a71 r70.1.length q73) <| az (.slice a71 r70.1.length q73) <| rn (qn (Wret ?_)); replace hc := Ctx.p9 (Ctx.p9 (Ctx.p9 (Ctx.p9 (Ctx.p9 (Ctx.p9 hc))))); replace hc := S_ref08_Run.fd (x := j44) hc; replace hc := Ctx.p1 (Ctx.r2 (Ctx.r3 (Ctx.r4 (Ctx.r5 hc)))); obtain rfl := sj hp; refine f1 (v := .slice a71 r70.1.length q73) R21 M21 rfl ?_; exact ⟨_, rfl, k _ _ _ _ hc⟩
       · replace hp := gpos hp (of_decide_eq_true hb52); refine Wct rfl (Wskip (qn (Wseq (Wblk (Wseq (Wreg ?_)))))); refine mz (pt b0 0) <| sz (nl rfl) ?_; refine sz (v := pt b0 0) (fax 0 rfl U77 rfl Z35 rfl rfl rfl) ?_; refine sz (v := pt b0 9) (fax 9 rfl U35 rfl Z33 rfl rfl rfl) ?_; replace hc := S_ref08_Run.uf hc; obtain ⟨a76, q77, a78, q79, a80, q81, a82, q83, a84, q85, hc⟩ := hc; refine sz (ld rfl G33 (Ctx.cell hc (k := 0) rfl rfl rfl)) ?_; refine mz (.int .i64 j49) ?_; replace hp := bind_some hp; obtain ⟨y86, hy86, hp⟩ := hp; obtain ⟨b89, o90, u91, hi87, hi88⟩ := Ctx.rdAt hc (k := 2) rfl rfl reads_ro hy86; subst u91; refine sz (ixx rfl rfl U33 Z97 hi87 hi88 rfl) ?_; replace hc := Ctx.rdCell hc (k := 2) rfl rfl reads_ro hy86; obtain ⟨cs92, hc, hcell93⟩ := hc; replace hc := S_api_Block.op hc; obtain ⟨a95, q96, a97, q98, a99, q100, a101, q102, a103, q104, a105, q106, a107, q108, a109, q110, u94, hc⟩ := hc; subst u94; refine sz (v := .agg (S_api_Block.cz y86 a95 q96 a97 q98 a99 q100 a101 q102 a103 q104 a105 q106 a107 q108 a109 q110).toArray) (ldg rfl G97 Z97 rfl (elCells hcell93 0 (vs := (S_api_Block.cz y86 a95 q96 a97 q98 a99 q100 a101 q102 a103 q104 a105 q106 a107 q108 a109 q110)) rfl)) ?_; refine rsE (Ctx.allocOp (cs := [.slice none 0 0, .slice none 0 0, .int .i64 0, .int .i64 0, .slice none 0 0, .int .i64 0, .int .i64 0, .slice none 0 0, .int .i64 0, .int .i64 0, .slice none 0 0, .int .i64 0, .int .i64 0, .slice none 0 0, .int .i64 0, .int .i64 0, .slice none 0 0, .int .i64 0, .int .i64 0, .slice none 0 0]) hc V97 rfl) rfl ?_; clear hc; rintro _ w113 ⟨b111, rfl, hc⟩; refine ruE (Ctx.putAgg hc (k := 0) rfl rfl (vs := (S_api_Block.cz y86 a95 q96 a97 q98 a99 q100 a101 q102 a103 q104 a105 q106 a107 q108 a109 q110)) (cs' := (S_api_Block.cz y86 a95 q96 a97 q98 a99 q100 a101 q102 a103 q104 a105 q106 a107 q108 a109 q110)) rfl rfl rfl Z97 rfl rfl rfl) rfl ?_; clear hc; rintro w114 hc; replace hc := Ctx.n0 hc; refine rn (qn (Wseq (Wreg ?_))); refine fl 0 U97 Z30 G30 (Ctx.cell hc (k := 0) rfl rfl rfl) rfl rfl rfl rfl rfl rfl rfl rfl ?_; refine mz (.slice a46 j45.length q48) ?_; replace hc := hc.dz 1; obtain ⟨r115, hr115, hp⟩ := bind_some hp; replace hc := Ctx.p1 (Ctx.p17 hc); refine kz C19 ?_; refine ref05_Norm_any reads_ro reads_own hc hr115 ?_; clear hc; intro a116 n117 q118 w119 hc; obtain rfl := hc.rz 0 reads_own; refine az (.slice a116 r115.length q118) <| rn (qn (Wseq (Wreg ?_))); refine mz (.int .i64 ((x0.L.length : Nat) : Int)) <| mz (.int .i64 e16) <| sz (v := pt b111 2) (fax 2 rfl U97 rfl Z32 rfl rfl rfl) <| sz (v := .agg (S_api_Mat.cz y86.Q a99 q100).toArray) (ldg rfl G32 Z32 rfl (Ctx.cells hc (k := 3) rfl rfl 2 (vs := (S_api_Mat.cz y86.Q a99 q100)) rfl)) <| mz (.slice a116 r115.length q118) ?_; replace hc := hc.dz 6; obtain ⟨r121, hr121, hp⟩ := bind_some hp; replace hc := Ctx.p1 (Ctx.p1 hc); refine kz C56 ?_; refine ref08_quants_any (x0 := y86.Q) reads_own hc hr121 ?_; clear hc; intro a122 n123 q124 w125 hc; obtain rfl := hc.rz 0 reads_own; obtain ⟨r127, hr127, hp⟩ := bind_some hp; refine kz C55 ?_; refine ref08_turned_any reads_own hc hr127 ?_; clear hc; intro a128 n129 q130 w131 hc; obtain rfl := hc.rz 0 reads_own; refine az (.slice a128 r127.length q130) <| rn (qn (Wseq ?_)); replace hp := bind_some hp; obtain ⟨y133, hy133, hp⟩ := hp; replace hc := Ctx.p19 hc; replace hc := Ctx.ownVF hc; obtain ⟨hs134, hl137, hc⟩ := hc; replace hc := Ctx.bigF hc.swap hy133; obtain ⟨a136, ha135, hc⟩ := hc; replace hc := Ctx.exF hc; obtain ⟨v139, hc⟩ := hc; replace hc := Ctx.exF hc; obtain ⟨v140, hc⟩ := hc; replace hc := Ctx.sepF hc; replace hc := Ctx.sepF hc; replace hc := Ctx.puF hc; obtain ⟨⟨u138, _⟩, hc⟩ := hc; subst u138; obtain ⟨a141, q142, u143⟩ := hc.rd (k := 0) rfl rfl reads_own; subst u143; obtain ⟨a144, q145, u146⟩ := hc.rd (k := 1) rfl rfl reads_own; subst u146; obtain ⟨b147, o148, u149, hi150, hi151⟩ := Ctx.rdAt hc (k := 3) rfl rfl reads_own ha135; subst u149; replace hc := hc.drew; refine Wdrw (fun j w' => (j = 3 → w'.cell? ⟨b0, 14, none⟩ = some (.slice (some ⟨b147, o148, none⟩) j44.L.length q85)) ∧ (j = 8 → w'.cell? ⟨b0, 14, none⟩ = some (.slice (some ⟨b147, o148, none⟩) j44.L.length q85)) ∧ (j = 12 → w'.cell? ⟨b147, o148 + (((x0.L.length : Nat) : Int)).toNat * 2 + 0, none⟩ = some (.slice a141 y133.K.length q142)) ∧ True) [0, 1, 3, 7, 0, 0, 32, 96, 224, 0, 992, 2016, 4064, 0, 0, 0, 32768, 0, 229376, 516096, 1040384, 2097120, 4194303, 8388607, 16777215] 0 65536 rfl (by kernel_rfl) (fun j hj => ⟨fun _ => hc.cell (k := 18) rfl rfl rfl, fun _ => hc.cell (k := 18) rfl rfl rfl, fun _ => Ctx.rdAny hc (k := 3) rfl rfl ha135 0 _ rfl, trivial⟩) ?_; generalize hw : World.drew w131 = w152 at *; clear hw; refine dM (pt b0 0) rfl rfl rfl ?_; refine ds rfl (fun w' hF => nl rfl) rfl ?_; refine ds (v := pt b0 14) rfl (fun w' hF => fax 14 rfl U77 rfl Z75 rfl rfl rfl) rfl ?_; refine ds rfl (fun w' hF => ld rfl G75 ((hF.1 rfl))) rfl ?_; refine dM (.int .i64 ((x0.L.length : Nat) : Int)) rfl rfl rfl ?_; refine dM (pt b0 0) rfl rfl rfl ?_; refine ds rfl (fun w' hF => nl rfl) rfl ?_; refine ds (v := pt b0 14) rfl (fun w' hF => fax 14 rfl U77 rfl Z75 rfl rfl rfl) rfl ?_; refine ds rfl (fun w' hF => ld rfl G75 ((hF.2.1 rfl))) rfl ?_; refine dM (.int .i64 ((x0.L.length : Nat) : Int)) rfl rfl rfl ?_; have hln := Ctx.rdLen hc (k := 3) rfl rfl reads_own; obtain ⟨b155, o156, u157, hi153, hi154⟩ := Ctx.rdAt hc (k := 3) rfl rfl reads_own ha135; clear hln; clear u157; refine ds rfl (fun w' hF => ixx rfl rfl U75 Z132 hi153 hi154 rfl) rfl ?_; refine ds (v := .pointer (some ⟨b147, o148 + (((x0.L.length : Nat) : Int)).toNat * 2 + 0, none⟩)) rfl (fun w' hF => fax 0 rfl U132 rfl Z110 rfl rfl rfl) rfl ?_; refine ds rfl (fun w' hF => ld rfl G110 ((hF.2.2.1 rfl))) rfl ?_; refine dM (.int .i64 ((x0.L.length : Nat) : Int)) rfl rfl rfl ?_; refine dM (.int .i64 e16) rfl rfl rfl ?_; refine ds (v := pt b111 5) rfl (fun w' hF => fax 5 rfl U97 rfl Z32 rfl rfl rfl) rfl ?_; refine dx (v := .agg (S_api_Mat.cz y86.K a101 q102).toArray) rfl (ldg rfl G32 Z32 rfl (Ctx.cells hc (k := 9) rfl rfl 5 (vs := (S_api_Mat.cz y86.K a101 q102)) rfl)) rfl rfl ?_; refine dM (.slice a116 r115.length q118) rfl rfl rfl ?_; replace hc := hc.dz 13; obtain ⟨r158, hr158, hp⟩ := bind_some hp; replace hc := Ctx.p1 (Ctx.p7 hc); refine dc (cl C56 rfl rfl) rfl rfl ?_; refine ref08_quants_any (x0 := y86.K) reads_own hc hr158 ?_; clear hc; intro a159 n160 q161 w162 hc; obtain rfl := hc.rz 0 reads_own; refine ⟨fun j hj hb => ⟨fun _ => hc.cell (k := 19) rfl rfl rfl, fun _ => hc.cell (k := 19) rfl rfl rfl, fun _ => Ctx.rdAny hc (k := 5) rfl rfl ha135 0 _ rfl, trivial⟩, ?_⟩; obtain ⟨r164, hr164, hp⟩ := bind_some hp; refine dc (cl C55 rfl rfl) rfl rfl ?_; refine ref08_turned_any reads_own hc hr164 ?_; clear hc; intro a165 n166 q167 w168 hc; obtain rfl := hc.rz 0 reads_own; refine ⟨fun j hj hb => ⟨fun _ => hc.cell (k := 20) rfl rfl rfl, fun _ => hc.cell (k := 20) rfl rfl rfl, fun _ => Ctx.rdAny hc (k := 6) rfl rfl ha135 0 _ rfl, trivial⟩, ?_⟩; replace hc := hc.freeze (k := 0) rfl rfl rfl; replace hc := Ctx.n0 hc; replace hc := hc.dz 0; refine deE (Ctx.builtOp (css := [[.slice a165 r164.length q167]]) (xs := ([r164] : List (List Int))) (E := (pRo (pInt .i8))) hc U110 Z30 V30 rfl rfl rfl rfl rfl rfl rfl rfl) rfl rfl ?_; clear hc; rintro _ w171 ⟨a170, rfl, hc⟩; refine ⟨fun j hj hb => ⟨fun _ => hc.cell (k := 21) rfl rfl rfl, fun _ => hc.cell (k := 21) rfl rfl rfl, fun _ => Ctx.rdAny hc (k := 7) rfl rfl ha135 0 _ rfl, trivial⟩, ?_⟩; replace hp := bind_some hp; obtain ⟨z172, hz172, hp⟩ := hp; obtain ⟨hg173, e174⟩ := app_some hz172; refine deE (Ctx.append hc (k := 4) rfl rfl (k2 := 0) rfl rfl reads_own U110 (i := Tryz.t30) rfl rfl rfl rfl rfl rfl rfl rfl hg173) rfl rfl ?_; clear hc; rintro _ w177 ⟨a175, q176, rfl, hc⟩; rw [← e174] at hc ⊢; replace hc := Ctx.n4 hc; refine ⟨fun j hj hb => ⟨fun _ => hc.cell (k := 21) rfl rfl rfl, fun e => (by subst e; exact absurd hj (by decide)), fun e => (by subst e; exact absurd hj (by decide)), trivial⟩, ?_⟩; have hln := Ctx.rdLen hc (k := 7) rfl rfl reads_own; obtain ⟨b180, o181, u182, hi178, hi179⟩ := Ctx.rdAt hc (k := 7) rfl rfl reads_own ha135; clear hln; clear u182; refine ds rfl (fun w' hF => ixx rfl rfl U75 Z132 hi178 hi179 rfl) rfl ?_; refine ds (v := .pointer (some ⟨b147, o148 + (((x0.L.length : Nat) : Int)).toNat * 2 + 0, none⟩)) rfl (fun w' hF => fax 0 rfl U132 rfl Z110 rfl rfl rfl) rfl ?_; refine duE (Ctx.ownPutOp hc (k := 7) rfl rfl (z := [.slice a141 y133.K.length q142, .slice a144 y133.V.length q145]) (z' := [.slice a175 z172.length q176, .slice a144 y133.V.length q145]) ha135 0 rfl (u := .slice a175 z172.length q176) rfl rfl rfl Z110 (pAny_put rfl rfl) rfl) rfl rfl ?_; clear hc; rintro w183 hc; replace hc := Ctx.n7 hc; refine ⟨fun j hj hb => ⟨fun e => (by subst e; exact absurd hj (by decide)), fun e => (by subst e; exact absurd hj (by decide)), fun e => (by subst e; exact absurd hj (by decide)), trivial⟩, ?_⟩; rw [← bigH_set (V := S_ref08_Kept.vp.r) (hs := hs134) (bs := j44.L) (i := ((x0.L.length : Nat) : Int)) [.slice a175 z172.length q176, .slice a144 y133.V.length q145]] at hc; have ha185 := idx_set ha135 ([.slice a175 z172.length q176, .slice a144 y133.V.length q145] : List Value); generalize hq186 : hs134.set (((x0.L.length : Nat) : Int)).toNat [.slice a175 z172.length q176, .slice a144 y133.V.length q145] = hs184 at hc ha185; refine dn (qn (Wseq ?_)); replace hc := hc.drew; refine Wdrw (fun j w' => (j = 3 → w'.cell? ⟨b0, 14, none⟩ = some (.slice (some ⟨b147, o148, none⟩) j44.L.length q85)) ∧ (j = 8 → w'.cell? ⟨b0, 14, none⟩ = some (.slice (some ⟨b147, o148, none⟩) j44.L.length q85)) ∧ (j = 12 → w'.cell? ⟨b147, o148 + (((x0.L.length : Nat) : Int)).toNat * 2 + 1, none⟩ = some (.slice a144 y133.V.length q145)) ∧ True) [0, 1, 3, 7, 0, 0, 32, 96, 224, 0, 992, 2016, 4064, 0, 8192, 0, 57344, 122880, 262112, 524287, 1048575, 2097151] 0 16384 rfl (by kernel_rfl) (fun j hj => ⟨fun _ => hc.cell (k := 21) rfl rfl rfl, fun _ => hc.cell (k := 21) rfl rfl rfl, fun _ => Ctx.rdAny hc (k := 7) rfl rfl ha185 1 _ rfl, trivial⟩) ?_; generalize hw : World.drew w183 = w187 at *; clear hw; refine dM (pt b0 0) rfl rfl rfl ?_; refine ds rfl (fun w' hF => nl rfl) rfl ?_; refine ds (v := pt b0 14) rfl (fun w' hF => fax 14 rfl U77 rfl Z75 rfl rfl rfl) rfl ?_; refine ds rfl (fun w' hF => ld rfl G75 ((hF.1 rfl))) rfl ?_; refine dM (.int .i64 ((x0.L.length : Nat) : Int)) rfl rfl rfl ?_; refine dM (pt b0 0) rfl rfl rfl ?_; refine ds rfl (fun w' hF => nl rfl) rfl ?_; refine ds (v := pt b0 14) rfl (fun w' hF => fax 14 rfl U77 rfl Z75 rfl rfl rfl) rfl ?_; refine ds rfl (fun w' hF => ld rfl G75 ((hF.2.1 rfl))) rfl ?_; refine dM (.int .i64 ((x0.L.length : Nat) : Int)) rfl rfl rfl ?_; have hln := Ctx.rdLen hc (k := 7) rfl rfl reads_own; obtain ⟨b190, o191, u192, hi188, hi189⟩ := Ctx.rdAt hc (k := 7) rfl rfl reads_own ha185; clear hln; clear u192; refine ds rfl (fun w' hF => ixx rfl rfl U75 Z132 hi188 hi189 rfl) rfl ?_; refine ds (v := .pointer (some ⟨b147, o148 + (((x0.L.length : Nat) : Int)).toNat * 2 + 1, none⟩)) rfl (fun w' hF => fax 1 rfl U132 rfl Z110 rfl rfl rfl) rfl ?_; refine ds rfl (fun w' hF => ld rfl G110 ((hF.2.2.1 rfl))) rfl ?_; refine ds (v := pt b111 8) rfl (fun w' hF => fax 8 rfl U97 rfl Z32 rfl rfl rfl) rfl ?_; refine dx (v := .agg (S_api_Mat.cz y86.V a103 q104).toArray) rfl (ldg rfl G32 Z32 rfl (Ctx.cells hc (k := 12) rfl rfl 8 (vs := (S_api_Mat.cz y86.V a103 q104)) rfl)) rfl rfl ?_; refine dM (.slice a116 r115.length q118) rfl rfl rfl ?_; replace hc := hc.dz 17; obtain ⟨r193, hr193, hp⟩ := bind_some hp; replace hc := Ctx.p1 (Ctx.p4 hc); refine dc (cl C56 rfl rfl) rfl rfl ?_; refine ref08_quants_any (x0 := y86.V) reads_own hc hr193 ?_; clear hc; intro a194 n195 q196 w197 hc; obtain rfl := hc.rz 0 reads_own; refine ⟨fun j hj hb => ⟨fun _ => hc.cell (k := 22) rfl rfl rfl, fun _ => hc.cell (k := 22) rfl rfl rfl, fun _ => Ctx.rdAny hc (k := 8) rfl rfl ha185 1 _ rfl, trivial⟩, ?_⟩; replace hc := hc.freeze (k := 0) rfl rfl rfl; replace hc := Ctx.n0 hc; replace hc := hc.dz 0; refine deE (Ctx.builtOp (css := [[.slice a194 r193.length q196]]) (xs := ([r193] : List (List Int))) (E := (pRo (pInt .i8))) hc U110 Z30 V30 rfl rfl rfl rfl rfl rfl rfl rfl) rfl rfl ?_; clear hc; rintro _ w200 ⟨a199, rfl, hc⟩; refine ⟨fun j hj hb => ⟨fun _ => hc.cell (k := 23) rfl rfl rfl, fun _ => hc.cell (k := 23) rfl rfl rfl, fun _ => Ctx.rdAny hc (k := 9) rfl rfl ha185 1 _ rfl, trivial⟩, ?_⟩; replace hp := bind_some hp; obtain ⟨z201, hz201, hp⟩ := hp; obtain ⟨hg202, e203⟩ := app_some hz201; refine deE (Ctx.append hc (k := 7) rfl rfl (k2 := 0) rfl rfl reads_own U110 (i := Tryz.t30) rfl rfl rfl rfl rfl rfl rfl rfl hg202) rfl rfl ?_; clear hc; rintro _ w206 ⟨a204, q205, rfl, hc⟩; rw [← e203] at hc ⊢; replace hc := Ctx.n7 hc; refine ⟨fun j hj hb => ⟨fun _ => hc.cell (k := 23) rfl rfl rfl, fun e => (by subst e; exact absurd hj (by decide)), fun e => (by subst e; exact absurd hj (by decide)), trivial⟩, ?_⟩; have hln := Ctx.rdLen hc (k := 9) rfl rfl reads_own; obtain ⟨b209, o210, u211, hi207, hi208⟩ := Ctx.rdAt hc (k := 9) rfl rfl reads_own ha185; clear hln; clear u211; refine ds rfl (fun w' hF => ixx rfl rfl U75 Z132 hi207 hi208 rfl) rfl ?_; refine ds (v := .pointer (some ⟨b147, o148 + (((x0.L.length : Nat) : Int)).toNat * 2 + 1, none⟩)) rfl (fun w' hF => fax 1 rfl U132 rfl Z110 rfl rfl rfl) rfl ?_; refine duE (Ctx.ownPutOp hc (k := 9) rfl rfl (z := [.slice a175 z172.length q176, .slice a144 y133.V.length q145]) (z' := [.slice a175 z172.length q176, .slice a204 z201.length q205]) ha185 1 rfl (u := .slice a204 z201.length q205) rfl rfl rfl Z110 (pAny_put rfl rfl) rfl) rfl rfl ?_; clear hc; rintro w212 hc; replace hc := Ctx.n9 hc; refine ⟨fun j hj hb => ⟨fun e => (by subst e; exact absurd hj (by decide)), fun e => (by subst e; exact absurd hj (by decide)), fun e => (by subst e; exact absurd hj (by decide)), trivial⟩, ?_⟩; rw [← bigH_set (V := S_ref08_Kept.vp.r) (hs := hs184) (bs := j44.L) (i := ((x0.L.length : Nat) : Int)) [.slice a175 z172.length q176, .slice a204 z201.length q205]] at hc; have ha214 := idx_set ha185 ([.slice a175 z172.length q176, .slice a204 z201.length q205] : List Value); generalize hq215 : hs184.set (((x0.L.length : Nat) : Int)).toNat [.slice a175 z172.length q176, .slice a204 z201.length q205] = hs213 at hc ha214; refine dn (qn (Wseq (Wreg ?_))); refine az (.slice none 0 0) <| rn (qn (Wseq (Wseq (Wreg ?_)))); refine az (.int .i64 0) <| rn (qn (Wblk ?_)); replace hc := Ctx.p7 (Ctx.p7 hc); replace hc : Ctx w212 (S_ref08_Kept.vp.r [.slice a175 z172.length q176, .slice a204 z201.length q205] (⟨z172, z201⟩ : S_ref08_Kept) :: Own (pRo (pInt .i8)) 30 (.slice a199 1 1) ([r193]) :: hR .i8 a194 q196 r193 :: oR .i8 88 a116 q118 r115 :: Own (pRo (pInt .i8)) 30 (.slice a170 1 1) ([r164]) :: hR .i8 a165 q167 r164 :: oR .i8 88 a159 q161 r158 :: BigH S_ref08_Kept.vp.r hs213 j44.L ((x0.L.length : Nat) : Int) :: Own (pAny 2) 132 (.slice (some ⟨b147, o148, none⟩) j44.L.length q85) hs213 :: oR .i8 88 a128 q130 r127 :: oR .i8 88 a122 q124 r121 :: hR .i8 a95 q96 y86.First :: oR .i32 21 a46 q48 j45 :: B b111 (S_api_Block.cz y86 a95 q96 a97 q98 a99 q100 a101 q102 a103 q104 a105 q106 a107 q108 a109 q110) 97 :: hR .i8 a95 q96 y86.First :: hR .i8 a97 q98 y86.Second :: hR .i8 a99 q100 y86.Q.V :: hR .i8 a101 q102 y86.K.V :: hR .i8 a103 q104 y86.V.V :: hR .i8 a105 q106 y86.O.V :: hR .i8 a107 q108 y86.Up.V :: hR .i8 a109 q110 y86.Down.V :: B b0 [.int .i64 j44.W.Shape.Layers, .int .i64 j44.W.Shape.Width, .int .i64 j44.W.Shape.Heads, .int .i64 j44.W.Shape.Inner, .int .i64 j44.W.Shape.Vocab, .int .i64 j44.W.Shape.Places, .int .i64 j44.W.Embed.Rows, .int .i64 j44.W.Embed.Cols, .slice a76 j44.W.Embed.V.length q77, .slice (some ⟨b89, o90, none⟩) j44.W.Blocks.length q79, .slice a80 j44.W.Last.length q81, .int .i64 j44.W.Head.Rows, .int .i64 j44.W.Head.Cols, .slice a82 j44.W.Head.V.length q83, .slice (some ⟨b147, o148, none⟩) j44.L.length q85] 77 :: hR .i8 a76 q77 j44.W.Embed.V :: Hold (pRo S_api_Block.pr) [.slice (some ⟨b89, o90, none⟩) j44.W.Blocks.length q79] j44.W.Blocks :: hR .i8 a80 q81 j44.W.Last :: hR .i8 a82 q83 j44.W.Head.V :: B b11 (S_api_Shape.cz x0.W.Shape) 29 :: Fr) := Ctx.exB _ _ (Ctx.exB _ _ (Ctx.sepB (Ctx.sepB (Ctx.puB ⟨rfl, rfl⟩ hc)))); replace hc := Ctx.p2 (Ctx.p8 (Ctx.p8 hc)); replace hc := Ctx.bigB1 hc ha214 hy133; replace hc : Ctx w212 (OwnV S_ref08_Kept.vp 132 (.slice (some ⟨b147, o148, none⟩) j44.L.length q85) (j44.L.set (((x0.L.length : Nat) : Int)).toNat (⟨z172, z201⟩ : S_ref08_Kept)) :: Own (pRo (pInt .i8)) 30 (.slice a199 1 1) ([r193]) :: hR .i8 a194 q196 r193 :: oR .i8 88 a116 q118 r115 :: Own (pRo (pInt .i8)) 30 (.slice a170 1 1) ([r164]) :: hR .i8 a165 q167 r164 :: oR .i8 88 a159 q161 r158 :: oR .i8 88 a128 q130 r127 :: oR .i8 88 a122 q124 r121 :: hR .i8 a95 q96 y86.First :: oR .i32 21 a46 q48 j45 :: B b111 (S_api_Block.cz y86 a95 q96 a97 q98 a99 q100 a101 q102 a103 q104 a105 q106 a107 q108 a109 q110) 97 :: hR .i8 a95 q96 y86.First :: hR .i8 a97 q98 y86.Second :: hR .i8 a99 q100 y86.Q.V :: hR .i8 a101 q102 y86.K.V :: hR .i8 a103 q104 y86.V.V :: hR .i8 a105 q106 y86.O.V :: hR .i8 a107 q108 y86.Up.V :: hR .i8 a109 q110 y86.Down.V :: B b0 [.int .i64 j44.W.Shape.Layers, .int .i64 j44.W.Shape.Width, .int .i64 j44.W.Shape.Heads, .int .i64 j44.W.Shape.Inner, .int .i64 j44.W.Shape.Vocab, .int .i64 j44.W.Shape.Places, .int .i64 j44.W.Embed.Rows, .int .i64 j44.W.Embed.Cols, .slice a76 j44.W.Embed.V.length q77, .slice (some ⟨b89, o90, none⟩) j44.W.Blocks.length q79, .slice a80 j44.W.Last.length q81, .int .i64 j44.W.Head.Rows, .int .i64 j44.W.Head.Cols, .slice a82 j44.W.Head.V.length q83, .slice (some ⟨b147, o148, none⟩) j44.L.length q85] 77 :: hR .i8 a76 q77 j44.W.Embed.V :: Hold (pRo S_api_Block.pr) [.slice (some ⟨b89, o90, none⟩) j44.W.Blocks.length q79] j44.W.Blocks :: hR .i8 a80 q81 j44.W.Last :: hR .i8 a82 q83 j44.W.Head.V :: B b11 (S_api_Shape.cz x0.W.Shape) 29 :: Fr) := Ctx.ownVB hc.swap; replace hc := Ctx.p24 (Ctx.p24 (Ctx.p24 (Ctx.p24 (Ctx.p24 hc)))); replace hc := S_ref08_Run.fd (x := (⟨j44.W, (j44.L.set (((x0.L.length : Nat) : Int)).toNat (⟨z172, z201⟩ : S_ref08_Kept))⟩ : S_ref08_Run)) hc; replace hc := hc.nilOwn (pInt .i8) 88; replace hc := Ctx.p13 (Ctx.p13 (Ctx.p2 (Ctx.p13 (Ctx.r2 (Ctx.r3 (Ctx.r4 (Ctx.r5 (Ctx.r6 (Ctx.r7 (Ctx.r9 (Ctx.r10 hc))))))))))); replace hc := Ctx.p13 (Ctx.p13 (Ctx.p13 (Ctx.p13 (Ctx.p13 (Ctx.p13 (Ctx.p13 (Ctx.p13 (Ctx.p13 hc)))))))); refine Wloop (14 :: 15 :: 16 :: 17 :: 18 :: 19 :: 20 :: 149 :: 150 :: 151 :: 152 :: 153 :: 154 :: 155 :: 156 :: 157 :: 158 :: 159 :: 160 :: 161 :: 162 :: 163 :: 164 :: 165 :: 166 :: 167 :: 168 :: 169 :: 170 :: 171 :: 172 :: 173 :: 174 :: 175 :: 176 :: 177 :: 178 :: 179 :: 180 :: 181 :: 182 :: 183 :: 184 :: 185 :: 186 :: 187 :: 188 :: 189 :: 190 :: 191 :: 192 :: 193 :: 194 :: 195 :: 196 :: 197 :: 198 :: 199 :: 200 :: 201 :: 202 :: 203 :: 204 :: 205 :: 206 :: 207 :: 208 :: 209 :: 210 :: 211 :: 212 :: 213 :: 214 :: 215 :: 216 :: 217 :: 218 :: 219 :: 220 :: 221 :: 222 :: 223 :: []) [14, 15] (fun m vs w' => ∃ j216 : S_ref08_Run, ∃ j217 : (List Int), ∃ j221 : Int, ∃ a218 : Option Addr, ∃ n219 : Nat, ∃ q220 : Nat, vs = [.slice a218 n219 q220, .int .i64 j221] ∧ ref08_Run_One.L3 N x0 e16 j45 j49 y86 r127 (ref08_Run_One.L2 N x0 e16 m2) m j216 j217 j221 = some r ∧ Ctx w' (oR .i8 88 a128 q130 r127 :: oR .i32 21 a46 q48 j45 :: B b111 (S_api_Block.cz y86 a95 q96 a97 q98 a99 q100 a101 q102 a103 q104 a105 q106 a107 q108 a109 q110) 97 :: hR .i8 a95 q96 y86.First :: hR .i8 a97 q98 y86.Second :: hR .i8 a99 q100 y86.Q.V :: hR .i8 a101 q102 y86.K.V :: hR .i8 a103 q104 y86.V.V :: hR .i8 a105 q106 y86.O.V :: hR .i8 a107 q108 y86.Up.V :: hR .i8 a109 q110 y86.Down.V :: S_ref08_Run.hp b0 j216 :: B b11 (S_api_Shape.cz x0.W.Shape) 29 :: Own (pInt .i8) 88 (.slice a218 n219 q220) j217 :: Fr)) N ?_ ?_
         · exact ⟨(⟨j44.W, (j44.L.set (((x0.L.length : Nat) : Int)).toNat (⟨z172, z201⟩ : S_ref08_Kept))⟩ : S_ref08_Run), [], 0, none, 0, 0, rfl, hp, hc⟩
         · clear hp hc; intro m vs u w222 hJ; obtain ⟨j216, j217, j221, a218, n219, q220, rfl, hp, hc⟩ := hJ; obtain rfl := hc.rz 13 reads_own; rcases m with _ | m3
           · cases (show none = some r from hp)
           rw [ref08_Run_One.L3] at hp; refine Wseq (Wseq (Wreg ?_)); refine mz (.int .i64 j221) ?_; refine fl 2 U29 Z3 G3 (Ctx.cell hc (k := 12) rfl rfl rfl) rfl rfl rfl rfl rfl rfl rfl rfl ?_; refine sz (lt' rfl rfl) ?_; refine rn (qn ?_); cases hb224 : (decide (j221 < x0.W.Shape.Heads))
           · replace hp := gneg hp (of_decide_eq_false hb224); refine Wcf rfl (Wexit (qx (qx (be (qn (Wseq (Wreg ?_))))))); refine sz (v := pt b111 11) (fax 11 rfl U97 rfl Z32 rfl rfl rfl) ?_; refine sz (v := .agg (S_api_Mat.cz y86.O a105 q106).toArray) (ldg rfl G32 Z32 rfl (Ctx.cells hc (k := 2) rfl rfl 11 (vs := (S_api_Mat.cz y86.O a105 q106)) rfl)) ?_; refine mz (.slice a218 j217.length q220) ?_; replace hc := hc.dz 8; obtain ⟨r225, hr225, hp⟩ := bind_some hp; replace hc := Ctx.p1 (Ctx.p14 hc); refine kz C18 ?_; refine ref04_Apply_any (x0 := y86.O) reads_own hc hr225 ?_; clear hc; intro a226 n227 q228 w229 hc; obtain rfl := hc.rz 0 reads_own; refine mz (.tuple #[.slice a226 r225.1.length q228, .bool r225.2]) <| sz (ext (v := .slice a226 r225.1.length q228) rfl rfl) ?_; refine sz (ext (v := .bool r225.2) rfl rfl) ?_; refine az (.slice a226 r225.1.length q228) <| az (.bool r225.2) <| rn (qn (Wseq (Wreg ?_))); refine mz (.slice a46 j45.length q48) <| mz (.slice a226 r225.1.length q228) ?_; obtain ⟨r231, hr231, hp⟩ := bind_some hp; replace hc := Ctx.p3 hc; refine kz C57 ?_; refine ref05_Join_any reads_own reads_own hc hr231 ?_; clear hc; intro a232 n233 q234 w235 hc; obtain rfl := hc.rz 0 reads_own; refine az (.slice a232 r231.length q234) <| rn (qn (Wseq ?_)); replace hc := hc.drew; refine Wdrw (fun j w' => (j = 1 → ∀ j v, ((S_api_Mat.cz y86.Up a107 q108) : List Value)[j]? = some v → w'.cell? ((⟨b111, 14, none⟩ : Addr).add j) = some v) ∧ True) [0, 1, 0, 4, 0, 28, 63, 127] 0 8 rfl (by kernel_rfl) (fun j hj => ⟨fun _ => Ctx.cells hc (k := 5) rfl rfl 14 (vs := (S_api_Mat.cz y86.Up a107 q108)) rfl, trivial⟩) ?_; generalize hw : World.drew w235 = w237 at *; clear hw; refine ds (v := pt b111 14) rfl (fun w' hF => fax 14 rfl U97 rfl Z32 rfl rfl rfl) rfl ?_; refine ds (v := .agg (S_api_Mat.cz y86.Up a107 q108).toArray) rfl (fun w' hF => ldg rfl G32 Z32 rfl (hF.1 rfl)) rfl ?_; refine ds (v := pt b111 1) rfl (fun w' hF => fax 1 rfl U97 rfl Z30 rfl rfl rfl) rfl ?_; refine dx rfl (ld rfl G30 (Ctx.cell hc (k := 5) rfl rfl rfl)) rfl rfl ?_; refine dM (.slice a232 r231.length q234) rfl rfl rfl ?_; replace hc := hc.dz 7; obtain ⟨r238, hr238, hp⟩ := bind_some hp; replace hc := Ctx.p1 (Ctx.p1 hc); refine dc (cl C19 rfl rfl) rfl rfl ?_; refine ref05_Norm_any reads_ro reads_own hc hr238 ?_; clear hc; intro a239 n240 q241 w242 hc; obtain rfl := hc.rz 0 reads_own; refine ⟨fun j hj hb => ⟨fun _ => Ctx.cells hc (k := 7) rfl rfl 14 (vs := (S_api_Mat.cz y86.Up a107 q108)) rfl, trivial⟩, ?_⟩; replace hc := hc.dz 14; obtain ⟨r244, hr244, hp⟩ := bind_some hp; replace hc := Ctx.p1 (Ctx.p1 hc); refine dc (cl C56 rfl rfl) rfl rfl ?_; refine ref08_quants_any (x0 := y86.Up) reads_own hc hr244 ?_; clear hc; intro a245 n246 q247 w248 hc; obtain rfl := hc.rz 0 reads_own; refine ⟨fun j hj hb => ⟨fun e => (by subst e; exact absurd hj (by decide)), trivial⟩, ?_⟩; refine dA (.slice a245 r244.length q247) rfl rfl rfl ?_; refine dn (qn (Wseq (Wseq (Wreg ?_)))); refine az (.int .i64 0) <| rn (qn (Wblk ?_)); replace hc := Ctx.r1 (Ctx.r2 (Ctx.r4 (Ctx.r5 (Ctx.r6 (Ctx.r7 hc))))); refine Wloop [24, 241, 242, 243, 244, 245, 246, 247, 248, 249, 250, 251, 252, 253, 254] [24] (fun m vs w' => ∃ j250 : (List Int), ∃ j254 : Int, vs = [.int .i64 j254] ∧ ref08_Run_One.L4 N j49 y86 j216 r231 r244 (ref08_Run_One.L2 N x0 e16 m2) m j250 j254 = some r ∧ Ctx w' (Own (pInt .i8) 88 (.slice a245 r244.length q247) j250 :: oR .i32 21 a232 q234 r231 :: B b111 (S_api_Block.cz y86 a95 q96 a97 q98 a99 q100 a101 q102 a103 q104 a105 q106 a107 q108 a109 q110) 97 :: hR .i8 a95 q96 y86.First :: hR .i8 a97 q98 y86.Second :: hR .i8 a99 q100 y86.Q.V :: hR .i8 a101 q102 y86.K.V :: hR .i8 a103 q104 y86.V.V :: hR .i8 a105 q106 y86.O.V :: hR .i8 a107 q108 y86.Up.V :: hR .i8 a109 q110 y86.Down.V :: S_ref08_Run.hp b0 j216 :: B b11 (S_api_Shape.cz x0.W.Shape) 29 :: Fr)) N ?_ ?_
             · exact ⟨r244, 0, rfl, hp, hc⟩
             · clear hp hc; intro m vs u w255 hJ; obtain ⟨j250, j254, rfl, hp, hc⟩ := hJ; rcases m with _ | m4
               · cases (show none = some r from hp)
               rw [ref08_Run_One.L4] at hp; refine Wseq (Wseq (Wreg ?_)); refine mz (.int .i64 j254) <| mz (.slice a245 r244.length q247) <| sz (ln rfl U30) <| sz (lt' rfl rfl) <| rn (qn ?_); cases hb256 : (decide (j254 < ((r244.length : Nat) : Int)))
               · replace hp := gneg hp (of_decide_eq_false hb256); refine Wcf rfl (Wexit (qx (qx (be (qn (Wseq (Wreg ?_))))))); refine sz (v := pt b111 17) (fax 17 rfl U97 rfl Z32 rfl rfl rfl) ?_; refine sz (v := .agg (S_api_Mat.cz y86.Down a109 q110).toArray) (ldg rfl G32 Z32 rfl (Ctx.cells hc (k := 2) rfl rfl 17 (vs := (S_api_Mat.cz y86.Down a109 q110)) rfl)) ?_; refine mz (.slice a245 r244.length q247) ?_; replace hc := hc.dz 10; obtain ⟨r257, hr257, hp⟩ := bind_some hp; replace hc := Ctx.p1 (Ctx.p1 hc); refine kz C18 ?_; refine ref04_Apply_any (x0 := y86.Down) reads_own hc hr257 ?_; clear hc; intro a258 n259 q260 w261 hc; obtain rfl := hc.rz 0 reads_own; refine mz (.tuple #[.slice a258 r257.1.length q260, .bool r257.2]) <| sz (ext (v := .slice a258 r257.1.length q260) rfl rfl) ?_; refine sz (ext (v := .bool r257.2) rfl rfl) ?_; refine az (.slice a258 r257.1.length q260) <| az (.bool r257.2) <| rn (qn (Wreg ?_)); refine mz (.slice a232 r231.length q234) <| mz (.slice a258 r257.1.length q260) ?_; obtain ⟨r263, hr263, hp⟩ := bind_some hp; replace hc := Ctx.p2 hc; refine kz C57 ?_; refine ref05_Join_any reads_own reads_own hc hr263 ?_; clear hc; intro a264 n265 q266 w267 hc; obtain rfl := hc.rz 0 reads_own; refine az (.slice a264 r263.length q266) <| rn (bn (qn (Wreg ?_))); refine mz (.int .i64 j49) <| sz (adw rfl rfl) ?_; refine az (.int .i64 (IntKind.i64.wrap (j49 + 1))) <| rn (qn ?_); replace hc := Ctx.r1 (Ctx.r2 (Ctx.r3 (Ctx.r4 (Ctx.r5 (Ctx.r6 (Ctx.r7 (Ctx.r8 (Ctx.r9 (Ctx.r10 (Ctx.r11 (Ctx.r12 hc))))))))))); replace hc := Ctx.p2 (Ctx.p2 hc); exact ⟨m2, Nat.lt_succ_self _, ⟨j216, r263, (IntKind.i64.wrap (j49 + 1)), a264, r263.length, q266, rfl, hp, hc⟩, (kl rfl (km rfl (kl rfl (km rfl (kl rfl k0)))))⟩
               · replace hp := gpos hp (of_decide_eq_true hb256); refine Wct rfl (Wskip (qn ?_)); refine Wseqm [247, 248, 249, 250, 251, 252, 253, 254] [] (fun vs w' => ∃ j269 : (List Int), vs = [] ∧ ref08_Run_One.J5 j254 (ref08_Run_One.L4 N j49 y86 j216 r231 r244 (ref08_Run_One.L2 N x0 e16 m2) m4) j269 = some r ∧ Ctx w' (Own (pInt .i8) 88 (.slice a245 r244.length q247) j269 :: oR .i32 21 a232 q234 r231 :: B b111 (S_api_Block.cz y86 a95 q96 a97 q98 a99 q100 a101 q102 a103 q104 a105 q106 a107 q108 a109 q110) 97 :: hR .i8 a95 q96 y86.First :: hR .i8 a97 q98 y86.Second :: hR .i8 a99 q100 y86.Q.V :: hR .i8 a101 q102 y86.K.V :: hR .i8 a103 q104 y86.V.V :: hR .i8 a105 q106 y86.O.V :: hR .i8 a107 q108 y86.Up.V :: hR .i8 a109 q110 y86.Down.V :: S_ref08_Run.hp b0 j216 :: B b11 (S_api_Shape.cz x0.W.Shape) 29 :: Fr)) ?_ ?_
                 · refine Wblk (Wseq (Wreg ?_)); refine mz (.slice a245 r244.length q247) <| mz (.int .i64 j254) ?_; replace hp := bind_some hp; obtain ⟨y273, hy273, hp⟩ := hp; obtain ⟨b276, o277, u278, hi274, hi275⟩ := Ctx.rdAt hc (k := 0) rfl rfl reads_own hy273; subst u278; refine sz (ixx rfl rfl U30 Z88 hi274 hi275 rfl) ?_; replace hc := Ctx.rdCell hc (k := 0) rfl rfl reads_own hy273; obtain ⟨cs279, hc, hcell280⟩ := hc; replace hc := Ctx.holdC hc; obtain ⟨u281, hc⟩ := hc; subst u281; refine sz (ld rfl G88 (hcell280 0 _ rfl)) ?_; refine sz (lt' rfl rfl) ?_; refine rn (qn ?_); cases hb282 : (decide (y273 < 0))
                   · replace hp := gneg hp (of_decide_eq_false hb282); refine Wcf rfl (Wskip (bn (qn ?_))); exact ⟨⟨j250, rfl, hp, hc⟩, (kl rfl kb)⟩
                   · replace hp := gpos hp (of_decide_eq_true hb282); refine Wct rfl (Wreg ?_); refine mz (.slice (some ⟨b276, o277, none⟩) r244.length q247) <| mz (.int .i64 j254) ?_; replace hp := bind_some hp; obtain ⟨y283, hy283, hp⟩ := hp; obtain ⟨b286, o287, u288, hi284, hi285⟩ := Ctx.rdAt hc (k := 0) rfl rfl reads_own hy283; clear u288; refine sz (ixx rfl rfl U30 Z88 hi284 hi285 rfl) ?_; refine ruE (Ctx.ownPutOp hc (k := 0) rfl rfl (z := y283) (z' := 0) hy283 0 rfl (u := .int .i8 0) rfl rfl rfl Z88 (fun _ _ _ h => by cases h; rfl) rfl) rfl ?_; clear hc; rintro w289 hc; replace hc := Ctx.n0 hc; refine rn (bn (qn ?_)); exact ⟨⟨(j250.set (j254).toNat 0), rfl, hp, hc⟩, (kl rfl kb)⟩
                 · clear hp hc; intro vs u w290 hJ; obtain ⟨j269, rfl, hp, hc⟩ := hJ; unfold ref08_Run_One.J5 at hp; refine Wreg ?_; refine mz (.int .i64 j254) <| sz (adw rfl rfl) ?_; refine az (.int .i64 (IntKind.i64.wrap (j254 + 1))) <| rn (qn ?_); exact ⟨m4, Nat.lt_succ_self _, ⟨j269, (IntKind.i64.wrap (j254 + 1)), rfl, hp, hc⟩, (kl rfl (km rfl (kl rfl k0)))⟩
           · replace hp := gpos hp (of_decide_eq_true hb224); refine Wct rfl (Wskip (qn (Wseq (Wblk (Wseq (Wreg ?_)))))); refine az (.slice none 0 0) <| rn (qn (Wseq (Wreg ?_))); refine az (.slice none 0 0) <| rn (qn (Wseq (Wseq (Wreg ?_)))); refine az (.int .i64 0) <| rn (qn (Wblk ?_)); replace hc := hc.nilOwn (pInt .i32) 21; replace hc := hc.nilOwn (pRo (pInt .i8)) 30; replace hc := Ctx.p15 (Ctx.p15 (Ctx.p15 (Ctx.p15 (Ctx.p15 (Ctx.p15 (Ctx.p15 (Ctx.p15 (Ctx.p15 (Ctx.p15 (Ctx.p15 (Ctx.p1 hc))))))))))); replace hc := Ctx.p15 (Ctx.p15 (Ctx.p15 hc)); refine Wloop (16 :: 17 :: 18 :: 155 :: 156 :: 157 :: 158 :: 159 :: 160 :: 161 :: 162 :: 163 :: 164 :: 165 :: 166 :: 167 :: 168 :: 169 :: 170 :: 171 :: 172 :: 173 :: 174 :: 175 :: 176 :: 177 :: 178 :: 179 :: 180 :: 181 :: 182 :: 183 :: 184 :: 185 :: 186 :: 187 :: 188 :: 189 :: 190 :: 191 :: 192 :: 193 :: 194 :: 195 :: 196 :: 197 :: 198 :: 199 :: 200 :: 201 :: 202 :: 203 :: 204 :: 205 :: 206 :: 207 :: 208 :: 209 :: 210 :: 211 :: 212 :: 213 :: []) [16, 17, 18] (fun m vs w' => ∃ j291 : (List Int), ∃ j295 : (List (List Int)), ∃ j299 : Int, ∃ a292 : Option Addr, ∃ n293 : Nat, ∃ q294 : Nat, ∃ a296 : Option Addr, ∃ n297 : Nat, ∃ q298 : Nat, vs = [.slice a292 n293 q294, .slice a296 n297 q298, .int .i64 j299] ∧ ref08_Run_One.L6 N x0 e16 j49 r127 j216 j217 j221 (ref08_Run_One.L3 N x0 e16 j45 j49 y86 r127 (ref08_Run_One.L2 N x0 e16 m2) m3) m j291 j295 j299 = some r ∧ Ctx w' (oR .i8 88 a128 q130 r127 :: oR .i32 21 a46 q48 j45 :: B b111 (S_api_Block.cz y86 a95 q96 a97 q98 a99 q100 a101 q102 a103 q104 a105 q106 a107 q108 a109 q110) 97 :: hR .i8 a95 q96 y86.First :: hR .i8 a97 q98 y86.Second :: hR .i8 a99 q100 y86.Q.V :: hR .i8 a101 q102 y86.K.V :: hR .i8 a103 q104 y86.V.V :: hR .i8 a105 q106 y86.O.V :: hR .i8 a107 q108 y86.Up.V :: hR .i8 a109 q110 y86.Down.V :: S_ref08_Run.hp b0 j216 :: B b11 (S_api_Shape.cz x0.W.Shape) 29 :: oR .i8 88 a218 q220 j217 :: Own (pInt .i32) 21 (.slice a292 n293 q294) j291 :: Own (pRo (pInt .i8)) 30 (.slice a296 n297 q298) j295 :: Fr)) N ?_ ?_
             · exact ⟨[], [], 0, none, 0, 0, none, 0, 0, rfl, hp, hc⟩
             · clear hp hc; intro m vs u w300 hJ; obtain ⟨j291, j295, j299, a292, n293, q294, a296, n297, q298, rfl, hp, hc⟩ := hJ; obtain rfl := hc.rz 14 reads_own; obtain rfl := hc.rz 15 reads_own; rcases m with _ | m6
               · cases (show none = some r from hp)
               rw [ref08_Run_One.L6] at hp; refine Wseq (Wseq (Wreg ?_)); refine mz (.int .i64 j299) <| mz (.int .i64 ((x0.L.length : Nat) : Int)) <| sz (le' rfl rfl) <| rn (qn ?_); cases hb303 : (decide (j299 ≤ ((x0.L.length : Nat) : Int)))
               · replace hp := gneg hp (of_decide_eq_false hb303); refine Wcf rfl (Wexit (qx (qx (be (qn (Wseq (Wreg ?_))))))); refine mz (.slice a292 j291.length q294) ?_; obtain ⟨r304, hr304, hp⟩ := bind_some hp; replace hc := Ctx.p14 hc; refine kz C47 ?_; refine ref05_Softmax_any reads_own hc hr304 ?_; clear hc; intro a305 n306 q307 w308 hc; obtain rfl := hc.rz 0 reads_own; refine mz (.slice a296 j295.length q298) ?_; obtain ⟨r310, hr310, hp⟩ := bind_some hp; replace hc := Ctx.p1 (Ctx.p16 hc); refine kz C46 ?_; refine ref05_Mix_any reads_own reads_own hc hr310 ?_; clear hc; intro a311 n312 q313 w314 hc; obtain rfl := hc.rz 0 reads_own; refine mz (.tuple #[.slice a311 r310.1.length q313, .bool r310.2]) <| sz (ext (v := .slice a311 r310.1.length q313) rfl rfl) ?_; refine sz (ext (v := .bool r310.2) rfl rfl) ?_; refine az (.slice a311 r310.1.length q313) <| az (.bool r310.2) <| rn (qn (Wreg ?_)); refine mz (.slice a218 j217.length q220) <| mz (.slice a311 r310.1.length q313) ?_; replace hp := bind_some hp; obtain ⟨z316, hz316, hp⟩ := hp; obtain ⟨hg317, e318⟩ := app_some hz316; refine rsE (Ctx.append hc (k := 17) rfl rfl (k2 := 0) rfl rfl reads_own U30 (i := Tryz.t88) rfl rfl rfl rfl rfl rfl rfl rfl hg317) rfl ?_; clear hc; rintro _ w321 ⟨a319, q320, rfl, hc⟩; rw [← e318] at hc ⊢; replace hc := Ctx.n17 hc; refine az (.slice a319 z316.length q320) <| rn (bn (qn (Wreg ?_))); refine mz (.int .i64 j221) <| sz (adw rfl rfl) ?_; refine az (.int .i64 (IntKind.i64.wrap (j221 + 1))) <| rn (qn ?_); replace hc := Ctx.r0 (Ctx.r1 (Ctx.r2 (Ctx.r3 hc))); exact ⟨m3, Nat.lt_succ_self _, ⟨j216, z316, (IntKind.i64.wrap (j221 + 1)), a319, z316.length, q320, rfl, hp, hc⟩, (kl rfl (km rfl (kl rfl k0)))⟩
               · replace hp := gpos hp (of_decide_eq_true hb303); refine Wct rfl (Wskip (qn (Wseq (Wblk (Wseq ?_))))); replace hc := Ctx.p11 hc; replace hc := S_ref08_Run.uf hc; obtain ⟨a322, q323, a324, q325, a326, q327, a328, q329, a330, q331, hc⟩ := hc; replace hc := hc.drew; refine Wdrw (fun j w' => True) (0 :: 0 :: 0 :: 0 :: 12 :: 0 :: 32 :: 0 :: 224 :: 510 :: 0 :: 1024 :: 3072 :: 7168 :: 0 :: 31744 :: 64512 :: 130048 :: 0 :: 523264 :: 1047552 :: 0 :: 0 :: 6291456 :: 0 :: 16777216 :: 0 :: 117440512 :: 268434432 :: 536870910 :: 1073741822 :: 2147483647 :: 4294967295 :: []) 0 1187840 rfl (by kernel_rfl) (fun _ _ => trivial) ?_; generalize hw : World.drew w300 = w332 at *; clear hw; refine dM (.slice a292 j291.length q294) rfl rfl rfl ?_; refine dM (.slice a128 r127.length q130) rfl rfl rfl ?_; refine dM (.int .i64 j221) rfl rfl rfl ?_; refine dM (.int .i64 e16) rfl rfl rfl ?_; refine ds rfl (fun w' hF => mlw rfl rfl) rfl ?_; refine dM (.int .i64 j221) rfl rfl rfl ?_; refine ds rfl (fun w' hF => adw rfl rfl) rfl ?_; refine dM (.int .i64 e16) rfl rfl rfl ?_; refine ds rfl (fun w' hF => mlw rfl rfl) rfl ?_; replace hp := chk_some hp; obtain ⟨hg333, hp⟩ := hp; obtain ⟨hl337, hq338⟩ := Ctx.rdLen hc (k := 6) rfl rfl reads_own; have rd336 := reads_sub (lo := ((IntKind.i64.wrap (j221 * e16))).toNat) (hi := ((IntKind.i64.wrap ((IntKind.i64.wrap (j221 + 1)) * e16))).toNat) ((reads_own : Reads (oR .i8 88 a128 q130 r127) (pInt .i8) (.slice a128 r127.length q130) r127)) (by omega) (by omega); refine ds (v := .slice (if q130 = ((IntKind.i64.wrap (j221 * e16))).toNat then a128 else Option.map (fun x => x.add (((IntKind.i64.wrap (j221 * e16))).toNat * 1)) a128) (((IntKind.i64.wrap ((IntKind.i64.wrap (j221 + 1)) * e16))).toNat - ((IntKind.i64.wrap (j221 * e16))).toNat) (q130 - ((IntKind.i64.wrap (j221 * e16))).toNat)) rfl (fun w' hF => run_sub (li := some (IntKind.i64.wrap (j221 * e16))) (hi' := some (IntKind.i64.wrap ((IntKind.i64.wrap (j221 + 1)) * e16))) rfl ⟨_, rfl⟩ ⟨_, rfl⟩ U30 Z88 hg333 hq338) rfl ?_; refine dM (pt b0 0) rfl rfl rfl ?_; refine ds rfl (fun w' hF => nl rfl) rfl ?_; refine ds (v := pt b0 14) rfl (fun w' hF => fax 14 rfl U77 rfl Z75 rfl rfl rfl) rfl ?_; refine dx rfl (ld rfl G75 (Ctx.cell hc (k := 0) rfl rfl rfl)) rfl rfl ?_; refine dM (.int .i64 j299) rfl rfl rfl ?_; replace hp := bind_some hp; obtain ⟨y339, hy339, hp⟩ := hp; replace hc := Ctx.p5 hc; replace hc := Ctx.ownVF hc; obtain ⟨hs340, hl343, hc⟩ := hc; replace hc := Ctx.bigF hc.swap hy339; obtain ⟨a342, ha341, hc⟩ := hc; replace hc := Ctx.exF hc; obtain ⟨v345, hc⟩ := hc; replace hc := Ctx.exF hc; obtain ⟨v346, hc⟩ := hc; replace hc := Ctx.sepF hc; replace hc := Ctx.sepF hc; replace hc := Ctx.puF hc; obtain ⟨⟨u344, _⟩, hc⟩ := hc; subst u344; obtain ⟨a347, q348, u349⟩ := hc.rd (k := 0) rfl rfl reads_own; subst u349; obtain ⟨a350, q351, u352⟩ := hc.rd (k := 1) rfl rfl reads_own; subst u352; have hln := Ctx.rdLen hc (k := 3) rfl rfl reads_own; obtain ⟨b355, o356, u357, hi353, hi354⟩ := Ctx.rdAt hc (k := 3) rfl rfl reads_own ha341; clear hln; subst u357; refine ds rfl (fun w' hF => ixx rfl rfl U75 Z132 hi353 hi354 rfl) rfl ?_; refine ds (v := .pointer (some ⟨b355, o356 + (j299).toNat * 2 + 0, none⟩)) rfl (fun w' hF => fax 0 rfl U132 rfl Z110 rfl rfl rfl) rfl ?_; refine dx rfl (ld rfl G110 (Ctx.rdAny hc (k := 3) rfl rfl ha341 0 _ rfl)) rfl rfl ?_; refine dM (.int .i64 j49) rfl rfl rfl ?_; replace hp := bind_some hp; obtain ⟨y358, hy358, hp⟩ := hp; obtain ⟨b361, o362, u363, hi359, hi360⟩ := Ctx.rdAt hc (k := 0) rfl rfl reads_own hy358; subst u363; refine ds rfl (fun w' hF => ixx rfl rfl U110 Z30 hi359 hi360 rfl) rfl ?_; replace hc := Ctx.rdCell hc (k := 0) rfl rfl reads_own hy358; obtain ⟨cs364, hc, hcell365⟩ := hc; replace hc := Ctx.holdRo hc; obtain ⟨v369, u366, hc⟩ := hc; subst u366; obtain ⟨a367, q368, u366⟩ := hc.rd (k := 0) rfl rfl reads_ro; subst u366; refine dx rfl (ld rfl G30 (hcell365 0 _ rfl)) rfl rfl ?_; refine dM (.int .i64 j221) rfl rfl rfl ?_; refine dM (.int .i64 e16) rfl rfl rfl ?_; refine ds rfl (fun w' hF => mlw rfl rfl) rfl ?_; refine dM (.int .i64 j221) rfl rfl rfl ?_; refine ds rfl (fun w' hF => adw rfl rfl) rfl ?_; refine dM (.int .i64 e16) rfl rfl rfl ?_; refine ds rfl (fun w' hF => mlw rfl rfl) rfl ?_; replace hp := chk_some hp; obtain ⟨hg370, hp⟩ := hp; obtain ⟨hl374, hq375⟩ := Ctx.rdLen hc (k := 0) rfl rfl reads_ro; have rd373 := reads_sub (lo := ((IntKind.i64.wrap (j221 * e16))).toNat) (hi := ((IntKind.i64.wrap ((IntKind.i64.wrap (j221 + 1)) * e16))).toNat) ((reads_ro : Reads (hR .i8 a367 q368 y358) (pInt .i8) (.slice a367 y358.length q368) y358)) (by omega) (by omega); refine ds (v := .slice (if q368 = ((IntKind.i64.wrap (j221 * e16))).toNat then a367 else Option.map (fun x => x.add (((IntKind.i64.wrap (j221 * e16))).toNat * 1)) a367) (((IntKind.i64.wrap ((IntKind.i64.wrap (j221 + 1)) * e16))).toNat - ((IntKind.i64.wrap (j221 * e16))).toNat) (q368 - ((IntKind.i64.wrap (j221 * e16))).toNat)) rfl (fun w' hF => run_sub (li := some (IntKind.i64.wrap (j221 * e16))) (hi' := some (IntKind.i64.wrap ((IntKind.i64.wrap (j221 + 1)) * e16))) rfl ⟨_, rfl⟩ ⟨_, rfl⟩ U30 Z88 hg370 hq375) rfl ?_; replace hc := hc.dz 0; obtain ⟨r376, hr376, hp⟩ := bind_some hp; replace hc := Ctx.p11 hc; refine dc (cl C45 rfl rfl) rfl rfl ?_; refine ref01_Dot_any rd336 rd373 hc hr376 ?_; clear hc; intro w377 hc; refine ⟨fun j hj hb => trivial, ?_⟩; refine deE (Ctx.builtOp (css := [[.int .i32 r376]]) (xs := ([r376] : List Int)) (E := (pInt .i32)) (Ctx.holdsC (f := fun x : Int => [.int .i32 x]) (fun _ _ _ => rfl) hc ([r376] : List Int)) U51 Z21 V21 rfl rfl rfl rfl rfl rfl rfl rfl) rfl rfl ?_; clear hc; rintro _ w379 ⟨a378, rfl, hc⟩; refine ⟨fun j hj hb => trivial, ?_⟩; replace hp := bind_some hp; obtain ⟨z380, hz380, hp⟩ := hp; obtain ⟨hg381, e382⟩ := app_some hz380; refine deE (Ctx.append hc (k := 25) rfl rfl (k2 := 0) rfl rfl reads_own U51 (i := Tryz.t21) rfl rfl rfl rfl rfl rfl rfl rfl hg381) rfl rfl ?_; clear hc; rintro _ w385 ⟨a383, q384, rfl, hc⟩; rw [← e382] at hc ⊢; replace hc := Ctx.n25 hc; refine ⟨fun j hj hb => trivial, ?_⟩; refine dA (.slice a383 z380.length q384) rfl rfl rfl ?_; refine dn (qn (Wreg ?_)); refine mz (.slice a296 j295.length q298) <| mz (pt b0 0) <| sz (nl rfl) ?_; refine fl 14 U77 Z75 G75 (Ctx.cell hc (k := 8) rfl rfl rfl) rfl rfl rfl rfl rfl rfl rfl rfl ?_; refine mz (.int .i64 j299) ?_; have hln := Ctx.rdLen hc (k := 7) rfl rfl reads_own; obtain ⟨b388, o389, u390, hi386, hi387⟩ := Ctx.rdAt hc (k := 7) rfl rfl reads_own ha341; clear hln; clear u390; refine sz (ixx rfl rfl U75 Z132 hi386 hi387 rfl) ?_; refine sz (v := .pointer (some ⟨b355, o356 + (j299).toNat * 2 + 1, none⟩)) (fax 1 rfl U132 rfl Z110 rfl rfl rfl) ?_; refine sz (ld rfl G110 (Ctx.rdAny hc (k := 7) rfl rfl ha341 1 _ rfl)) ?_; refine mz (.int .i64 j49) ?_; replace hp := bind_some hp; obtain ⟨y391, hy391, hp⟩ := hp; obtain ⟨b394, o395, u396, hi392, hi393⟩ := Ctx.rdAt hc (k := 5) rfl rfl reads_own hy391; subst u396; refine sz (ixx rfl rfl U110 Z30 hi392 hi393 rfl) ?_; replace hc := Ctx.rdCell hc (k := 5) rfl rfl reads_own hy391; obtain ⟨cs397, hc, hcell398⟩ := hc; replace hc := Ctx.holdRo hc; obtain ⟨v402, u399, hc⟩ := hc; subst u399; obtain ⟨a400, q401, u399⟩ := hc.rd (k := 0) rfl rfl reads_ro; subst u399; refine sz (ld rfl G30 (hcell398 0 _ rfl)) ?_; refine mz (.int .i64 j221) <| mz (.int .i64 e16) <| sz (mlw rfl rfl) <| mz (.int .i64 j221) <| sz (adw rfl rfl) <| mz (.int .i64 e16) <| sz (mlw rfl rfl) ?_; replace hp := chk_some hp; obtain ⟨hg403, hp⟩ := hp; refine rsE (Ctx.subOp (li := some (IntKind.i64.wrap (j221 * e16))) (hi' := some (IntKind.i64.wrap ((IntKind.i64.wrap (j221 + 1)) * e16))) hc (k := 0) rfl rfl reads_ro rfl ⟨_, rfl⟩ ⟨_, rfl⟩ U30 Z88 hg403) rfl ?_; rintro _ _ ⟨rfl, a404, q405, rfl, rd406, ea407, eq408⟩; replace rd406 : Reads (hR .i8 a400 q401 y391) (pInt .i8) (.slice a404 (((IntKind.i64.wrap ((IntKind.i64.wrap (j221 + 1)) * e16))).toNat - ((IntKind.i64.wrap (j221 * e16))).toNat) q405) ((y391.take ((IntKind.i64.wrap ((IntKind.i64.wrap (j221 + 1)) * e16))).toNat).drop ((IntKind.i64.wrap (j221 * e16))).toNat) := rd406; replace hc := hc.dz 0; replace hc := Ctx.subRo (lo := ((IntKind.i64.wrap (j221 * e16))).toNat) (hi := ((IntKind.i64.wrap ((IntKind.i64.wrap (j221 + 1)) * e16))).toNat) hc (by omega) (by omega) ea407 rfl eq408; replace hc := hc.dz 0; refine rsE (Ctx.builtOp (css := [[.slice a404 (((IntKind.i64.wrap ((IntKind.i64.wrap (j221 + 1)) * e16))).toNat - ((IntKind.i64.wrap (j221 * e16))).toNat) q405]]) (xs := ([((y391.take ((IntKind.i64.wrap ((IntKind.i64.wrap (j221 + 1)) * e16))).toNat).drop ((IntKind.i64.wrap (j221 * e16))).toNat)] : List (List Int))) (E := (pRo (pInt .i8))) hc U110 Z30 V30 rfl rfl rfl rfl rfl rfl rfl rfl) rfl ?_; clear hc; rintro _ w410 ⟨a409, rfl, hc⟩; replace hp := bind_some hp; obtain ⟨z411, hz411, hp⟩ := hp; obtain ⟨hg412, e413⟩ := app_some hz411; refine rsE (Ctx.append hc (k := 29) rfl rfl (k2 := 0) rfl rfl reads_own U110 (i := Tryz.t30) rfl rfl rfl rfl rfl rfl rfl rfl hg412) rfl ?_; clear hc; rintro _ w416 ⟨a414, q415, rfl, hc⟩; rw [← e413] at hc ⊢; replace hc := Ctx.n29 hc; refine az (.slice a414 z411.length q415) <| rn (bn (qn (Wreg ?_))); refine mz (.int .i64 j299) <| sz (adw rfl rfl) ?_; refine az (.int .i64 (IntKind.i64.wrap (j299 + 1))) <| rn (qn ?_); replace hc := Ctx.p8 (Ctx.p8 hc); replace hc : Ctx w416 (S_ref08_Kept.vp.r [.slice (some ⟨b361, o362, none⟩) y339.K.length q348, .slice (some ⟨b394, o395, none⟩) y339.V.length q351] y339 :: Own (pRo (pInt .i8)) 30 (.slice a409 1 1) ([((y391.take ((IntKind.i64.wrap ((IntKind.i64.wrap (j221 + 1)) * e16))).toNat).drop ((IntKind.i64.wrap (j221 * e16))).toNat)]) :: Hold (pRo (pInt .i8)) [.slice a404 (((IntKind.i64.wrap ((IntKind.i64.wrap (j221 + 1)) * e16))).toNat - ((IntKind.i64.wrap (j221 * e16))).toNat) q405] ((y391.take ((IntKind.i64.wrap ((IntKind.i64.wrap (j221 + 1)) * e16))).toNat).drop ((IntKind.i64.wrap (j221 * e16))).toNat) :: hR .i8 a400 q401 y391 :: Own (pInt .i32) 21 (.slice a378 1 1) ([r376]) :: oR .i8 88 a128 q130 r127 :: hR .i8 a367 q368 y358 :: hR .i8 a367 q368 y358 :: BigH S_ref08_Kept.vp.r hs340 j216.L j299 :: Own (pAny 2) 132 (.slice (some ⟨b355, o356, none⟩) j216.L.length q331) hs340 :: B b0 [.int .i64 j216.W.Shape.Layers, .int .i64 j216.W.Shape.Width, .int .i64 j216.W.Shape.Heads, .int .i64 j216.W.Shape.Inner, .int .i64 j216.W.Shape.Vocab, .int .i64 j216.W.Shape.Places, .int .i64 j216.W.Embed.Rows, .int .i64 j216.W.Embed.Cols, .slice a322 j216.W.Embed.V.length q323, .slice a324 j216.W.Blocks.length q325, .slice a326 j216.W.Last.length q327, .int .i64 j216.W.Head.Rows, .int .i64 j216.W.Head.Cols, .slice a328 j216.W.Head.V.length q329, .slice (some ⟨b355, o356, none⟩) j216.L.length q331] 77 :: hR .i8 a322 q323 j216.W.Embed.V :: hS S_api_Block.pr a324 q325 j216.W.Blocks :: hR .i8 a326 q327 j216.W.Last :: hR .i8 a328 q329 j216.W.Head.V :: oR .i32 21 a46 q48 j45 :: B b111 (S_api_Block.cz y86 a95 q96 a97 q98 a99 q100 a101 q102 a103 q104 a105 q106 a107 q108 a109 q110) 97 :: hR .i8 a95 q96 y86.First :: hR .i8 a97 q98 y86.Second :: hR .i8 a99 q100 y86.Q.V :: hR .i8 a101 q102 y86.K.V :: hR .i8 a103 q104 y86.V.V :: hR .i8 a105 q106 y86.O.V :: hR .i8 a107 q108 y86.Up.V :: hR .i8 a109 q110 y86.Down.V :: B b11 (S_api_Shape.cz x0.W.Shape) 29 :: oR .i8 88 a218 q220 j217 :: oR .i32 21 a383 q384 z380 :: Own (pRo (pInt .i8)) 30 (.slice a414 z411.length q415) z411 :: Fr) := Ctx.exB _ _ (Ctx.exB _ _ (Ctx.sepB (Ctx.sepB (Ctx.puB ⟨rfl, rfl⟩ hc)))); replace hc := Ctx.p2 (Ctx.p9 (Ctx.p9 hc)); replace hc := Ctx.bigB0 hc ha341 hy339; replace hc : Ctx w416 (OwnV S_ref08_Kept.vp 132 (.slice (some ⟨b355, o356, none⟩) j216.L.length q331) j216.L :: Own (pRo (pInt .i8)) 30 (.slice a409 1 1) ([((y391.take ((IntKind.i64.wrap ((IntKind.i64.wrap (j221 + 1)) * e16))).toNat).drop ((IntKind.i64.wrap (j221 * e16))).toNat)]) :: Hold (pRo (pInt .i8)) [.slice a404 (((IntKind.i64.wrap ((IntKind.i64.wrap (j221 + 1)) * e16))).toNat - ((IntKind.i64.wrap (j221 * e16))).toNat) q405] ((y391.take ((IntKind.i64.wrap ((IntKind.i64.wrap (j221 + 1)) * e16))).toNat).drop ((IntKind.i64.wrap (j221 * e16))).toNat) :: hR .i8 a400 q401 y391 :: Own (pInt .i32) 21 (.slice a378 1 1) ([r376]) :: oR .i8 88 a128 q130 r127 :: hR .i8 a367 q368 y358 :: hR .i8 a367 q368 y358 :: B b0 [.int .i64 j216.W.Shape.Layers, .int .i64 j216.W.Shape.Width, .int .i64 j216.W.Shape.Heads, .int .i64 j216.W.Shape.Inner, .int .i64 j216.W.Shape.Vocab, .int .i64 j216.W.Shape.Places, .int .i64 j216.W.Embed.Rows, .int .i64 j216.W.Embed.Cols, .slice a322 j216.W.Embed.V.length q323, .slice a324 j216.W.Blocks.length q325, .slice a326 j216.W.Last.length q327, .int .i64 j216.W.Head.Rows, .int .i64 j216.W.Head.Cols, .slice a328 j216.W.Head.V.length q329, .slice (some ⟨b355, o356, none⟩) j216.L.length q331] 77 :: hR .i8 a322 q323 j216.W.Embed.V :: hS S_api_Block.pr a324 q325 j216.W.Blocks :: hR .i8 a326 q327 j216.W.Last :: hR .i8 a328 q329 j216.W.Head.V :: oR .i32 21 a46 q48 j45 :: B b111 (S_api_Block.cz y86 a95 q96 a97 q98 a99 q100 a101 q102 a103 q104 a105 q106 a107 q108 a109 q110) 97 :: hR .i8 a95 q96 y86.First :: hR .i8 a97 q98 y86.Second :: hR .i8 a99 q100 y86.Q.V :: hR .i8 a101 q102 y86.K.V :: hR .i8 a103 q104 y86.V.V :: hR .i8 a105 q106 y86.O.V :: hR .i8 a107 q108 y86.Up.V :: hR .i8 a109 q110 y86.Down.V :: B b11 (S_api_Shape.cz x0.W.Shape) 29 :: oR .i8 88 a218 q220 j217 :: oR .i32 21 a383 q384 z380 :: Own (pRo (pInt .i8)) 30 (.slice a414 z411.length q415) z411 :: Fr) := Ctx.ownVB hc.swap; replace hc := Ctx.p12 (Ctx.p12 (Ctx.p12 (Ctx.p12 (Ctx.p12 hc)))); replace hc := S_ref08_Run.fd (x := j216) hc; replace hc := Ctx.p15 (Ctx.p4 (Ctx.p15 (Ctx.p15 (Ctx.p15 (Ctx.p15 (Ctx.r1 (Ctx.r2 (Ctx.r3 (Ctx.r4 (Ctx.r6 (Ctx.r7 hc))))))))))); replace hc := Ctx.p15 (Ctx.p15 (Ctx.p15 (Ctx.p15 (Ctx.p15 (Ctx.p15 (Ctx.p15 (Ctx.p15 (Ctx.p15 (Ctx.p15 hc))))))))); exact ⟨m6, Nat.lt_succ_self _, ⟨z380, z411, (IntKind.i64.wrap (j299 + 1)), a383, z380.length, q384, a414, z411.length, q415, rfl, hp, hc⟩, (kl rfl k0)⟩
   · replace hp := gpos hp (of_decide_eq_true hb24); refine Wct rfl (Wskip (qn (Wseq (Wblk ?_)))); replace hc := Ctx.p1 hc; replace hc := S_ref08_Run.uf hc; obtain ⟨a417, q418, a419, q420, a421, q422, a423, q424, a425, q426, hc⟩ := hc; replace hc := hc.drew; refine Wdrw (fun j w' => True) [0, 0, 2, 6, 14, 30, 62, 0, 0, 256, 896, 0, 3968, 8190, 16382, 32766, 65534, 131070, 262143, 524287] 0 16960 rfl (by kernel_rfl) (fun _ _ => trivial) ?_; generalize hw : World.drew w22 = w427 at *; clear hw; refine dM (.slice a18 j17.length q20) rfl rfl rfl ?_; refine dM (pt b0 0) rfl rfl rfl ?_; refine ds rfl (fun w' hF => nl rfl) rfl ?_; refine ds (v := pt b0 0) rfl (fun w' hF => fax 0 rfl U77 rfl Z35 rfl rfl rfl) rfl ?_; refine ds (v := pt b0 6) rfl (fun w' hF => fax 6 rfl U35 rfl Z32 rfl rfl rfl) rfl ?_; refine ds (v := pt b0 8) rfl (fun w' hF => fax 2 rfl U32 rfl Z30 rfl rfl rfl) rfl ?_; refine dx rfl (ld rfl G30 (Ctx.cell hc (k := 0) rfl rfl rfl)) rfl rfl ?_; refine dM (.int .i64 x1) rfl rfl rfl ?_; refine ds (v := pt b11 1) rfl (fun w' hF => fax 1 rfl U29 rfl Z3 rfl rfl rfl) rfl ?_; refine dx rfl (ld rfl G3 (Ctx.cell hc (k := 6) rfl rfl rfl)) rfl rfl ?_; refine ds rfl (fun w' hF => mlw rfl rfl) rfl ?_; refine dM (.int .i64 j21) rfl rfl rfl ?_; refine ds rfl (fun w' hF => adw rfl rfl) rfl ?_; replace hp := bind_some hp; obtain ⟨y428, hy428, hp⟩ := hp; obtain ⟨b431, o432, u433, hi429, hi430⟩ := Ctx.rdAt hc (k := 1) rfl rfl reads_ro hy428; subst u433; refine ds rfl (fun w' hF => ixx rfl rfl U30 Z88 hi429 hi430 rfl) rfl ?_; replace hc := Ctx.rdCell hc (k := 1) rfl rfl reads_ro hy428; obtain ⟨cs434, hc, hcell435⟩ := hc; replace hc := Ctx.holdC hc; obtain ⟨u436, hc⟩ := hc; subst u436; refine dx rfl (ld rfl G88 (hcell435 0 _ rfl)) rfl rfl ?_; refine ds rfl (fun w' hF => cvi rfl U88 U21) rfl ?_; refine ds rfl (fun w' hF => mlw rfl rfl) rfl ?_; refine deE (Ctx.builtOp (css := [[.int .i32 (IntKind.i32.wrap (16 * (IntKind.i32.wrap y428)))]]) (xs := ([(IntKind.i32.wrap (16 * (IntKind.i32.wrap y428)))] : List Int)) (E := (pInt .i32)) (Ctx.holdsC (f := fun x : Int => [.int .i32 x]) (fun _ _ _ => rfl) hc ([(IntKind.i32.wrap (16 * (IntKind.i32.wrap y428)))] : List Int)) U51 Z21 V21 rfl rfl rfl rfl rfl rfl rfl rfl) rfl rfl ?_; clear hc; rintro _ w438 ⟨a437, rfl, hc⟩; refine ⟨fun j hj hb => trivial, ?_⟩; replace hp := bind_some hp; obtain ⟨z439, hz439, hp⟩ := hp; obtain ⟨hg440, e441⟩ := app_some hz439; refine deE (Ctx.append hc (k := 8) rfl rfl (k2 := 0) rfl rfl reads_own U51 (i := Tryz.t21) rfl rfl rfl rfl rfl rfl rfl rfl hg440) rfl rfl ?_; clear hc; rintro _ w444 ⟨a442, q443, rfl, hc⟩; rw [← e441] at hc ⊢; replace hc := Ctx.n8 hc; refine ⟨fun j hj hb => trivial, ?_⟩; refine dA (.slice a442 z439.length q443) rfl rfl rfl ?_; refine dn (bn (qn (Wreg ?_))); refine mz (.int .i64 j21) <| sz (adw rfl rfl) ?_; refine az (.int .i64 (IntKind.i64.wrap (j21 + 1))) <| rn (qn ?_); replace hc := Ctx.p6 (Ctx.p6 (Ctx.p6 (Ctx.p6 (Ctx.p6 (Ctx.p6 hc))))); replace hc := S_ref08_Run.fd (x := x0) hc; replace hc := Ctx.p2 (Ctx.p1 (Ctx.p2 (Ctx.r1 hc))); exact ⟨m1, Nat.lt_succ_self _, ⟨z439, (IntKind.i64.wrap (j21 + 1)), a442, z439.length, q443, rfl, hp, hc⟩, (kl rfl k0)⟩

def ref04_Ints.L1 (x0 : (List Int)) (x1 : (List Int)) : Nat → Int → Option (Bool)
  | 0, _ => none
  | m1 + 1, j2 =>
    if j2 < ((x0.length : Nat) : Int) then
      (idx x0 j2).bind fun y6 =>
      (idx x1 j2).bind fun y15 =>
      if y6 ≠ y15 then
        some false
      else
        (ref04_Ints.L1 x0 x1 m1) (IntKind.i64.wrap (j2 + 1))
    else
      some true

def ref04_Ints (N : Nat) (x0 : (List Int)) (x1 : (List Int)) : Option (Bool) :=
  if ((x0.length : Nat) : Int) ≠ ((x1.length : Nat) : Int) then
    some false
  else
    ref04_Ints.L1 x0 x1 N 0

theorem ref04_Ints_any {N : Nat} {x0 : (List Int)} {ax0 : Option Addr} {nx0 : Nat} {qx0 : Nat} {P0 : HP} {x1 : (List Int)} {ax1 : Option Addr} {nx1 : Nat} {qx1 : Nat} {P1 : HP} {Fr : List HP} {w : World} {r : Bool} {K : Value → World → Prop} (hrd0 : Reads P0 (pInt .i32) (.slice ax0 nx0 qx0) x0) (hrd1 : Reads P1 (pInt .i32) (.slice ax1 nx1 qx1) x1) (hc : Ctx w (P0 :: P1 :: Fr)) (hp : ref04_Ints N x0 x1 = some r)
    (k : ∀ w', Ctx w' (P0 :: P1 :: Fr) → K (.bool r) w') : Calls Tryz.prog 13 #[.slice ax0 nx0 qx0, .slice ax1 nx1 qx1] w (Ret K) := by
 unfold ref04_Ints at hp; refine Center2 F13 M13 rfl rfl ?_; obtain ⟨hn0, _⟩ := Ctx.rdLen hc (k := 0) rfl rfl hrd0; subst hn0; obtain ⟨hn1, _⟩ := Ctx.rdLen hc (k := 1) rfl rfl hrd1; subst hn1; refine Wseq (Wreg ?_); refine az (.bool false) <| rn (qn (Wseq (Wseq (Wreg ?_)))); refine mz (.slice ax0 x0.length qx0) <| sz (ln rfl U51) ?_; refine mz (.slice ax1 x1.length qx1) <| sz (ln rfl U51) ?_; refine sz (ned rfl rfl) ?_; refine rn (qn ?_); cases hb1 : (decide (((x0.length : Nat) : Int) ≠ ((x1.length : Nat) : Int)))
 · replace hp := gneg hp (of_decide_eq_false hb1); refine Wcf rfl (Wskip (qn (Wseq (Wseq (Wreg ?_))))); refine az (.int .i64 0) <| rn (qn (Wblk ?_)); refine Wloop [4, 5, 11, 12, 13, 14, 15, 16, 17, 18, 19, 20, 21, 22, 23, 24, 25] [5] (fun m vs w' => ∃ j2 : Int, vs = [.int .i64 j2] ∧ ref04_Ints.L1 x0 x1 m j2 = some r ∧ Ctx w' (P0 :: P1 :: Fr)) N ?_ ?_
   · exact ⟨0, rfl, hp, hc⟩
   · clear hp hc; intro m vs u w3 hJ; obtain ⟨j2, rfl, hp, hc⟩ := hJ; rcases m with _ | m1
     · cases (show none = some r from hp)
     rw [ref04_Ints.L1] at hp; refine Wseq (Wseq (Wreg ?_)); refine mz (.int .i64 j2) <| mz (.slice ax0 x0.length qx0) <| sz (ln rfl U51) <| sz (lt' rfl rfl) <| rn (qn ?_); cases hb4 : (decide (j2 < ((x0.length : Nat) : Int)))
     · replace hp := gneg hp (of_decide_eq_false hb4); refine Wcf rfl (Wexit (qx (qx (be (qn (Wseq (Wreg ?_))))))); refine az (.bool true) <| rn (qn (Wret ?_)); obtain rfl := sj hp; refine f1 (v := .bool true) R13 M13 rfl ?_; exact ⟨_, rfl, k _ hc⟩
     · replace hp := gpos hp (of_decide_eq_true hb4); refine Wct rfl (Wskip (qn (Wseq (Wblk (Wseq ?_))))); replace hc := hc.drew; refine Wdrw (fun _ w' => w' = World.drew w3) [0, 0, 3, 7, 0, 0, 48, 112, 255] 0 0 rfl (by kernel_rfl) (fun _ _ => rfl) ?_; generalize hw : World.drew w3 = w5 at *; clear hw; refine dM (.slice ax0 x0.length qx0) rfl rfl rfl ?_; refine dM (.int .i64 j2) rfl rfl rfl ?_; replace hp := bind_some hp; obtain ⟨y6, hy6, hp⟩ := hp; obtain ⟨b9, o10, u11, hi7, hi8⟩ := Ctx.rdAt hc (k := 0) rfl rfl hrd0 hy6; subst u11; refine dE (ixx rfl rfl U51 Z21 hi7 hi8 rfl) rfl rfl ?_; replace hc := Ctx.rdCell hc (k := 0) rfl rfl hrd0 hy6; obtain ⟨cs12, hc, hcell13⟩ := hc; replace hc := Ctx.holdC hc; obtain ⟨u14, hc⟩ := hc; subst u14; refine dE (ld rfl G21 (hcell13 0 _ rfl)) rfl rfl ?_; refine dM (.slice ax1 x1.length qx1) rfl rfl rfl ?_; refine dM (.int .i64 j2) rfl rfl rfl ?_; replace hp := bind_some hp; obtain ⟨y15, hy15, hp⟩ := hp; obtain ⟨b18, o19, u20, hi16, hi17⟩ := Ctx.rdAt hc (k := 1) rfl rfl hrd1 hy15; subst u20; refine dE (ixx rfl rfl U51 Z21 hi16 hi17 rfl) rfl rfl ?_; replace hc := Ctx.rdCell hc (k := 1) rfl rfl hrd1 hy15; obtain ⟨cs21, hc, hcell22⟩ := hc; replace hc := Ctx.holdC hc; obtain ⟨u23, hc⟩ := hc; subst u23; refine dE (ld rfl G21 (hcell22 0 _ rfl)) rfl rfl ?_; refine dE (ned rfl rfl) rfl rfl ?_; refine dn (qn ?_); cases hb24 : (decide (y6 ≠ y15))
       · replace hp := gneg hp (of_decide_eq_false hb24); refine Wcf rfl (Wskip (bn (qn (Wreg ?_)))); refine mz (.int .i64 j2) <| sz (adw rfl rfl) ?_; refine az (.int .i64 (IntKind.i64.wrap (j2 + 1))) <| rn (qn ?_); exact ⟨m1, Nat.lt_succ_self _, ⟨(IntKind.i64.wrap (j2 + 1)), rfl, hp, hc⟩, (kl rfl k0)⟩
       · replace hp := gpos hp (of_decide_eq_true hb24); refine Wct rfl (Wseq (Wreg ?_)); refine az (.bool false) <| rn (qn (Wret (br (qr (qr (br (qr ?_))))))); obtain rfl := sj hp; refine f1 (v := .bool false) R13 M13 rfl ?_; exact ⟨_, rfl, k _ hc⟩
 · replace hp := gpos hp (of_decide_eq_true hb1); refine Wct rfl (Wseq (Wreg ?_)); refine az (.bool false) <| rn (qn (Wret (qr ?_))); obtain rfl := sj hp; refine f1 (v := .bool false) R13 M13 rfl ?_; exact ⟨_, rfl, k _ hc⟩

theorem bd_22_0_1_2_3_4_5 {ρ : Operand → Value} {w : World} {dst : Option Nat} {ty : TypeId} {pos : String} {after : Array Edge} {g : Option (Nat × Bool)} {x0 x1 x2 x3 x4 x5 : Operand} {k0 : IntKind} {a0 : Int} {k1 : IntKind} {a1 : Int} {k2 : IntKind} {a2 : Int} {k3 : IntKind} {a3 : Int} {k4 : IntKind} {a4 : Int} {k5 : IntKind} {a5 : Int} (h0 : ρ x0 = (.int k0 a0)) (h1 : ρ x1 = (.int k1 a1)) (h2 : ρ x2 = (.int k2 a2)) (h3 : ρ x3 = (.int k3 a3)) (h4 : ρ x4 = (.int k4 a4)) (h5 : ρ x5 = (.int k5 a5)) :
    (execOp ρ ⟨dst, .build 22 #[(0, x0), (1, x1), (2, x2), (3, x3), (4, x4), (5, x5)], ty, pos, after, g⟩).run Tryz.prog w = .ok (.value (.agg #[(.int k0 a0), (.int k1 a1), (.int k2 a2), (.int k3 a3), (.int k4 a4), (.int k5 a5)])) w := by
  simp [execOp, Instr.build, Instr.fill, Tryz.zeroValue22, Tryz.runUnderlying22, Tryz.sizeOf3, h0, h1, h2, h3, h4, h5, Value.cells]

theorem bd_37_0_1 {ρ : Operand → Value} {w : World} {dst : Option Nat} {ty : TypeId} {pos : String} {after : Array Edge} {g : Option (Nat × Bool)} {x0 x1 : Operand} {k0 : IntKind} {a0 : Int} {k1 : IntKind} {a1 : Int} (h0 : ρ x0 = (.int k0 a0)) (h1 : ρ x1 = (.int k1 a1)) :
    (execOp ρ ⟨dst, .build 37 #[(0, x0), (1, x1)], ty, pos, after, g⟩).run Tryz.prog w = .ok (.value (.agg #[(.int k0 a0), (.int k1 a1)])) w := by
  simp [execOp, Instr.build, Instr.fill, Tryz.zeroValue37, Tryz.runUnderlying37, Tryz.sizeOf3, h0, h1, Value.cells]

theorem bd_81_2 {ρ : Operand → Value} {w : World} {dst : Option Nat} {ty : TypeId} {pos : String} {after : Array Edge} {g : Option (Nat × Bool)} {x2 : Operand} {k2 : IntKind} {a2 : Int} (h2 : ρ x2 = (.int k2 a2)) :
    (execOp ρ ⟨dst, .build 81 #[(2, x2)], ty, pos, after, g⟩).run Tryz.prog w = .ok (.value (.agg #[(.int .i64 0), (.int .i64 0), (.int k2 a2), (.int .i64 0)])) w := by
  simp [execOp, Instr.build, Instr.fill, Tryz.zeroValue81, Tryz.runUnderlying81, Tryz.sizeOf3, h2, Value.cells]

theorem bd_77_0 {ρ : Operand → Value} {w : World} {dst : Option Nat} {ty : TypeId} {pos : String} {after : Array Edge} {g : Option (Nat × Bool)} {x0 : Operand} {c0_0 c0_1 c0_2 c0_3 c0_4 c0_5 c0_6 c0_7 c0_8 c0_9 c0_10 c0_11 c0_12 c0_13 : Value} (h0 : ρ x0 = .agg #[c0_0, c0_1, c0_2, c0_3, c0_4, c0_5, c0_6, c0_7, c0_8, c0_9, c0_10, c0_11, c0_12, c0_13]) :
    (execOp ρ ⟨dst, .build 77 #[(0, x0)], ty, pos, after, g⟩).run Tryz.prog w = .ok (.value (.agg #[c0_0, c0_1, c0_2, c0_3, c0_4, c0_5, c0_6, c0_7, c0_8, c0_9, c0_10, c0_11, c0_12, c0_13, (.slice none 0 0)])) w := by
  simp [execOp, Instr.build, Instr.fill, Tryz.zeroValue77, Tryz.runUnderlying77, Tryz.sizeOf35, Tryz.sizeOf75, h0, Value.cells]

def law13_awake (N : Nat) : Option (Bool) :=
  (ref08_Made N (⟨1, 1, 1, 3, 4, 4⟩ : A6_i64) 5 ([])).bind fun r1 =>
  (ref11_Take N (⟨(⟨r1.Shape.Layers, r1.Shape.Width, r1.Shape.Heads, r1.Shape.Inner, r1.Shape.Vocab, r1.Shape.Places⟩ : S_api_Shape), (⟨r1.Embed.Rows, r1.Embed.Cols, r1.Embed.V⟩ : S_api_Mat), r1.Blocks, r1.Last, (⟨r1.Head.Rows, r1.Head.Cols, r1.Head.V⟩ : S_api_Mat)⟩ : S_api_Weights) (⟨1, 1⟩ : S_api_Cut) 0 0).bind fun r23 =>
  (cache_New 100).bind fun r45 =>
  optc r45.1 (
    some false) fun y49 =>
  if r45.2 ≠ 0 then
    some false
  else
    (law13_through N ([(⟨(⟨r23.Shape.Layers, r23.Shape.Width, r23.Shape.Heads, r23.Shape.Inner, r23.Shape.Vocab, r23.Shape.Places⟩ : S_api_Shape), (⟨r23.Cut.Stages, r23.Cut.Parts⟩ : S_api_Cut), r23.Stage, r23.Part, (⟨r23.Embed.Rows, r23.Embed.Cols, r23.Embed.V⟩ : S_api_Mat), r23.Blocks, r23.Last, (⟨r23.Head.Rows, r23.Head.Cols, r23.Head.V⟩ : S_api_Mat)⟩ : S_api_Shard)]) ([y49]) (⟨0, 0, 1, 0⟩ : S_law13_run)).bind fun r58 =>
    if r58.2.1 = true then
      (ref08_Run_One N (⟨(⟨(⟨r1.Shape.Layers, r1.Shape.Width, r1.Shape.Heads, r1.Shape.Inner, r1.Shape.Vocab, r1.Shape.Places⟩ : S_api_Shape), (⟨r1.Embed.Rows, r1.Embed.Cols, r1.Embed.V⟩ : S_api_Mat), r1.Blocks, r1.Last, (⟨r1.Head.Rows, r1.Head.Cols, r1.Head.V⟩ : S_api_Mat)⟩ : S_api_Weights), []⟩ : S_ref08_Run) 1).bind fun r68 =>
      (ref04_Ints N r58.1 r68.1).bind fun r74 =>
      some r74
    else
      some false

theorem law13_awake_any {N : Nat} {Fr : List HP} {w : World} {r : Bool} {K : Value → World → Prop}  (hc : Ctx w (Fr)) (hp : law13_awake N = some r)
    (k : ∀ w', Ctx w' (Fr) → K (.bool r) w') : Calls Tryz.prog 7 #[] w (Ret K) := by
 unfold law13_awake at hp; refine Center (args := []) (l := []) F7 M7 rfl rfl rfl ?_; refine Wseq (Wreg ?_); refine az (.bool false) <| rn (qn (Wseq (Wreg ?_))); refine sz (v := .agg #[.int .i64 1, .int .i64 1, .int .i64 1, .int .i64 3, .int .i64 4, .int .i64 4]) (bd_22_0_1_2_3_4_5 rfl rfl rfl rfl rfl rfl) ?_; replace hc := hc.nilRo (pInt .i8); replace hc := hc.dz 0; obtain ⟨r1, hr1, hp⟩ := bind_some hp; refine kz C27 ?_; refine ref08_Made_any (x0 := (⟨1, 1, 1, 3, 4, 4⟩ : A6_i64)) reads_ro hc hr1 ?_; clear hc; intro a2 n3 q4 a5 n6 q7 a8 n9 q10 a11 n12 q13 w14 hc; obtain rfl := hc.rz 0 reads_ro; obtain rfl := hc.rz 1 reads_ro; obtain rfl := hc.rz 2 reads_ro; obtain rfl := hc.rz 3 reads_ro; refine rsE (Ctx.allocOp (cs := [.int .i64 0, .int .i64 0, .int .i64 0, .int .i64 0, .int .i64 0, .int .i64 0, .int .i64 0, .int .i64 0, .slice none 0 0, .slice none 0 0, .slice none 0 0, .int .i64 0, .int .i64 0, .slice none 0 0]) hc V35 rfl) rfl ?_; clear hc; rintro _ w21 ⟨b19, rfl, hc⟩; refine ruE (Ctx.putAgg hc (k := 0) rfl rfl (vs := (S_api_Weights.cz r1 a2 q4 a5 q7 a8 q10 a11 q13)) (cs' := (S_api_Weights.cz r1 a2 q4 a5 q7 a8 q10 a11 q13)) rfl rfl rfl Z35 rfl rfl rfl) rfl ?_; clear hc; rintro w22 hc; replace hc := Ctx.n0 hc; refine rn (qn (Wseq (Wreg ?_))); refine sz (v := .agg (S_api_Weights.cz r1 a2 q4 a5 q7 a8 q10 a11 q13).toArray) (ldg rfl G35 Z35 rfl (Ctx.cells hc (k := 0) rfl rfl 0 (vs := (S_api_Weights.cz r1 a2 q4 a5 q7 a8 q10 a11 q13)) rfl)) ?_; refine sz (v := .agg #[.int .i64 1, .int .i64 1]) (bd_37_0_1 rfl rfl) ?_; replace hc := hc.dz 1; replace hc := hc.dz 3; replace hc := hc.dz 5; replace hc := hc.dz 7; obtain ⟨r23, hr23, hp⟩ := bind_some hp; replace hc := Ctx.p3 (Ctx.p2 (Ctx.p1 hc)); refine kz C9 ?_; refine ref11_Take_any (x0 := r1) (x1 := (⟨1, 1⟩ : S_api_Cut)) hc hr23 ?_; clear hc; intro a24 n25 q26 a27 n28 q29 a30 n31 q32 a33 n34 q35 w36 hc; obtain rfl := hc.rz 0 reads_ro; obtain rfl := hc.rz 1 reads_ro; obtain rfl := hc.rz 2 reads_ro; obtain rfl := hc.rz 3 reads_ro; refine rsE (Ctx.allocOp (cs := [.int .i64 0, .int .i64 0, .int .i64 0, .int .i64 0, .int .i64 0, .int .i64 0, .int .i64 0, .int .i64 0, .int .i64 0, .int .i64 0, .int .i64 0, .int .i64 0, .slice none 0 0, .slice none 0 0, .slice none 0 0, .int .i64 0, .int .i64 0, .slice none 0 0]) hc V41 rfl) rfl ?_; clear hc; rintro _ w43 ⟨b41, rfl, hc⟩; refine ruE (Ctx.putAgg hc (k := 0) rfl rfl (vs := (S_api_Shard.cz r23 a24 q26 a27 q29 a30 q32 a33 q35)) (cs' := (S_api_Shard.cz r23 a24 q26 a27 q29 a30 q32 a33 q35)) rfl rfl rfl Z41 rfl rfl rfl) rfl ?_; clear hc; rintro w44 hc; replace hc := Ctx.n0 hc; refine rn (qn (Wseq (Wreg ?_))); obtain ⟨r45, hr45, hp⟩ := bind_some hp; refine kz C10 ?_; refine cache_New_any hc hr45 ?_; clear hc; intro v46 w47 hc; refine mz (.tuple #[v46, .int .i64 r45.2]) <| sz (ext (v := v46) rfl rfl) ?_; refine sz (ext (v := .int .i64 r45.2) rfl rfl) ?_; refine az (v46) <| az (.int .i64 r45.2) <| rn (qn (Wseq (Wseq (Wreg ?_)))); refine mz (v46) ?_; cases hb48 : r45.1
 · replace hp := optN hp hb48; rw [hb48] at hc; replace hc := Ctx.ptoN hc; obtain ⟨u50, hc⟩ := hc; subst u50; refine sz (v := .bool true) (ept U43 rfl rfl) ?_; refine mz (.bool true) ?_; (iterate 2 refine r0 rfl ?_); refine sz (v := .bool true) (pkt (v := .bool true) rfl rfl) ?_; refine rn (qn (Wct rfl (Wseq (Wreg ?_)))); refine az (.bool false) <| rn (qn (Wret (qr ?_))); replace hc := Ctx.r0 (Ctx.r1 (Ctx.r2 (Ctx.r3 (Ctx.r4 (Ctx.r5 (Ctx.r6 (Ctx.r7 (Ctx.r8 (Ctx.r9 (Ctx.r10 (Ctx.r11 hc))))))))))); obtain rfl := sj hp; refine f1 (v := .bool false) R7 M7 rfl ?_; exact ⟨_, rfl, k _ hc⟩
 · rename_i y49; replace hp := optS hp hb48; rw [hb48] at hc; replace hc := Ctx.ptoS hc; obtain ⟨b51, u52, hc⟩ := hc; subst u52; refine sz (v := .bool false) (epf U43 rfl rfl) ?_; refine mz (.bool false) <| mz (.int .i64 r45.2) <| sz (ned rfl rfl) <| sz (v := .bool (decide (r45.2 ≠ 0))) (pkf (v := .bool (decide (r45.2 ≠ 0))) rfl rfl) <| rn (qn ?_); cases hb53 : (decide (r45.2 ≠ 0))
   · replace hp := gneg hp (of_decide_eq_false hb53); refine Wcf rfl (Wskip (qn (Wseq (Wreg ?_)))); refine sz (v := .agg (S_api_Shard.cz r23 a24 q26 a27 q29 a30 q32 a33 q35).toArray) (ldg rfl G41 Z41 rfl (Ctx.cells hc (k := 1) rfl rfl 0 (vs := (S_api_Shard.cz r23 a24 q26 a27 q29 a30 q32 a33 q35)) rfl)) ?_; replace hc := hc.dz 5; replace hc := hc.dz 5; replace hc := hc.dz 5; replace hc := hc.dz 5; replace hc : Ctx w47 (Hold S_api_Shard.pr (S_api_Shard.cz r23 a24 q26 a27 q29 a30 q32 a33 q35) r23 :: S_cache_Store.hp b51 y49 :: B b41 (S_api_Shard.cz r23 a24 q26 a27 q29 a30 q32 a33 q35) 41 :: hR .i8 a24 q26 r23.Embed.V :: hS S_api_Block.pr a27 q29 r23.Blocks :: hR .i8 a30 q32 r23.Last :: hR .i8 a33 q35 r23.Head.V :: B b19 (S_api_Weights.cz r1 a2 q4 a5 q7 a8 q10 a11 q13) 35 :: hR .i8 a2 q4 r1.Embed.V :: hS S_api_Block.pr a5 q7 r1.Blocks :: hR .i8 a8 q10 r1.Last :: hR .i8 a11 q13 r1.Head.V :: Hold (pRo (pInt .i8)) [.slice none 0 0] ([]) :: Hold (pRo (pInt .i8)) [.slice none 0 0] ([]) :: Fr) := S_api_Shard.cl hc; refine rsE (Ctx.builtOp (css := [(S_api_Shard.cz r23 a24 q26 a27 q29 a30 q32 a33 q35)]) (xs := ([r23] : List S_api_Shard)) (E := S_api_Shard.pr) hc U72 Z41 V41 rfl rfl rfl rfl rfl rfl rfl rfl) rfl ?_; clear hc; rintro _ w55 ⟨a54, rfl, hc⟩; refine mz (pt b51 0) ?_; replace hc := Ctx.p1 hc; replace hc : Ctx w55 ((vPt S_cache_Store.hp).r [pt b51 0] y49 :: Own S_api_Shard.pr 41 (.slice a54 1 1) ([r23]) :: B b41 (S_api_Shard.cz r23 a24 q26 a27 q29 a30 q32 a33 q35) 41 :: hR .i8 a24 q26 r23.Embed.V :: hS S_api_Block.pr a27 q29 r23.Blocks :: hR .i8 a30 q32 r23.Last :: hR .i8 a33 q35 r23.Head.V :: B b19 (S_api_Weights.cz r1 a2 q4 a5 q7 a8 q10 a11 q13) 35 :: hR .i8 a2 q4 r1.Embed.V :: hS S_api_Block.pr a5 q7 r1.Blocks :: hR .i8 a8 q10 r1.Last :: hR .i8 a11 q13 r1.Head.V :: Hold (pRo (pInt .i8)) [.slice none 0 0] ([]) :: Hold (pRo (pInt .i8)) [.slice none 0 0] ([]) :: Fr) := Ctx.exB _ _ (Ctx.sepB (Ctx.puB rfl hc)); replace hc := Ctx.anyB (m := 1) [pt b51 0] rfl rfl hc; refine rsE (Ctx.builtOp (css := [[pt b51 0]]) (xs := ([[pt b51 0]] : List (List Value))) (E := pAny 1) hc U73 Z43 V43 rfl rfl rfl rfl rfl rfl rfl rfl) rfl ?_; clear hc; rintro _ w57 ⟨a56, rfl, hc⟩; replace hc : Ctx w57 (OwnV (vPt S_cache_Store.hp) 43 (.slice a56 1 1) ([y49]) :: Own S_api_Shard.pr 41 (.slice a54 1 1) ([r23]) :: B b41 (S_api_Shard.cz r23 a24 q26 a27 q29 a30 q32 a33 q35) 41 :: hR .i8 a24 q26 r23.Embed.V :: hS S_api_Block.pr a27 q29 r23.Blocks :: hR .i8 a30 q32 r23.Last :: hR .i8 a33 q35 r23.Head.V :: B b19 (S_api_Weights.cz r1 a2 q4 a5 q7 a8 q10 a11 q13) 35 :: hR .i8 a2 q4 r1.Embed.V :: hS S_api_Block.pr a5 q7 r1.Blocks :: hR .i8 a8 q10 r1.Last :: hR .i8 a11 q13 r1.Head.V :: Hold (pRo (pInt .i8)) [.slice none 0 0] ([]) :: Hold (pRo (pInt .i8)) [.slice none 0 0] ([]) :: Fr) := Ctx.ownV1 hc; refine sz (v := .agg #[.int .i64 0, .int .i64 0, .int .i64 1, .int .i64 0]) (bd_81_2 rfl) ?_; obtain ⟨r58, hr58, hp⟩ := bind_some hp; replace hc := Ctx.p1 hc; refine kz C20 ?_; refine law13_through_any (x0 := [r23]) (x2 := (⟨0, 0, 1, 0⟩ : S_law13_run)) reads_own hc hr58 ?_; clear hc; intro a59 n60 q61 w62 hc; obtain rfl := hc.rz 0 reads_own; refine mz (.tuple #[.slice a59 r58.1.length q61, .bool r58.2.1]) <| sz (ext (v := .slice a59 r58.1.length q61) rfl rfl) ?_; refine sz (ext (v := .bool r58.2.1) rfl rfl) ?_; refine az (.slice a59 r58.1.length q61) <| az (.bool r58.2.1) <| rn (qn (Wseq (Wreg ?_))); refine sz (v := .agg (S_api_Weights.cz r1 a2 q4 a5 q7 a8 q10 a11 q13).toArray) (ldg rfl G35 Z35 rfl (Ctx.cells hc (k := 8) rfl rfl 0 (vs := (S_api_Weights.cz r1 a2 q4 a5 q7 a8 q10 a11 q13)) rfl)) ?_; refine sz (v := .agg #[.int .i64 r1.Shape.Layers, .int .i64 r1.Shape.Width, .int .i64 r1.Shape.Heads, .int .i64 r1.Shape.Inner, .int .i64 r1.Shape.Vocab, .int .i64 r1.Shape.Places, .int .i64 r1.Embed.Rows, .int .i64 r1.Embed.Cols, .slice a2 r1.Embed.V.length q4, .slice a5 r1.Blocks.length q7, .slice a8 r1.Last.length q10, .int .i64 r1.Head.Rows, .int .i64 r1.Head.Cols, .slice a11 r1.Head.V.length q13, .slice none 0 0]) (bd_77_0 rfl) ?_; refine rsE (Ctx.boxOp (cs := [.int .i64 r1.Shape.Layers, .int .i64 r1.Shape.Width, .int .i64 r1.Shape.Heads, .int .i64 r1.Shape.Inner, .int .i64 r1.Shape.Vocab, .int .i64 r1.Shape.Places, .int .i64 r1.Embed.Rows, .int .i64 r1.Embed.Cols, .slice a2 r1.Embed.V.length q4, .slice a5 r1.Blocks.length q7, .slice a8 r1.Last.length q10, .int .i64 r1.Head.Rows, .int .i64 r1.Head.Cols, .slice a11 r1.Head.V.length q13, .slice none 0 0]) (v := .agg #[.int .i64 r1.Shape.Layers, .int .i64 r1.Shape.Width, .int .i64 r1.Shape.Heads, .int .i64 r1.Shape.Inner, .int .i64 r1.Shape.Vocab, .int .i64 r1.Shape.Places, .int .i64 r1.Embed.Rows, .int .i64 r1.Embed.Cols, .slice a2 r1.Embed.V.length q4, .slice a5 r1.Blocks.length q7, .slice a8 r1.Last.length q10, .int .i64 r1.Head.Rows, .int .i64 r1.Head.Cols, .slice a11 r1.Head.V.length q13, .slice none 0 0]) hc rfl rfl) rfl ?_; clear hc; rintro _ w66 ⟨b64, rfl, hc⟩; refine az (pt b64 0) <| rn (qn (Wseq (Wreg ?_))); refine mz (.bool r58.2.1) <| mz (.bool r58.2.1) ?_; cases hb67 : r58.2.1
     · replace hp := gneg hp (by rw [hb67]; exact Bool.false_ne_true); (iterate 4 refine r0 rfl ?_); refine sz (v := .bool false) (pkf (v := .bool false) rfl rfl) ?_; refine az (.bool false) <| rn (qn (Wret ?_)); replace hc := Ctx.r4 (Ctx.r5 (Ctx.r6 (Ctx.r7 (Ctx.r8 (Ctx.r9 (Ctx.r10 (Ctx.r11 (Ctx.r12 (Ctx.r13 (Ctx.r14 (Ctx.r15 hc))))))))))); replace hc := Ctx.r0 (Ctx.r1 (Ctx.r2 (Ctx.r3 hc))); obtain rfl := sj hp; refine f1 (v := .bool false) R7 M7 rfl ?_; exact ⟨_, rfl, k _ hc⟩
     · replace hp := gpos hp hb67; refine mz (.slice a59 r58.1.length q61) <| mz (pt b64 0) ?_; replace hc := hc.nilOwnV S_ref08_Kept.vp 132; replace hc := Ctx.p5 (Ctx.p14 (Ctx.p14 (Ctx.p14 (Ctx.p14 hc)))); replace hc := S_ref08_Run.fd (x := (⟨r1, []⟩ : S_ref08_Run)) hc; obtain ⟨r68, hr68, hp⟩ := bind_some hp; refine kz C21 ?_; refine ref08_Run_One_any (x0 := (⟨r1, []⟩ : S_ref08_Run)) hc hr68 ?_; clear hc; intro a69 n70 q71 w72 hc; obtain rfl := hc.rz 0 reads_own; obtain ⟨r74, hr74, hp⟩ := bind_some hp; replace hc := Ctx.p2 hc; refine kz C13 ?_; refine ref04_Ints_any reads_own reads_own hc hr74 ?_; clear hc; intro w75 hc; refine sz (v := .bool r74) (pkt (v := .bool r74) rfl rfl) ?_; refine az (.bool r74) <| rn (qn (Wret ?_)); replace hc := Ctx.r1 (Ctx.r2 (Ctx.r3 (Ctx.r4 (Ctx.r5 (Ctx.r6 (Ctx.r7 (Ctx.r8 (Ctx.r9 (Ctx.r10 (Ctx.r11 (Ctx.r12 hc))))))))))); replace hc := Ctx.r0 hc; obtain rfl := sj hp; refine f1 (v := .bool r74) R7 M7 rfl ?_; exact ⟨_, rfl, k _ hc⟩
   · replace hp := gpos hp (of_decide_eq_true hb53); refine Wct rfl (Wseq (Wreg ?_)); refine az (.bool false) <| rn (qn (Wret (qr ?_))); replace hc := Ctx.r1 (Ctx.r2 (Ctx.r3 (Ctx.r4 (Ctx.r5 (Ctx.r6 (Ctx.r7 (Ctx.r8 (Ctx.r9 (Ctx.r10 (Ctx.r11 (Ctx.r12 hc))))))))))); replace hc := Ctx.r0 hc; obtain rfl := sj hp; refine f1 (v := .bool false) R7 M7 rfl ?_; exact ⟨_, rfl, k _ hc⟩

def ref13_Join.L2 (N : Nat) (x1 : (List (List Int))) (j1 : (List Int)) (j5 : Int) (k1 : (List Int) → Int → Option ((List Int))) : Nat → (List Int) → Int → Option ((List Int))
  | 0, _, _ => none
  | m2 + 1, j15, j19 =>
    if j19 < ((x1.length : Nat) : Int) then
      (idx x1 j19).bind fun y33 =>
      (idx y33 j5).bind fun y45 =>
      (app j15 ([(IntKind.i64.wrap y45)])).bind fun z56 =>
      (ref13_Join.L2 N x1 j1 j5 k1 m2) z56 (IntKind.i64.wrap (j19 + 1))
    else
      (ref01_Wrap N j15).bind fun r23 =>
      (app j1 ([r23])).bind fun z27 =>
      k1 z27 (IntKind.i64.wrap (j5 + 1))

def ref13_Join.L1 (N : Nat) (x0 : (List Int)) (x1 : (List (List Int))) : Nat → (List Int) → Int → Option ((List Int))
  | 0, _, _ => none
  | m1 + 1, j1, j5 =>
    if j5 < ((x0.length : Nat) : Int) then
      ref13_Join.L2 N x1 j1 j5 (ref13_Join.L1 N x0 x1 m1) N ([]) 0
    else
      (ref05_Join N x0 j1 1 4).bind fun r9 =>
      some r9

def ref13_Join (N : Nat) (x0 : (List Int)) (x1 : (List (List Int))) : Option ((List Int)) :=
  ref13_Join.L1 N x0 x1 N ([]) 0

theorem ref13_Join_any {N : Nat} {x0 : (List Int)} {ax0 : Option Addr} {nx0 : Nat} {qx0 : Nat} {P0 : HP} {x1 : (List (List Int))} {ax1 : Option Addr} {nx1 : Nat} {qx1 : Nat} {P1 : HP} {Fr : List HP} {w : World} {r : (List Int)} {K : Value → World → Prop} (hrd0 : Reads P0 (pInt .i32) (.slice ax0 nx0 qx0) x0) (hrd1 : Reads P1 (pRo (pInt .i32)) (.slice ax1 nx1 qx1) x1) (hc : Ctx w (P0 :: P1 :: Fr)) (hp : ref13_Join N x0 x1 = some r)
    (k : ∀ (a62 : Option Addr) (n63 : Nat) (q64 : Nat) w', Ctx w' (Own (pInt .i32) 21 (.slice a62 n63 q64) r :: P0 :: P1 :: Fr) → K (.slice a62 n63 q64) w') : Calls Tryz.prog 24 #[.slice ax0 nx0 qx0, .slice ax1 nx1 qx1] w (Ret K) := by
 unfold ref13_Join at hp; refine Center2 F24 M24 rfl rfl ?_; obtain ⟨hn0, _⟩ := Ctx.rdLen hc (k := 0) rfl rfl hrd0; subst hn0; obtain ⟨hn1, _⟩ := Ctx.rdLen hc (k := 1) rfl rfl hrd1; subst hn1; refine Wseq (Wreg ?_); refine az (.slice none 0 0) <| rn (qn (Wseq (Wreg ?_))); refine az (.slice none 0 0) <| rn (qn (Wseq (Wseq (Wreg ?_)))); refine az (.int .i64 0) <| rn (qn (Wblk ?_)); replace hc := hc.nilOwn (pInt .i32) 21; replace hc := Ctx.p2 (Ctx.p2 hc); refine Wloop (5 :: 6 :: 7 :: 8 :: 9 :: 10 :: 11 :: 12 :: 13 :: 14 :: 15 :: 16 :: 17 :: 18 :: 19 :: 20 :: 21 :: 22 :: 23 :: 24 :: 25 :: 26 :: 27 :: 28 :: 29 :: 30 :: 31 :: 32 :: 33 :: 34 :: 35 :: 36 :: []) [5, 6] (fun m vs w' => ∃ j1 : (List Int), ∃ j5 : Int, ∃ a2 : Option Addr, ∃ n3 : Nat, ∃ q4 : Nat, vs = [.slice a2 n3 q4, .int .i64 j5] ∧ ref13_Join.L1 N x0 x1 m j1 j5 = some r ∧ Ctx w' (P0 :: P1 :: Own (pInt .i32) 21 (.slice a2 n3 q4) j1 :: Fr)) N ?_ ?_
 · exact ⟨[], 0, none, 0, 0, rfl, hp, hc⟩
 · clear hp hc; intro m vs u w6 hJ; obtain ⟨j1, j5, a2, n3, q4, rfl, hp, hc⟩ := hJ; obtain rfl := hc.rz 2 reads_own; rcases m with _ | m1
   · cases (show none = some r from hp)
   rw [ref13_Join.L1] at hp; refine Wseq (Wseq (Wreg ?_)); refine mz (.int .i64 j5) <| mz (.slice ax0 x0.length qx0) <| sz (ln rfl U51) <| sz (lt' rfl rfl) <| rn (qn ?_); cases hb8 : (decide (j5 < ((x0.length : Nat) : Int)))
   · replace hp := gneg hp (of_decide_eq_false hb8); refine Wcf rfl (Wexit (qx (qx (be (qn (Wseq (Wreg ?_))))))); refine mz (.slice ax0 x0.length qx0) <| mz (.slice a2 j1.length q4) ?_; obtain ⟨r9, hr9, hp⟩ := bind_some hp; replace hc := Ctx.p1 (Ctx.p2 hc); refine kz C57 ?_; refine ref05_Join_any hrd0 reads_own hc hr9 ?_; clear hc; intro a10 n11 q12 w13 hc; obtain rfl := hc.rz 0 reads_own; refine az (.slice a10 r9.length q12) <| rn (qn (Wret ?_)); replace hc := Ctx.r2 hc; obtain rfl := sj hp; refine f1 (v := .slice a10 r9.length q12) R24 M24 rfl ?_; exact ⟨_, rfl, k _ _ _ _ hc⟩
   · replace hp := gpos hp (of_decide_eq_true hb8); refine Wct rfl (Wskip (qn (Wseq (Wblk (Wseq (Wreg ?_)))))); refine az (.slice none 0 0) <| rn (qn (Wseq (Wseq (Wreg ?_)))); refine az (.int .i64 0) <| rn (qn (Wblk ?_)); replace hc := hc.nilOwn (pInt .i64) 2; replace hc := Ctx.p3 (Ctx.p3 (Ctx.p3 hc)); refine Wloop [7, 8, 15, 16, 17, 18, 19, 20, 21, 22, 23, 24, 25, 26, 27, 28, 29, 30, 31] [7, 8] (fun m vs w' => ∃ j15 : (List Int), ∃ j19 : Int, ∃ a16 : Option Addr, ∃ n17 : Nat, ∃ q18 : Nat, vs = [.slice a16 n17 q18, .int .i64 j19] ∧ ref13_Join.L2 N x1 j1 j5 (ref13_Join.L1 N x0 x1 m1) m j15 j19 = some r ∧ Ctx w' (P0 :: P1 :: oR .i32 21 a2 q4 j1 :: Own (pInt .i64) 2 (.slice a16 n17 q18) j15 :: Fr)) N ?_ ?_
     · exact ⟨[], 0, none, 0, 0, rfl, hp, hc⟩
     · clear hp hc; intro m vs u w20 hJ; obtain ⟨j15, j19, a16, n17, q18, rfl, hp, hc⟩ := hJ; obtain rfl := hc.rz 3 reads_own; rcases m with _ | m2
       · cases (show none = some r from hp)
       rw [ref13_Join.L2] at hp; refine Wseq (Wseq (Wreg ?_)); refine mz (.int .i64 j19) <| mz (.slice ax1 x1.length qx1) <| sz (ln rfl U26) <| sz (lt' rfl rfl) <| rn (qn ?_); cases hb22 : (decide (j19 < ((x1.length : Nat) : Int)))
       · replace hp := gneg hp (of_decide_eq_false hb22); refine Wcf rfl (Wexit (qx (qx (be (qn (Wreg ?_)))))); refine mz (.slice a2 j1.length q4) <| mz (.slice a16 j15.length q18) ?_; obtain ⟨r23, hr23, hp⟩ := bind_some hp; replace hc := Ctx.p3 hc; refine kz C50 ?_; refine ref01_Wrap_any reads_own hc hr23 ?_; clear hc; intro w24 hc; refine rsE (Ctx.builtOp (css := [[.int .i32 r23]]) (xs := ([r23] : List Int)) (E := (pInt .i32)) (Ctx.holdsC (f := fun x : Int => [.int .i32 x]) (fun _ _ _ => rfl) hc ([r23] : List Int)) U51 Z21 V21 rfl rfl rfl rfl rfl rfl rfl rfl) rfl ?_; clear hc; rintro _ w26 ⟨a25, rfl, hc⟩; replace hp := bind_some hp; obtain ⟨z27, hz27, hp⟩ := hp; obtain ⟨hg28, e29⟩ := app_some hz27; refine rsE (Ctx.append hc (k := 4) rfl rfl (k2 := 0) rfl rfl reads_own U51 (i := Tryz.t21) rfl rfl rfl rfl rfl rfl rfl rfl hg28) rfl ?_; clear hc; rintro _ w32 ⟨a30, q31, rfl, hc⟩; rw [← e29] at hc ⊢; replace hc := Ctx.n4 hc; refine az (.slice a30 z27.length q31) <| rn (bn (qn (Wreg ?_))); refine mz (.int .i64 j5) <| sz (adw rfl rfl) ?_; refine az (.int .i64 (IntKind.i64.wrap (j5 + 1))) <| rn (qn ?_); replace hc := Ctx.r0 (Ctx.r1 hc); exact ⟨m1, Nat.lt_succ_self _, ⟨z27, (IntKind.i64.wrap (j5 + 1)), a30, z27.length, q31, rfl, hp, hc⟩, (kl rfl (km rfl (kl rfl k0)))⟩
       · replace hp := gpos hp (of_decide_eq_true hb22); refine Wct rfl (Wskip (qn (Wseq (Wblk (Wreg ?_))))); refine mz (.slice a16 j15.length q18) <| mz (.slice ax1 x1.length qx1) <| mz (.int .i64 j19) ?_; replace hp := bind_some hp; obtain ⟨y33, hy33, hp⟩ := hp; obtain ⟨b36, o37, u38, hi34, hi35⟩ := Ctx.rdAt hc (k := 1) rfl rfl hrd1 hy33; subst u38; refine sz (ixx rfl rfl U26 Z51 hi34 hi35 rfl) ?_; replace hc := Ctx.rdCell hc (k := 1) rfl rfl hrd1 hy33; obtain ⟨cs39, hc, hcell40⟩ := hc; replace hc := Ctx.holdRo hc; obtain ⟨v44, u41, hc⟩ := hc; subst u41; obtain ⟨a42, q43, u41⟩ := hc.rd (k := 0) rfl rfl reads_ro; subst u41; refine sz (ld rfl G51 (hcell40 0 _ rfl)) ?_; refine mz (.int .i64 j5) ?_; replace hp := bind_some hp; obtain ⟨y45, hy45, hp⟩ := hp; obtain ⟨b48, o49, u50, hi46, hi47⟩ := Ctx.rdAt hc (k := 0) rfl rfl reads_ro hy45; subst u50; refine sz (ixx rfl rfl U51 Z21 hi46 hi47 rfl) ?_; replace hc := Ctx.rdCell hc (k := 0) rfl rfl reads_ro hy45; obtain ⟨cs51, hc, hcell52⟩ := hc; replace hc := Ctx.holdC hc; obtain ⟨u53, hc⟩ := hc; subst u53; refine sz (ld rfl G21 (hcell52 0 _ rfl)) ?_; refine sz (cvi rfl U21 U2) ?_; refine rsE (Ctx.builtOp (css := [[.int .i64 (IntKind.i64.wrap y45)]]) (xs := ([(IntKind.i64.wrap y45)] : List Int)) (E := (pInt .i64)) (Ctx.holdsC (f := fun x : Int => [.int .i64 x]) (fun _ _ _ => rfl) hc ([(IntKind.i64.wrap y45)] : List Int)) U125 Z2 V2 rfl rfl rfl rfl rfl rfl rfl rfl) rfl ?_; clear hc; rintro _ w55 ⟨a54, rfl, hc⟩; replace hp := bind_some hp; obtain ⟨z56, hz56, hp⟩ := hp; obtain ⟨hg57, e58⟩ := app_some hz56; refine rsE (Ctx.append hc (k := 5) rfl rfl (k2 := 0) rfl rfl reads_own U125 (i := Tryz.t2) rfl rfl rfl rfl rfl rfl rfl rfl hg57) rfl ?_; clear hc; rintro _ w61 ⟨a59, q60, rfl, hc⟩; rw [← e58] at hc ⊢; replace hc := Ctx.n5 hc; refine az (.slice a59 z56.length q60) <| rn (bn (qn (Wreg ?_))); refine mz (.int .i64 j19) <| sz (adw rfl rfl) ?_; refine az (.int .i64 (IntKind.i64.wrap (j19 + 1))) <| rn (qn ?_); replace hc := Ctx.r0 (Ctx.r1 hc); exact ⟨m2, Nat.lt_succ_self _, ⟨z56, (IntKind.i64.wrap (j19 + 1)), a59, z56.length, q60, rfl, hp, hc⟩, (kl rfl k0)⟩

def ref10_Cut.J2 (j11 : Int) (k1 : (List Int) → Int → Option (S_api_Cut)) (j30 : (List Int)) : Option (S_api_Cut) :=
  k1 j30 (IntKind.i64.wrap (j11 + 1))

def ref10_Cut.J3 (j7 : (List Int)) (j11 : Int) (k1 : (List Int) → Int → Option (S_api_Cut)) (j34 : Bool) : Option (S_api_Cut) :=
  if j34 = true then
    (app j7 ([j11])).bind fun z42 =>
    ref10_Cut.J2 j11 k1 z42
  else
    ref10_Cut.J2 j11 k1 j7

def ref10_Cut.L1 (x0 : S_api_Shape) (x1 : Int) (x2 : Int) : Nat → (List Int) → Int → Option (S_api_Cut)
  | 0, _, _ => none
  | m1 + 1, j7, j11 =>
    if j11 ≤ x0.Heads then
      chk (j11 ≠ 0) <|
      if (Int.tmod x0.Heads j11) = 0 then
        chk (j11 ≠ 0) <|
        ref10_Cut.J3 j7 j11 (ref10_Cut.L1 x0 x1 x2 m1) (decide ((Int.tmod x0.Inner j11) = 0))
      else
        ref10_Cut.J3 j7 j11 (ref10_Cut.L1 x0 x1 x2 m1) false
    else
      chk (x0.Layers ≠ 0) <|
      chk (x0.Layers ≠ 0) <|
      chk (((j7.length : Nat) : Int) ≠ 0) <|
      chk (((j7.length : Nat) : Int) ≠ 0) <|
      (idx j7 (Int.tmod (IntKind.i64.wrap ((Int.tmod x2 ((j7.length : Nat) : Int)) + ((j7.length : Nat) : Int))) ((j7.length : Nat) : Int))).bind fun y20 =>
      some (⟨(IntKind.i64.wrap (1 + (Int.tmod (IntKind.i64.wrap ((Int.tmod x1 x0.Layers) + x0.Layers)) x0.Layers))), y20⟩ : S_api_Cut)

def ref10_Cut (N : Nat) (x0 : S_api_Shape) (x1 : Int) (x2 : Int) : Option (S_api_Cut) :=
  ref10_Cut.L1 x0 x1 x2 N ([]) 1

theorem ref10_Cut_any {N : Nat} {x0 : S_api_Shape} {x1 : Int} {x2 : Int} {Fr : List HP} {w : World} {r : S_api_Cut} {K : Value → World → Prop}  (hc : Ctx w (Fr)) (hp : ref10_Cut N x0 x1 x2 = some r)
    (k : ∀ w', Ctx w' (Fr) → K (.agg #[.int .i64 r.Stages, .int .i64 r.Parts]) w') : Calls Tryz.prog 28 #[.agg (S_api_Shape.cz x0).toArray, .int .i64 x1, .int .i64 x2] w (Ret K) := by
 unfold ref10_Cut at hp; refine Center3 F28 M28 rfl rfl ?_; refine Wseq (Wreg ?_); refine rsE (Ctx.boxOp (cs := (S_api_Shape.cz x0)) (v := .agg (S_api_Shape.cz x0).toArray) hc rfl rfl) rfl ?_; clear hc; rintro _ w3 ⟨b1, rfl, hc⟩; refine rsE (Ctx.allocOp (cs := [.int .i64 0, .int .i64 0]) hc V37 rfl) rfl ?_; clear hc; rintro _ w6 ⟨b4, rfl, hc⟩; refine rn (qn (Wseq (Wreg ?_))); refine az (.slice none 0 0) <| rn (qn (Wseq (Wseq (Wreg ?_)))); refine az (.int .i64 1) <| rn (qn (Wblk ?_)); replace hc := hc.nilOwn (pInt .i64) 3; replace hc := Ctx.p2 (Ctx.p2 hc); refine Wloop [7, 8, 9, 10, 11, 12, 13, 14, 15, 16, 17, 18, 19, 20, 21, 22, 23, 24, 25, 26, 27, 28, 29, 30] [7, 8] (fun m vs w' => ∃ j7 : (List Int), ∃ j11 : Int, ∃ a8 : Option Addr, ∃ n9 : Nat, ∃ q10 : Nat, vs = [.slice a8 n9 q10, .int .i64 j11] ∧ ref10_Cut.L1 x0 x1 x2 m j7 j11 = some r ∧ Ctx w' (B b4 [.int .i64 0, .int .i64 0] 37 :: B b1 (S_api_Shape.cz x0) 29 :: Own (pInt .i64) 3 (.slice a8 n9 q10) j7 :: Fr)) N ?_ ?_
 · exact ⟨[], 1, none, 0, 0, rfl, hp, hc⟩
 · clear hp hc; intro m vs u w12 hJ; obtain ⟨j7, j11, a8, n9, q10, rfl, hp, hc⟩ := hJ; obtain rfl := hc.rz 2 reads_own; rcases m with _ | m1
   · cases (show none = some r from hp)
   rw [ref10_Cut.L1] at hp; refine Wseq (Wseq (Wreg ?_)); refine mz (.int .i64 j11) ?_; refine fl 2 U29 Z3 G3 (Ctx.cell hc (k := 1) rfl rfl rfl) rfl rfl rfl rfl rfl rfl rfl rfl ?_; refine sz (le' rfl rfl) ?_; refine rn (qn ?_); cases hb14 : (decide (j11 ≤ x0.Heads))
   · replace hp := gneg hp (of_decide_eq_false hb14); refine Wcf rfl (Wexit (qx (qx (be (qn (Wseq ?_)))))); replace hc := hc.drew; refine Wdrw (fun j w' => True) [0, 0, 2, 7, 0, 16, 63, 0, 128, 511, 1023, 0, 0, 0, 8192, 28672, 0, 65536, 258048, 0, 524288, 2093056, 4192256, 8386560, 16777215, 33554431] 0 9584932 rfl (by kernel_rfl) (fun _ _ => trivial) ?_; generalize hw : World.drew w12 = w15 at *; clear hw; refine dM (.int .i64 x1) rfl rfl rfl ?_; refine ds (v := pt b1 0) rfl (fun w' hF => fax 0 rfl U29 rfl Z3 rfl rfl rfl) rfl ?_; refine dx rfl (ld rfl G3 (Ctx.cell hc (k := 1) rfl rfl rfl)) rfl rfl ?_; replace hp := chk_some hp; obtain ⟨hg16, hp⟩ := hp; refine ds rfl (fun w' hF => rm rfl rfl hg16) rfl ?_; refine ds (v := pt b1 0) rfl (fun w' hF => fax 0 rfl U29 rfl Z3 rfl rfl rfl) rfl ?_; refine dx rfl (ld rfl G3 (Ctx.cell hc (k := 1) rfl rfl rfl)) rfl rfl ?_; refine ds rfl (fun w' hF => adw rfl rfl) rfl ?_; refine ds (v := pt b1 0) rfl (fun w' hF => fax 0 rfl U29 rfl Z3 rfl rfl rfl) rfl ?_; refine dx rfl (ld rfl G3 (Ctx.cell hc (k := 1) rfl rfl rfl)) rfl rfl ?_; replace hp := chk_some hp; obtain ⟨hg17, hp⟩ := hp; refine ds rfl (fun w' hF => rm rfl rfl hg17) rfl ?_; refine ds rfl (fun w' hF => adw rfl rfl) rfl ?_; refine dM (.slice a8 j7.length q10) rfl rfl rfl ?_; refine dM (.int .i64 x2) rfl rfl rfl ?_; refine dM (.slice a8 j7.length q10) rfl rfl rfl ?_; refine dx rfl (ln rfl U71) rfl rfl ?_; replace hp := chk_some hp; obtain ⟨hg18, hp⟩ := hp; refine ds rfl (fun w' hF => rm rfl rfl hg18) rfl ?_; refine dM (.slice a8 j7.length q10) rfl rfl rfl ?_; refine dx rfl (ln rfl U71) rfl rfl ?_; refine ds rfl (fun w' hF => adw rfl rfl) rfl ?_; refine dM (.slice a8 j7.length q10) rfl rfl rfl ?_; refine dx rfl (ln rfl U71) rfl rfl ?_; replace hp := chk_some hp; obtain ⟨hg19, hp⟩ := hp; refine ds rfl (fun w' hF => rm rfl rfl hg19) rfl ?_; replace hp := bind_some hp; obtain ⟨y20, hy20, hp⟩ := hp; obtain ⟨b23, o24, u25, hi21, hi22⟩ := Ctx.rdAt hc (k := 2) rfl rfl reads_own hy20; subst u25; refine ds rfl (fun w' hF => ixx rfl rfl U71 Z3 hi21 hi22 rfl) rfl ?_; replace hc := Ctx.rdCell hc (k := 2) rfl rfl reads_own hy20; obtain ⟨cs26, hc, hcell27⟩ := hc; replace hc := Ctx.holdC hc; obtain ⟨u28, hc⟩ := hc; subst u28; refine dx rfl (ld rfl G3 (hcell27 0 _ rfl)) rfl rfl ?_; refine ds (v := .agg #[.int .i64 (IntKind.i64.wrap (1 + (Int.tmod (IntKind.i64.wrap ((Int.tmod x1 x0.Layers) + x0.Layers)) x0.Layers))), .int .i64 y20]) rfl (fun w' hF => bd_37_0_1 rfl rfl) rfl ?_; refine duE (Ctx.putAgg hc (k := 0) rfl rfl (vs := [.int .i64 (IntKind.i64.wrap (1 + (Int.tmod (IntKind.i64.wrap ((Int.tmod x1 x0.Layers) + x0.Layers)) x0.Layers))), .int .i64 y20]) (cs' := [.int .i64 (IntKind.i64.wrap (1 + (Int.tmod (IntKind.i64.wrap ((Int.tmod x1 x0.Layers) + x0.Layers)) x0.Layers))), .int .i64 y20]) rfl rfl rfl Z37 rfl rfl rfl) rfl rfl ?_; clear hc; rintro w29 hc; replace hc := Ctx.n0 hc; refine ⟨fun j hj hb => trivial, ?_⟩; refine dn (qn (Wret ?_)); have hres := Ctx.cells hc (k := 0) rfl rfl 0 (vs := [.int .i64 (IntKind.i64.wrap (1 + (Int.tmod (IntKind.i64.wrap ((Int.tmod x1 x0.Layers) + x0.Layers)) x0.Layers))), .int .i64 y20]) rfl; replace hc := Ctx.r0 (Ctx.r1 (Ctx.r2 hc)); obtain rfl := sj hp; refine f1c (cs := [.int .i64 (IntKind.i64.wrap (1 + (Int.tmod (IntKind.i64.wrap ((Int.tmod x1 x0.Layers) + x0.Layers)) x0.Layers))), .int .i64 y20]) R28 M28 rfl G37 Z37 rfl hres ?_; exact ⟨_, rfl, k _ hc⟩
   · replace hp := gpos hp (of_decide_eq_true hb14); refine Wct rfl (Wskip (qn ?_)); refine Wseqm [7, 15, 16, 17, 18, 19, 20, 21, 22, 23, 24, 25, 26, 27, 28, 29, 30] [7] (fun vs w' => ∃ j30 : (List Int), ∃ a31 : Option Addr, ∃ n32 : Nat, ∃ q33 : Nat, vs = [.slice a31 n32 q33] ∧ ref10_Cut.J2 j11 (ref10_Cut.L1 x0 x1 x2 m1) j30 = some r ∧ Ctx w' (B b4 [.int .i64 0, .int .i64 0] 37 :: B b1 (S_api_Shape.cz x0) 29 :: Own (pInt .i64) 3 (.slice a31 n32 q33) j30 :: Fr)) ?_ ?_
     · refine Wblk ?_; refine Wseqm [15, 16, 17, 18, 19, 20, 21, 22, 23, 24, 25, 26] [26] (fun vs w' => ∃ j34 : Bool, vs = [.bool j34] ∧ ref10_Cut.J3 j7 j11 (ref10_Cut.L1 x0 x1 x2 m1) j34 = some r ∧ Ctx w' (B b4 [.int .i64 0, .int .i64 0] 37 :: B b1 (S_api_Shape.cz x0) 29 :: oR .i64 3 a8 q10 j7 :: Fr)) ?_ ?_
       · refine Wreg ?_; refine fl 2 U29 Z3 G3 (Ctx.cell hc (k := 1) rfl rfl rfl) rfl rfl rfl rfl rfl rfl rfl rfl ?_; refine mz (.int .i64 j11) ?_; replace hp := chk_some hp; obtain ⟨hg35, hp⟩ := hp; refine sz (rm rfl rfl hg35) ?_; refine sz (eqd rfl rfl) ?_; refine mz (.bool (decide ((Int.tmod x0.Heads j11) = 0))) ?_; cases hb36 : (decide ((Int.tmod x0.Heads j11) = 0))
         · replace hp := gneg hp (of_decide_eq_false hb36); (iterate 5 refine r0 rfl ?_); refine sz (v := .bool false) (pkf (v := .bool false) rfl rfl) ?_; refine rn (qn ?_); exact ⟨⟨false, rfl, hp, hc⟩, (kl rfl kb)⟩
         · replace hp := gpos hp (of_decide_eq_true hb36); refine fl 3 U29 Z3 G3 (Ctx.cell hc (k := 1) rfl rfl rfl) rfl rfl rfl rfl rfl rfl rfl rfl ?_; refine mz (.int .i64 j11) ?_; replace hp := chk_some hp; obtain ⟨hg37, hp⟩ := hp; refine sz (rm rfl rfl hg37) ?_; refine sz (eqd rfl rfl) ?_; refine sz (v := .bool (decide ((Int.tmod x0.Inner j11) = 0))) (pkt (v := .bool (decide ((Int.tmod x0.Inner j11) = 0))) rfl rfl) ?_; refine rn (qn ?_); exact ⟨⟨decide ((Int.tmod x0.Inner j11) = 0), rfl, hp, hc⟩, (kl rfl kb)⟩
       · clear hp hc; intro vs u w38 hJ; obtain ⟨j34, rfl, hp, hc⟩ := hJ; unfold ref10_Cut.J3 at hp; cases hb39 : j34
         · replace hp := gneg hp (by rw [hb39]; exact Bool.false_ne_true); subst hb39; refine Wcf rfl (Wskip (bn (qn ?_))); exact ⟨⟨j7, a8, j7.length, q10, rfl, hp, hc⟩, (kl rfl (km rfl (kl rfl kb)))⟩
         · replace hp := gpos hp hb39; subst hb39; refine Wct rfl (Wreg ?_); refine mz (.slice a8 j7.length q10) <| mz (.int .i64 j11) ?_; refine rsE (Ctx.builtOp (css := [[.int .i64 j11]]) (xs := ([j11] : List Int)) (E := (pInt .i64)) (Ctx.holdsC (f := fun x : Int => [.int .i64 x]) (fun _ _ _ => rfl) hc ([j11] : List Int)) U71 Z3 V3 rfl rfl rfl rfl rfl rfl rfl rfl) rfl ?_; clear hc; rintro _ w41 ⟨a40, rfl, hc⟩; replace hp := bind_some hp; obtain ⟨z42, hz42, hp⟩ := hp; obtain ⟨hg43, e44⟩ := app_some hz42; refine rsE (Ctx.append hc (k := 3) rfl rfl (k2 := 0) rfl rfl reads_own U71 (i := Tryz.t3) rfl rfl rfl rfl rfl rfl rfl rfl hg43) rfl ?_; clear hc; rintro _ w47 ⟨a45, q46, rfl, hc⟩; rw [← e44] at hc ⊢; replace hc := Ctx.n3 hc; refine az (.slice a45 z42.length q46) <| rn (bn (qn ?_)); replace hc := Ctx.r0 hc; exact ⟨⟨z42, a45, z42.length, q46, rfl, hp, hc⟩, (kl rfl (km rfl (kl rfl kb)))⟩
     · clear hp hc; intro vs u w48 hJ; obtain ⟨j30, a31, n32, q33, rfl, hp, hc⟩ := hJ; obtain rfl := hc.rz 2 reads_own; unfold ref10_Cut.J2 at hp; refine Wreg ?_; refine mz (.int .i64 j11) <| sz (adw rfl rfl) ?_; refine az (.int .i64 (IntKind.i64.wrap (j11 + 1))) <| rn (qn ?_); exact ⟨m1, Nat.lt_succ_self _, ⟨j30, (IntKind.i64.wrap (j11 + 1)), a31, j30.length, q33, rfl, hp, hc⟩, (kl rfl (km rfl (kl rfl k0)))⟩

def law13_made (N : Nat) (x0 : S_law13_Seeds) : Option (S_api_Weights × S_api_Cut) :=
  (ref08_Made N (⟨x0.N.c0, x0.N.c1, x0.N.c2, x0.N.c3, x0.N.c4, x0.N.c5⟩ : A6_i64) x0.Seed ([])).bind fun r10 =>
  (ref10_Cut N (⟨r10.Shape.Layers, r10.Shape.Width, r10.Shape.Heads, r10.Shape.Inner, r10.Shape.Vocab, r10.Shape.Places⟩ : S_api_Shape) x0.A x0.B).bind fun r33 =>
  some ((⟨(⟨r10.Shape.Layers, r10.Shape.Width, r10.Shape.Heads, r10.Shape.Inner, r10.Shape.Vocab, r10.Shape.Places⟩ : S_api_Shape), (⟨r10.Embed.Rows, r10.Embed.Cols, r10.Embed.V⟩ : S_api_Mat), r10.Blocks, r10.Last, (⟨r10.Head.Rows, r10.Head.Cols, r10.Head.V⟩ : S_api_Mat)⟩ : S_api_Weights), (⟨r33.Stages, r33.Parts⟩ : S_api_Cut))

theorem law13_made_any {N : Nat} {x0 : S_law13_Seeds} {Fr : List HP} {w : World} {r : S_api_Weights × S_api_Cut} {K : Value → World → Prop}  (hc : Ctx w (Fr)) (hp : law13_made N x0 = some r)
    (k : ∀ (a37 : Option Addr) (n38 : Nat) (q39 : Nat) (a40 : Option Addr) (n41 : Nat) (q42 : Nat) (a43 : Option Addr) (n44 : Nat) (q45 : Nat) (a46 : Option Addr) (n47 : Nat) (q48 : Nat) w', Ctx w' (Hold (pRo (pInt .i8)) [.slice a37 n38 q39] r.1.Embed.V :: Hold (pRo S_api_Block.pr) [.slice a40 n41 q42] r.1.Blocks :: Hold (pRo (pInt .i8)) [.slice a43 n44 q45] r.1.Last :: Hold (pRo (pInt .i8)) [.slice a46 n47 q48] r.1.Head.V :: Fr) → K (.tuple #[.agg #[.int .i64 r.1.Shape.Layers, .int .i64 r.1.Shape.Width, .int .i64 r.1.Shape.Heads, .int .i64 r.1.Shape.Inner, .int .i64 r.1.Shape.Vocab, .int .i64 r.1.Shape.Places, .int .i64 r.1.Embed.Rows, .int .i64 r.1.Embed.Cols, .slice a37 n38 q39, .slice a40 n41 q42, .slice a43 n44 q45, .int .i64 r.1.Head.Rows, .int .i64 r.1.Head.Cols, .slice a46 n47 q48], .agg #[.int .i64 r.2.Stages, .int .i64 r.2.Parts]]) w') : Calls Tryz.prog 8 #[.agg (S_law13_Seeds.cz x0).toArray] w (Ret K) := by
 unfold law13_made at hp; refine Center1 F8 M8 rfl rfl ?_; refine Wseq (Wreg ?_); refine rsE (Ctx.boxOp (cs := (S_law13_Seeds.cz x0)) (v := .agg (S_law13_Seeds.cz x0).toArray) hc rfl rfl) rfl ?_; clear hc; rintro _ w3 ⟨b1, rfl, hc⟩; refine rsE (Ctx.allocOp (cs := [.int .i64 0, .int .i64 0, .int .i64 0, .int .i64 0, .int .i64 0, .int .i64 0, .int .i64 0, .int .i64 0, .slice none 0 0, .slice none 0 0, .slice none 0 0, .int .i64 0, .int .i64 0, .slice none 0 0]) hc V35 rfl) rfl ?_; clear hc; rintro _ w6 ⟨b4, rfl, hc⟩; refine rsE (Ctx.allocOp (cs := [.int .i64 0, .int .i64 0]) hc V37 rfl) rfl ?_; clear hc; rintro _ w9 ⟨b7, rfl, hc⟩; refine rn (qn (Wseq (Wreg ?_))); refine sz (v := pt b1 0) (fax 0 rfl U25 rfl Z22 rfl rfl rfl) ?_; refine sz (v := .agg (A6_i64.cz x0.N).toArray) (ldg rfl G22 Z22 rfl (Ctx.cells hc (k := 2) rfl rfl 0 (vs := (A6_i64.cz x0.N)) rfl)) ?_; refine fl 6 U25 Z23 G23 (Ctx.cell hc (k := 2) rfl rfl rfl) rfl rfl rfl rfl rfl rfl rfl rfl ?_; replace hc := hc.nilRo (pInt .i8); replace hc := hc.dz 0; obtain ⟨r10, hr10, hp⟩ := bind_some hp; refine kz C27 ?_; refine ref08_Made_any (x0 := x0.N) reads_ro hc hr10 ?_; clear hc; intro a11 n12 q13 a14 n15 q16 a17 n18 q19 a20 n21 q22 w23 hc; obtain rfl := hc.rz 0 reads_ro; obtain rfl := hc.rz 1 reads_ro; obtain rfl := hc.rz 2 reads_ro; obtain rfl := hc.rz 3 reads_ro; refine rsE (Ctx.allocOp (cs := [.int .i64 0, .int .i64 0, .int .i64 0, .int .i64 0, .int .i64 0, .int .i64 0, .int .i64 0, .int .i64 0, .slice none 0 0, .slice none 0 0, .slice none 0 0, .int .i64 0, .int .i64 0, .slice none 0 0]) hc V35 rfl) rfl ?_; clear hc; rintro _ w30 ⟨b28, rfl, hc⟩; refine ruE (Ctx.putAgg hc (k := 0) rfl rfl (vs := (S_api_Weights.cz r10 a11 q13 a14 q16 a17 q19 a20 q22)) (cs' := (S_api_Weights.cz r10 a11 q13 a14 q16 a17 q19 a20 q22)) rfl rfl rfl Z35 rfl rfl rfl) rfl ?_; clear hc; rintro w31 hc; replace hc := Ctx.n0 hc; refine rn (qn (Wseq ?_)); replace hc := hc.drew; refine Wdrw (fun j w' => (j = 0 → ∀ j v, ((S_api_Weights.cz r10 a11 q13 a14 q16 a17 q19 a20 q22) : List Value)[j]? = some v → w'.cell? ((⟨b28, 0, none⟩ : Addr).add j) = some v) ∧ True) [0, 0, 2, 0, 8, 0, 32, 126, 255, 511] 0 84 rfl (by kernel_rfl) (fun j hj => ⟨fun _ => Ctx.cells hc (k := 0) rfl rfl 0 (vs := (S_api_Weights.cz r10 a11 q13 a14 q16 a17 q19 a20 q22)) rfl, trivial⟩) ?_; generalize hw : World.drew w31 = w32 at *; clear hw; refine ds (v := .agg (S_api_Weights.cz r10 a11 q13 a14 q16 a17 q19 a20 q22).toArray) rfl (fun w' hF => ldg rfl G35 Z35 rfl (hF.1 rfl)) rfl ?_; refine ds (v := pt b28 0) rfl (fun w' hF => fax 0 rfl U35 rfl Z29 rfl rfl rfl) rfl ?_; refine dx (v := .agg (S_api_Shape.cz r10.Shape).toArray) rfl (ldg rfl G29 Z29 rfl (Ctx.cells hc (k := 0) rfl rfl 0 (vs := (S_api_Shape.cz r10.Shape)) rfl)) rfl rfl ?_; refine ds (v := pt b1 7) rfl (fun w' hF => fax 7 rfl U25 rfl Z3 rfl rfl rfl) rfl ?_; refine dx rfl (ld rfl G3 (Ctx.cell hc (k := 9) rfl rfl rfl)) rfl rfl ?_; refine ds (v := pt b1 8) rfl (fun w' hF => fax 8 rfl U25 rfl Z3 rfl rfl rfl) rfl ?_; refine dx rfl (ld rfl G3 (Ctx.cell hc (k := 9) rfl rfl rfl)) rfl rfl ?_; obtain ⟨r33, hr33, hp⟩ := bind_some hp; refine dc (cl C28 rfl rfl) rfl rfl ?_; refine ref10_Cut_any (x0 := r10.Shape) hc hr33 ?_; clear hc; intro w34 hc; refine ⟨fun j hj hb => ⟨fun _ => Ctx.cells hc (k := 0) rfl rfl 0 (vs := (S_api_Weights.cz r10 a11 q13 a14 q16 a17 q19 a20 q22)) rfl, trivial⟩, ?_⟩; refine duE (Ctx.putAgg hc (k := 8) rfl rfl (vs := (S_api_Weights.cz r10 a11 q13 a14 q16 a17 q19 a20 q22)) (cs' := (S_api_Weights.cz r10 a11 q13 a14 q16 a17 q19 a20 q22)) rfl rfl rfl Z35 rfl rfl rfl) rfl rfl ?_; clear hc; rintro w35 hc; replace hc := Ctx.n8 hc; refine ⟨fun j hj hb => ⟨fun e => (by subst e; exact absurd hj (by decide)), trivial⟩, ?_⟩; refine duE (Ctx.putAgg hc (k := 7) rfl rfl (vs := [.int .i64 r33.Stages, .int .i64 r33.Parts]) (cs' := [.int .i64 r33.Stages, .int .i64 r33.Parts]) rfl rfl rfl Z37 rfl rfl rfl) rfl rfl ?_; clear hc; rintro w36 hc; replace hc := Ctx.n7 hc; refine ⟨fun j hj hb => ⟨fun e => (by subst e; exact absurd hj (by decide)), trivial⟩, ?_⟩; refine dn (qn (Wret ?_)); have hres0 := Ctx.cells hc (k := 8) rfl rfl 0 (vs := (S_api_Weights.cz r10 a11 q13 a14 q16 a17 q19 a20 q22)) rfl; have hres1 := Ctx.cells hc (k := 7) rfl rfl 0 (vs := [.int .i64 r33.Stages, .int .i64 r33.Parts]) rfl; replace hc := hc.dz 1; replace hc := hc.dz 3; replace hc := hc.dz 5; replace hc := hc.dz 7; replace hc := Ctx.p2 (Ctx.p1 (Ctx.r4 (Ctx.r5 (Ctx.r6 (Ctx.r7 (Ctx.r8 (Ctx.r9 (Ctx.r10 (Ctx.r11 (Ctx.r12 (Ctx.r13 hc))))))))))); replace hc := Ctx.p3 hc; obtain rfl := sj hp; refine f2cc (cs := (S_api_Weights.cz r10 a11 q13 a14 q16 a17 q19 a20 q22)) (ds := [.int .i64 r33.Stages, .int .i64 r33.Parts]) R8 M8 rfl G35 Z35 rfl hres0 rfl G37 Z37 rfl hres1 ?_; exact ⟨_, rfl, k _ _ _ _ _ _ _ _ _ _ _ _ _ hc⟩

def block_Rows (N : Nat) (x0 : S_api_Shard) (x1 : (List Int)) : Option (A2_i64 × Bool) :=
  (part_Right N ([(⟨(⟨x0.Shape.Layers, x0.Shape.Width, x0.Shape.Heads, x0.Shape.Inner, x0.Shape.Vocab, x0.Shape.Places⟩ : S_api_Shape), (⟨x0.Cut.Stages, x0.Cut.Parts⟩ : S_api_Cut), x0.Stage, x0.Part, (⟨x0.Embed.Rows, x0.Embed.Cols, x0.Embed.V⟩ : S_api_Mat), x0.Blocks, x0.Last, (⟨x0.Head.Rows, x0.Head.Cols, x0.Head.V⟩ : S_api_Mat)⟩ : S_api_Shard)])).bind fun r25 =>
  if r25 = true then
    (slice_Heads (⟨x0.Shape.Layers, x0.Shape.Width, x0.Shape.Heads, x0.Shape.Inner, x0.Shape.Vocab, x0.Shape.Places⟩ : S_api_Shape) (⟨x0.Cut.Stages, x0.Cut.Parts⟩ : S_api_Cut) x0.Part).bind fun r29 =>
    chk (x0.Shape.Heads ≠ 0) <|
    (some (IntKind.i64.wrap (Int.tdiv x0.Shape.Width x0.Shape.Heads))).bind fun e36 =>
    if ((x1.length : Nat) : Int) ≠ (IntKind.i64.wrap ((IntKind.i64.wrap (r29.1.c1 * e36)) - (IntKind.i64.wrap (r29.1.c0 * e36)))) then
      some ((⟨0, 0⟩ : A2_i64), false)
    else
      some ((⟨(IntKind.i64.wrap (r29.1.c0 * e36)), (IntKind.i64.wrap (r29.1.c1 * e36))⟩ : A2_i64), true)
  else
    some ((⟨0, 0⟩ : A2_i64), false)

theorem block_Rows_any {N : Nat} {x0 : S_api_Shard} {a1 : Option Addr} {n2 : Nat} {q3 : Nat} {a4 : Option Addr} {n5 : Nat} {q6 : Nat} {a7 : Option Addr} {n8 : Nat} {q9 : Nat} {a10 : Option Addr} {n11 : Nat} {q12 : Nat} {x1 : (List Int)} {ax1 : Option Addr} {nx1 : Nat} {qx1 : Nat} {P1 : HP} {Fr : List HP} {w : World} {r : A2_i64 × Bool} {K : Value → World → Prop} (hrd1 : Reads P1 (pInt .i8) (.slice ax1 nx1 qx1) x1) (hc : Ctx w (Hold (pRo (pInt .i8)) [.slice a1 n2 q3] x0.Embed.V :: Hold (pRo S_api_Block.pr) [.slice a4 n5 q6] x0.Blocks :: Hold (pRo (pInt .i8)) [.slice a7 n8 q9] x0.Last :: Hold (pRo (pInt .i8)) [.slice a10 n11 q12] x0.Head.V :: P1 :: Fr)) (hp : block_Rows N x0 x1 = some r)
    (k : ∀ w', Ctx w' (P1 :: Fr) → K (.tuple #[.agg #[.int .i64 r.1.c0, .int .i64 r.1.c1], .bool r.2]) w') : Calls Tryz.prog 26 #[.agg #[.int .i64 x0.Shape.Layers, .int .i64 x0.Shape.Width, .int .i64 x0.Shape.Heads, .int .i64 x0.Shape.Inner, .int .i64 x0.Shape.Vocab, .int .i64 x0.Shape.Places, .int .i64 x0.Cut.Stages, .int .i64 x0.Cut.Parts, .int .i64 x0.Stage, .int .i64 x0.Part, .int .i64 x0.Embed.Rows, .int .i64 x0.Embed.Cols, .slice a1 n2 q3, .slice a4 n5 q6, .slice a7 n8 q9, .int .i64 x0.Head.Rows, .int .i64 x0.Head.Cols, .slice a10 n11 q12], .slice ax1 nx1 qx1] w (Ret K) := by
 unfold block_Rows at hp; refine Center2 F26 M26 rfl rfl ?_; obtain ⟨hn1, _⟩ := Ctx.rdLen hc (k := 4) rfl rfl hrd1; subst hn1; obtain rfl := hc.rz 0 reads_ro; obtain rfl := hc.rz 1 reads_ro; obtain rfl := hc.rz 2 reads_ro; obtain rfl := hc.rz 3 reads_ro; refine Wseq (Wreg ?_); refine rsE (Ctx.boxOp (cs := (S_api_Shard.cz x0 a1 q3 a4 q6 a7 q9 a10 q12)) (v := .agg (S_api_Shard.cz x0 a1 q3 a4 q6 a7 q9 a10 q12).toArray) hc rfl rfl) rfl ?_; clear hc; rintro _ w19 ⟨b17, rfl, hc⟩; refine rsE (Ctx.allocOp (cs := [.int .i64 0, .int .i64 0]) hc V89 rfl) rfl ?_; clear hc; rintro _ w22 ⟨b20, rfl, hc⟩; refine az (.bool false) <| rn (qn (Wseq (Wseq (Wreg ?_)))); refine sz (v := .agg (S_api_Shard.cz x0 a1 q3 a4 q6 a7 q9 a10 q12).toArray) (ldg rfl G41 Z41 rfl (Ctx.cells hc (k := 1) rfl rfl 0 (vs := (S_api_Shard.cz x0 a1 q3 a4 q6 a7 q9 a10 q12)) rfl)) ?_; replace hc := hc.dz 5; replace hc := hc.dz 5; replace hc := hc.dz 5; replace hc := hc.dz 5; replace hc : Ctx w22 (Hold S_api_Shard.pr (S_api_Shard.cz x0 a1 q3 a4 q6 a7 q9 a10 q12) x0 :: B b20 [.int .i64 0, .int .i64 0] 89 :: B b17 (S_api_Shard.cz x0 a1 q3 a4 q6 a7 q9 a10 q12) 41 :: hR .i8 a1 q3 x0.Embed.V :: hS S_api_Block.pr a4 q6 x0.Blocks :: hR .i8 a7 q9 x0.Last :: hR .i8 a10 q12 x0.Head.V :: P1 :: Fr) := S_api_Shard.cl hc; refine rsE (Ctx.builtOp (css := [(S_api_Shard.cz x0 a1 q3 a4 q6 a7 q9 a10 q12)]) (xs := ([x0] : List S_api_Shard)) (E := S_api_Shard.pr) hc U72 Z41 V41 rfl rfl rfl rfl rfl rfl rfl rfl) rfl ?_; clear hc; rintro _ w24 ⟨a23, rfl, hc⟩; replace hp := bind_some hp; obtain ⟨r25, hr25, hp⟩ := hp; refine kz C61 ?_; refine part_Right_any (x0 := [x0]) reads_own hc hr25 ?_; clear hc; intro w26 hc; cases hb27 : r25
 · replace hp := gneg hp (by rw [hb27]; exact Bool.false_ne_true); subst hb27; refine sz (ntf rfl) ?_; refine rn (qn (Wct rfl (Wseq (Wreg ?_)))); refine sz (v := .agg #[.int .i64 0, .int .i64 0]) (bd_89_ ) ?_; refine ruE (Ctx.putAgg hc (k := 1) rfl rfl (vs := [.int .i64 0, .int .i64 0]) (cs' := [.int .i64 0, .int .i64 0]) rfl rfl rfl Z89 rfl rfl rfl) rfl ?_; clear hc; rintro w28 hc; replace hc := Ctx.n1 hc; refine az (.bool false) <| rn (qn (Wret (qr ?_))); have hres := Ctx.cells hc (k := 1) rfl rfl 0 (vs := [.int .i64 0, .int .i64 0]) rfl; replace hc := Ctx.r0 (Ctx.r1 (Ctx.r2 (Ctx.r3 (Ctx.r4 (Ctx.r5 (Ctx.r6 hc)))))); obtain rfl := sj hp; refine f2c (cs := [.int .i64 0, .int .i64 0]) (u := .bool false) R26 M26 rfl G89 Z89 rfl hres rfl ?_; exact ⟨_, rfl, k _ hc⟩
 · replace hp := gpos hp hb27; subst hb27; refine sz (ntt rfl) ?_; refine rn (qn (Wcf rfl (Wskip (qn (Wseq (Wreg ?_)))))); refine sz (v := pt b17 0) (fax 0 rfl U41 rfl Z29 rfl rfl rfl) ?_; refine sz (v := .agg (S_api_Shape.cz x0.Shape).toArray) (ldg rfl G29 Z29 rfl (Ctx.cells hc (k := 2) rfl rfl 0 (vs := (S_api_Shape.cz x0.Shape)) rfl)) ?_; refine sz (v := pt b17 6) (fax 6 rfl U41 rfl Z37 rfl rfl rfl) ?_; refine sz (v := .agg #[.int .i64 x0.Cut.Stages, .int .i64 x0.Cut.Parts]) (ldg rfl G37 Z37 rfl (Ctx.cells hc (k := 2) rfl rfl 6 (vs := [.int .i64 x0.Cut.Stages, .int .i64 x0.Cut.Parts]) rfl)) ?_; refine fl 9 U41 Z3 G3 (Ctx.cell hc (k := 2) rfl rfl rfl) rfl rfl rfl rfl rfl rfl rfl rfl ?_; replace hp := bind_some hp; obtain ⟨r29, hr29, hp⟩ := hp; refine kz C62 ?_; refine slice_Heads_any (x0 := x0.Shape) (x1 := x0.Cut) hc hr29 ?_; clear hc; intro w30 hc; refine mz (.tuple #[.agg #[.int .i64 r29.1.c0, .int .i64 r29.1.c1], .int .i64 r29.2]) <| sz (ext (v := .agg #[.int .i64 r29.1.c0, .int .i64 r29.1.c1]) rfl rfl) ?_; refine sz (ext (v := .int .i64 r29.2) rfl rfl) ?_; refine rsE (Ctx.allocOp (cs := [.int .i64 0, .int .i64 0]) hc V89 rfl) rfl ?_; clear hc; rintro _ w33 ⟨b31, rfl, hc⟩; refine ruE (Ctx.putAgg hc (k := 0) rfl rfl (vs := [.int .i64 r29.1.c0, .int .i64 r29.1.c1]) (cs' := [.int .i64 r29.1.c0, .int .i64 r29.1.c1]) rfl rfl rfl Z89 rfl rfl rfl) rfl ?_; clear hc; rintro w34 hc; replace hc := Ctx.n0 hc; refine az (.int .i64 r29.2) <| rn (qn (Wseq (Wreg ?_))); refine sz (v := pt b17 0) (fax 0 rfl U41 rfl Z29 rfl rfl rfl) ?_; refine fl 1 U29 Z3 G3 (Ctx.cell hc (k := 3) rfl rfl rfl) rfl rfl rfl rfl rfl rfl rfl rfl ?_; refine sz (v := pt b17 0) (fax 0 rfl U41 rfl Z29 rfl rfl rfl) ?_; refine fl 2 U29 Z3 G3 (Ctx.cell hc (k := 3) rfl rfl rfl) rfl rfl rfl rfl rfl rfl rfl rfl ?_; replace hp := chk_some hp; obtain ⟨hg35, hp⟩ := hp; refine sz (quw rfl rfl hg35) ?_; replace hp := bind_some hp; obtain ⟨e36, he36, hp⟩ := hp; injection he36 with he36; refine sz (v := .int .i64 e36) (av (v := .int .i64 e36) (by rw [← he36]; rfl)) ?_; refine rn (qn (Wseq (Wreg ?_))); refine sz (v := pt b31 0) (ixa (i := 0) rfl rfl U89 Z3 (by decide) (by decide) (by decide) (by decide) rfl) ?_; refine sz (ld rfl G3 (Ctx.cell hc (k := 0) rfl rfl rfl)) ?_; refine mz (.int .i64 e36) <| sz (mlw rfl rfl) ?_; refine sz (v := pt b31 1) (ixa (i := 1) rfl rfl U89 Z3 (by decide) (by decide) (by decide) (by decide) rfl) ?_; refine sz (ld rfl G3 (Ctx.cell hc (k := 0) rfl rfl rfl)) ?_; refine mz (.int .i64 e36) <| sz (mlw rfl rfl) ?_; refine sz (v := .agg #[.int .i64 (IntKind.i64.wrap (r29.1.c0 * e36)), .int .i64 (IntKind.i64.wrap (r29.1.c1 * e36))]) (bd_89_0_1 rfl rfl) ?_; refine rsE (Ctx.allocOp (cs := [.int .i64 0, .int .i64 0]) hc V89 rfl) rfl ?_; clear hc; rintro _ w39 ⟨b37, rfl, hc⟩; refine ruE (Ctx.putAgg hc (k := 0) rfl rfl (vs := [.int .i64 (IntKind.i64.wrap (r29.1.c0 * e36)), .int .i64 (IntKind.i64.wrap (r29.1.c1 * e36))]) (cs' := [.int .i64 (IntKind.i64.wrap (r29.1.c0 * e36)), .int .i64 (IntKind.i64.wrap (r29.1.c1 * e36))]) rfl rfl rfl Z89 rfl rfl rfl) rfl ?_; clear hc; rintro w40 hc; replace hc := Ctx.n0 hc; refine rn (qn (Wseq (Wseq (Wreg ?_)))); refine mz (.slice ax1 x1.length qx1) <| sz (ln rfl U30) ?_; refine sz (v := pt b37 1) (ixa (i := 1) rfl rfl U89 Z3 (by decide) (by decide) (by decide) (by decide) rfl) ?_; refine sz (ld rfl G3 (Ctx.cell hc (k := 0) rfl rfl rfl)) ?_; refine sz (v := pt b37 0) (ixa (i := 0) rfl rfl U89 Z3 (by decide) (by decide) (by decide) (by decide) rfl) ?_; refine sz (ld rfl G3 (Ctx.cell hc (k := 0) rfl rfl rfl)) ?_; refine sz (sbw rfl rfl) ?_; refine sz (ned rfl rfl) ?_; refine rn (qn ?_); cases hb41 : (decide (((x1.length : Nat) : Int) ≠ (IntKind.i64.wrap ((IntKind.i64.wrap (r29.1.c1 * e36)) - (IntKind.i64.wrap (r29.1.c0 * e36))))))
   · replace hp := gneg hp (of_decide_eq_false hb41); refine Wcf rfl (Wskip (qn (Wseq (Wreg ?_)))); refine sz (v := .agg #[.int .i64 (IntKind.i64.wrap (r29.1.c0 * e36)), .int .i64 (IntKind.i64.wrap (r29.1.c1 * e36))]) (ldg rfl G89 Z89 rfl (Ctx.cells hc (k := 0) rfl rfl 0 (vs := [.int .i64 (IntKind.i64.wrap (r29.1.c0 * e36)), .int .i64 (IntKind.i64.wrap (r29.1.c1 * e36))]) rfl)) ?_; refine ruE (Ctx.putAgg hc (k := 3) rfl rfl (vs := [.int .i64 (IntKind.i64.wrap (r29.1.c0 * e36)), .int .i64 (IntKind.i64.wrap (r29.1.c1 * e36))]) (cs' := [.int .i64 (IntKind.i64.wrap (r29.1.c0 * e36)), .int .i64 (IntKind.i64.wrap (r29.1.c1 * e36))]) rfl rfl rfl Z89 rfl rfl rfl) rfl ?_; clear hc; rintro w42 hc; replace hc := Ctx.n3 hc; refine az (.bool true) <| rn (qn (Wret ?_)); have hres := Ctx.cells hc (k := 3) rfl rfl 0 (vs := [.int .i64 (IntKind.i64.wrap (r29.1.c0 * e36)), .int .i64 (IntKind.i64.wrap (r29.1.c1 * e36))]) rfl; replace hc := Ctx.r0 (Ctx.r1 (Ctx.r2 (Ctx.r3 (Ctx.r4 (Ctx.r5 (Ctx.r6 (Ctx.r7 (Ctx.r8 hc)))))))); obtain rfl := sj hp; refine f2c (cs := [.int .i64 (IntKind.i64.wrap (r29.1.c0 * e36)), .int .i64 (IntKind.i64.wrap (r29.1.c1 * e36))]) (u := .bool true) R26 M26 rfl G89 Z89 rfl hres rfl ?_; exact ⟨_, rfl, k _ hc⟩
   · replace hp := gpos hp (of_decide_eq_true hb41); refine Wct rfl (Wseq (Wreg ?_)); refine sz (v := .agg #[.int .i64 0, .int .i64 0]) (bd_89_ ) ?_; refine ruE (Ctx.putAgg hc (k := 3) rfl rfl (vs := [.int .i64 0, .int .i64 0]) (cs' := [.int .i64 0, .int .i64 0]) rfl rfl rfl Z89 rfl rfl rfl) rfl ?_; clear hc; rintro w43 hc; replace hc := Ctx.n3 hc; refine az (.bool false) <| rn (qn (Wret (qr ?_))); have hres := Ctx.cells hc (k := 3) rfl rfl 0 (vs := [.int .i64 0, .int .i64 0]) rfl; replace hc := Ctx.r0 (Ctx.r1 (Ctx.r2 (Ctx.r3 (Ctx.r4 (Ctx.r5 (Ctx.r6 (Ctx.r7 (Ctx.r8 hc)))))))); obtain rfl := sj hp; refine f2c (cs := [.int .i64 0, .int .i64 0]) (u := .bool false) R26 M26 rfl G89 Z89 rfl hres rfl ?_; exact ⟨_, rfl, k _ hc⟩

end Go.Proofs.YtbfiagimgokccaaGreat
end
section
namespace Go.Proofs.YtbfiagimgokccaaGreat
open Go Go.RowKit Go.Hp
set_option linter.unusedVariables false
set_option linter.unusedSimpArgs false
set_option maxRecDepth 100000

theorem bd_41_ {ρ : Operand → Value} {w : World} {dst : Option Nat} {ty : TypeId} {pos : String} {after : Array Edge} {g : Option (Nat × Bool)}    :
    (execOp ρ ⟨dst, .build 41 #[], ty, pos, after, g⟩).run Tryz.prog w = .ok (.value (.agg #[(.int .i64 0), (.int .i64 0), (.int .i64 0), (.int .i64 0), (.int .i64 0), (.int .i64 0), (.int .i64 0), (.int .i64 0), (.int .i64 0), (.int .i64 0), (.int .i64 0), (.int .i64 0), (.slice none 0 0), (.slice none 0 0), (.slice none 0 0), (.int .i64 0), (.int .i64 0), (.slice none 0 0)])) w := by
  simp [execOp, Instr.build, Instr.fill, Tryz.zeroValue41, Tryz.runUnderlying41, Tryz.sizeOf29, Tryz.sizeOf3, Tryz.sizeOf30, Tryz.sizeOf32, Tryz.sizeOf33, Tryz.sizeOf37, Value.cells]

def law13_BlockJoins.J6 (r156 : ((List Int) × Int)) (r162 : (A2_i64 × Bool)) (j190 : Bool) : Option (Bool) :=
  if r156.2 = 30 then
    if r162.2 = true then
      some false
    else
      if j190 = true then
        some false
      else
        some true
  else
    some false

def law13_BlockJoins.J7 (j153 : Int) (k5 : Int → Option (Bool)) : Option (Bool) :=
  k5 (IntKind.i64.wrap (j153 + 1))

def law13_BlockJoins.L10 (x2 : Int) (r127 : (S_api_Weights × S_api_Cut)) (j153 : Int) (r305 : ((List Int) × Int)) (k5 : Int → Option (Bool)) : Nat → Int → Option (Bool)
  | 0, _ => none
  | m10 + 1, j318 =>
    if j318 < ((r305.1.length : Nat) : Int) then
      (idx r305.1 j318).bind fun y322 =>
      (idx r127.1.Embed.V (IntKind.i64.wrap ((IntKind.i64.wrap (x2 * r127.1.Shape.Width)) + j318))).bind fun y331 =>
      if y322 ≠ (IntKind.i32.wrap (16 * (IntKind.i32.wrap y331))) then
        some false
      else
        (law13_BlockJoins.L10 x2 r127 j153 r305 k5 m10) (IntKind.i64.wrap (j318 + 1))
    else
      law13_BlockJoins.J7 j153 k5

def law13_BlockJoins.J9 (N : Nat) (x2 : Int) (r127 : (S_api_Weights × S_api_Cut)) (j153 : Int) (r305 : ((List Int) × Int)) (k5 : Int → Option (Bool)) (j312 : Bool) : Option (Bool) :=
  if j312 = true then
    if r305.2 ≠ 2 then
      some false
    else
      if ((r305.1.length : Nat) : Int) ≠ 0 then
        some false
      else
        law13_BlockJoins.J7 j153 k5
  else
    if r305.2 ≠ 0 then
      some false
    else
      if ((r305.1.length : Nat) : Int) ≠ r127.1.Shape.Width then
        some false
      else
        law13_BlockJoins.L10 x2 r127 j153 r305 k5 N 0

def law13_BlockJoins.J8 (N : Nat) (x2 : Int) (r127 : (S_api_Weights × S_api_Cut)) (j153 : Int) (k5 : Int → Option (Bool)) (j226 : Int) (j227 : Int) (j228 : Int) (j229 : Int) (j230 : Int) (j231 : Int) (j232 : Int) (j233 : Int) (j234 : Int) (j235 : Int) (j236 : Int) (j237 : Int) (j238 : (List Int)) (j242 : (List S_api_Block)) (j246 : (List Int)) (j250 : Int) (j251 : Int) (j252 : (List Int)) : Option (Bool) :=
  (block_Enter N (⟨(⟨j226, j227, j228, j229, j230, j231⟩ : S_api_Shape), (⟨j232, j233⟩ : S_api_Cut), j234, j235, (⟨j236, j237, j238⟩ : S_api_Mat), j242, j246, (⟨j250, j251, j252⟩ : S_api_Mat)⟩ : S_api_Shard) x2).bind fun r305 =>
  if j234 ≠ 0 then
    if r305.2 ≠ 121 then
      some false
    else
      if ((r305.1.length : Nat) : Int) ≠ 0 then
        some false
      else
        law13_BlockJoins.J7 j153 k5
  else
    if x2 < 0 then
      law13_BlockJoins.J9 N x2 r127 j153 r305 k5 true
    else
      law13_BlockJoins.J9 N x2 r127 j153 r305 k5 (decide (x2 ≥ r127.1.Shape.Vocab))

def law13_BlockJoins.L5 (N : Nat) (x2 : Int) (r127 : (S_api_Weights × S_api_Cut)) : Nat → Int → Option (Bool)
  | 0, _ => none
  | m5 + 1, j153 =>
    if j153 < (IntKind.i64.wrap (r127.2.Stages * r127.2.Parts)) then
      chk (r127.2.Parts ≠ 0) <|
      (ref11_Take N (⟨(⟨r127.1.Shape.Layers, r127.1.Shape.Width, r127.1.Shape.Heads, r127.1.Shape.Inner, r127.1.Shape.Vocab, r127.1.Shape.Places⟩ : S_api_Shape), (⟨r127.1.Embed.Rows, r127.1.Embed.Cols, r127.1.Embed.V⟩ : S_api_Mat), r127.1.Blocks, r127.1.Last, (⟨r127.1.Head.Rows, r127.1.Head.Cols, r127.1.Head.V⟩ : S_api_Mat)⟩ : S_api_Weights) (⟨r127.2.Stages, r127.2.Parts⟩ : S_api_Cut) (IntKind.i64.wrap (Int.tdiv j153 r127.2.Parts)) (Int.tmod j153 r127.2.Parts)).bind fun r100166 =>
      law13_BlockJoins.J8 N x2 r127 j153 (law13_BlockJoins.L5 N x2 r127 m5) r100166.Shape.Layers r100166.Shape.Width r100166.Shape.Heads r100166.Shape.Inner r100166.Shape.Vocab r100166.Shape.Places r100166.Cut.Stages r100166.Cut.Parts r100166.Stage r100166.Part r100166.Embed.Rows r100166.Embed.Cols r100166.Embed.V r100166.Blocks r100166.Last r100166.Head.Rows r100166.Head.Cols r100166.Head.V
    else
      (block_Enter N (⟨(⟨0, 0, 0, 0, 0, 0⟩ : S_api_Shape), (⟨0, 0⟩ : S_api_Cut), 0, 0, (⟨0, 0, []⟩ : S_api_Mat), [], [], (⟨0, 0, []⟩ : S_api_Mat)⟩ : S_api_Shard) x2).bind fun r156 =>
      (block_Rows N (⟨(⟨0, 0, 0, 0, 0, 0⟩ : S_api_Shape), (⟨0, 0⟩ : S_api_Cut), 0, 0, (⟨0, 0, []⟩ : S_api_Mat), [], [], (⟨0, 0, []⟩ : S_api_Mat)⟩ : S_api_Shard) ([])).bind fun r162 =>
      (ref11_Take N (⟨(⟨r127.1.Shape.Layers, r127.1.Shape.Width, r127.1.Shape.Heads, r127.1.Shape.Inner, r127.1.Shape.Vocab, r127.1.Shape.Places⟩ : S_api_Shape), (⟨r127.1.Embed.Rows, r127.1.Embed.Cols, r127.1.Embed.V⟩ : S_api_Mat), r127.1.Blocks, r127.1.Last, (⟨r127.1.Head.Rows, r127.1.Head.Cols, r127.1.Head.V⟩ : S_api_Mat)⟩ : S_api_Weights) (⟨r127.2.Stages, r127.2.Parts⟩ : S_api_Cut) 0 0).bind fun r168 =>
      chk (0 ≤ (IntKind.i64.wrap (r127.1.Shape.Width + 1)) ∧ (IntKind.i64.wrap (r127.1.Shape.Width + 1)) ≤ 4294967296) <|
      (block_Rows N (⟨(⟨r168.Shape.Layers, r168.Shape.Width, r168.Shape.Heads, r168.Shape.Inner, r168.Shape.Vocab, r168.Shape.Places⟩ : S_api_Shape), (⟨r168.Cut.Stages, r168.Cut.Parts⟩ : S_api_Cut), r168.Stage, r168.Part, (⟨r168.Embed.Rows, r168.Embed.Cols, r168.Embed.V⟩ : S_api_Mat), r168.Blocks, r168.Last, (⟨r168.Head.Rows, r168.Head.Cols, r168.Head.V⟩ : S_api_Mat)⟩ : S_api_Shard) (List.replicate ((IntKind.i64.wrap (r127.1.Shape.Width + 1))).toNat 0)).bind fun r100158 =>
      law13_BlockJoins.J6 r156 r162 r100158.2

def law13_BlockJoins.J2 (N : Nat) (x0 : S_law13_Seeds) (x2 : Int) : Option (Bool) :=
  (law13_made N (⟨(⟨x0.N.c0, x0.N.c1, x0.N.c2, x0.N.c3, x0.N.c4, x0.N.c5⟩ : A6_i64), x0.Seed, x0.A, x0.B⟩ : S_law13_Seeds)).bind fun r127 =>
  law13_BlockJoins.L5 N x2 r127 N 0

def law13_BlockJoins.L4 (N : Nat) (x0 : S_law13_Seeds) (x1 : (List (List Int))) (x2 : Int) (r34 : ((List Int) × Int)) : Nat → (List (List Int)) → Int → Option (Bool)
  | 0, _, _ => none
  | m4 + 1, j45, j49 =>
    if j49 > 0 then
      (idx x1 j49).bind fun y104 =>
      (app j45 ([y104])).bind fun z118 =>
      (law13_BlockJoins.L4 N x0 x1 x2 r34 m4) z118 (IntKind.i64.wrap (j49 - 1))
    else
      (idx x1 (0 : Int)).bind fun y53 =>
      (block_Join N y53 j45).bind fun r65 =>
      if r34.2 ≠ 0 then
        some false
      else
        if r65.2 ≠ 0 then
          some false
        else
          (idx x1 (0 : Int)).bind fun y74 =>
          chk (0 ≤ (1 : Int) ∧ (1 : Int) ≤ ((x1.length : Nat) : Int) ∧ ((x1.length : Nat) : Int) ≤ ((x1.length : Nat) : Int)) <|
          (ref13_Join N y74 ((x1.take (((x1.length : Nat) : Int)).toNat).drop ((1 : Int)).toNat)).bind fun r92 =>
          (ref04_Ints N r34.1 r92).bind fun r98 =>
          if r98 = true then
            (ref04_Ints N r34.1 r65.1).bind fun r101 =>
            if r101 = true then
              law13_BlockJoins.J2 N x0 x2
            else
              some false
          else
            some false

def law13_BlockJoins.J3 (N : Nat) (x0 : S_law13_Seeds) (x1 : (List (List Int))) (x2 : Int) (r34 : ((List Int) × Int)) (j40 : Bool) : Option (Bool) :=
  if j40 = true then
    if r34.2 ≠ 30 then
      some false
    else
      if ((r34.1.length : Nat) : Int) ≠ 0 then
        some false
      else
        law13_BlockJoins.J2 N x0 x2
  else
    (some (IntKind.i64.wrap (((x1.length : Nat) : Int) - 1))).bind fun e44 =>
    law13_BlockJoins.L4 N x0 x1 x2 r34 N ([]) e44

def law13_BlockJoins.L1 (N : Nat) (x0 : S_law13_Seeds) (x1 : (List (List Int))) (x2 : Int) : Nat → Bool → Int → Option (Bool)
  | 0, _, _ => none
  | m1 + 1, j11, j12 =>
    if j12 < ((x1.length : Nat) : Int) then
      (idx x1 j12).bind fun y346 =>
      if ((y346.length : Nat) : Int) > 200 then
        some true
      else
        if j11 = true then
          (idx x1 j12).bind fun y361 =>
          (idx x1 (0 : Int)).bind fun y373 =>
          (law13_BlockJoins.L1 N x0 x1 x2 m1) (decide (((y361.length : Nat) : Int) = ((y373.length : Nat) : Int))) (IntKind.i64.wrap (j12 + 1))
        else
          (law13_BlockJoins.L1 N x0 x1 x2 m1) false (IntKind.i64.wrap (j12 + 1))
    else
      (idx x1 (0 : Int)).bind fun y16 =>
      chk (0 ≤ (1 : Int) ∧ (1 : Int) ≤ ((x1.length : Nat) : Int) ∧ ((x1.length : Nat) : Int) ≤ ((x1.length : Nat) : Int)) <|
      (block_Join N y16 ((x1.take (((x1.length : Nat) : Int)).toNat).drop ((1 : Int)).toNat)).bind fun r34 =>
      if j11 = true then
        law13_BlockJoins.J3 N x0 x1 x2 r34 false
      else
        law13_BlockJoins.J3 N x0 x1 x2 r34 true

def law13_BlockJoins (N : Nat) (x0 : S_law13_Seeds) (x1 : (List (List Int))) (x2 : Int) : Option (Bool) :=
  (law13_awake N).bind fun r4 =>
  if r4 = true then
    if ((x1.length : Nat) : Int) > 10 then
      (law13_awake N).bind fun r387 =>
      some r387
    else
      if ((x1.length : Nat) : Int) < 1 then
        (law13_awake N).bind fun r385 =>
        some r385
      else
        law13_BlockJoins.L1 N x0 x1 x2 N true 0
  else
    (law13_awake N).bind fun r7 =>
    some r7

theorem law13_BlockJoins_any {N : Nat} {x0 : S_law13_Seeds} {x1 : (List (List Int))} {ax1 : Option Addr} {nx1 : Nat} {qx1 : Nat} {P1 : HP} {x2 : Int} {Fr : List HP} {w : World} {r : Bool} {K : Value → World → Prop} (hrd1 : Reads P1 (pRo (pInt .i32)) (.slice ax1 nx1 qx1) x1) (hc : Ctx w (P1 :: Fr)) (hp : law13_BlockJoins N x0 x1 x2 = some r)
    (k : ∀ w', Ctx w' (P1 :: Fr) → K (.bool r) w') : Calls Tryz.prog 6 #[.agg (S_law13_Seeds.cz x0).toArray, .slice ax1 nx1 qx1, .int .i64 x2] w (Ret K) := by
 unfold law13_BlockJoins at hp; refine Center3 F6 M6 rfl rfl ?_; obtain ⟨hn1, _⟩ := Ctx.rdLen hc (k := 0) rfl rfl hrd1; subst hn1; refine Wseq (Wreg ?_); refine rsE (Ctx.boxOp (cs := (S_law13_Seeds.cz x0)) (v := .agg (S_law13_Seeds.cz x0).toArray) hc rfl rfl) rfl ?_; clear hc; rintro _ w3 ⟨b1, rfl, hc⟩; refine az (.bool false) <| rn (qn (Wseq (Wseq (Wreg ?_)))); replace hp := bind_some hp; obtain ⟨r4, hr4, hp⟩ := hp; refine kz C7 ?_; refine law13_awake_any hc hr4 ?_; clear hc; intro w5 hc; cases hb6 : r4
 · replace hp := gneg hp (by rw [hb6]; exact Bool.false_ne_true); subst hb6; refine sz (ntf rfl) ?_; refine mz (.bool true) ?_; (iterate 3 refine r0 rfl ?_); refine sz (v := .bool true) (pkt (v := .bool true) rfl rfl) ?_; refine mz (.bool true) ?_; (iterate 3 refine r0 rfl ?_); refine sz (v := .bool true) (pkt (v := .bool true) rfl rfl) ?_; refine rn (qn (Wct rfl (Wseq (Wreg ?_)))); replace hp := bind_some hp; obtain ⟨r7, hr7, hp⟩ := hp; refine kz C7 ?_; refine law13_awake_any hc hr7 ?_; clear hc; intro w8 hc; refine az (.bool r7) <| rn (qn (Wret (qr ?_))); replace hc := Ctx.r0 hc; obtain rfl := sj hp; refine f1 (v := .bool r7) R6 M6 rfl ?_; exact ⟨_, rfl, k _ hc⟩
 · replace hp := gpos hp hb6; subst hb6; refine sz (ntt rfl) ?_; refine mz (.bool false) <| mz (.slice ax1 x1.length qx1) <| sz (ln rfl U26) <| sz (gt' rfl rfl) <| sz (v := .bool (decide (((x1.length : Nat) : Int) > 10))) (pkf (v := .bool (decide (((x1.length : Nat) : Int) > 10))) rfl rfl) <| mz (.bool (decide (((x1.length : Nat) : Int) > 10))) ?_; cases hb9 : (decide (((x1.length : Nat) : Int) > 10))
   · replace hp := gneg hp (of_decide_eq_false hb9); refine mz (.slice ax1 x1.length qx1) <| sz (ln rfl U26) ?_; refine sz (lt' rfl rfl) ?_; refine sz (v := .bool (decide (((x1.length : Nat) : Int) < 1))) (pkf (v := .bool (decide (((x1.length : Nat) : Int) < 1))) rfl rfl) ?_; refine rn (qn ?_); cases hb10 : (decide (((x1.length : Nat) : Int) < 1))
     · replace hp := gneg hp (of_decide_eq_false hb10); refine Wcf rfl (Wskip (qn (Wseq (Wreg ?_)))); refine az (.bool true) <| rn (qn (Wseq (Wseq (Wreg ?_)))); refine az (.int .i64 0) <| rn (qn (Wblk ?_)); refine Wloop [6, 7, 8, 42, 43, 44, 45, 46, 47, 48, 49, 50, 51, 52, 53, 54, 55, 56, 57, 58, 59, 60, 61, 62, 63, 64, 65, 66] [7, 8] (fun m vs w' => ∃ j11 : Bool, ∃ j12 : Int, vs = [.bool j11, .int .i64 j12] ∧ law13_BlockJoins.L1 N x0 x1 x2 m j11 j12 = some r ∧ Ctx w' (B b1 (S_law13_Seeds.cz x0) 25 :: P1 :: Fr)) N ?_ ?_
       · exact ⟨true, 0, rfl, hp, hc⟩
       · clear hp hc; intro m vs u w13 hJ; obtain ⟨j11, j12, rfl, hp, hc⟩ := hJ; rcases m with _ | m1
         · cases (show none = some r from hp)
         rw [law13_BlockJoins.L1] at hp; refine Wseq (Wseq (Wreg ?_)); refine mz (.int .i64 j12) <| mz (.slice ax1 x1.length qx1) <| sz (ln rfl U26) <| sz (lt' rfl rfl) <| rn (qn ?_); cases hb14 : (decide (j12 < ((x1.length : Nat) : Int)))
         · replace hp := gneg hp (of_decide_eq_false hb14); refine Wcf rfl (Wexit (qx (qx (be (qn (Wseq ?_)))))); replace hc := hc.drew; refine Wdrw (fun j w' => True) [0, 1, 3, 0, 8, 31, 63, 127, 127, 255, 1023] 0 4 rfl (by kernel_rfl) (fun _ _ => trivial) ?_; generalize hw : World.drew w13 = w15 at *; clear hw; refine dM (.slice ax1 x1.length qx1) rfl rfl rfl ?_; replace hp := bind_some hp; obtain ⟨y16, hy16, hp⟩ := hp; obtain ⟨b19, o20, u21, hi17, hi18⟩ := Ctx.rdAt hc (k := 1) rfl rfl hrd1 hy16; subst u21; refine ds rfl (fun w' hF => ixx rfl rfl U26 Z51 hi17 hi18 rfl) rfl ?_; replace hc := Ctx.rdCell hc (k := 1) rfl rfl hrd1 hy16; obtain ⟨cs22, hc, hcell23⟩ := hc; replace hc := Ctx.holdRo hc; obtain ⟨v27, u24, hc⟩ := hc; subst u24; obtain ⟨a25, q26, u24⟩ := hc.rd (k := 0) rfl rfl reads_ro; subst u24; refine dx rfl (ld rfl G51 (hcell23 0 _ rfl)) rfl rfl ?_; refine dM (.slice (some ⟨b19, o20, none⟩) x1.length qx1) rfl rfl rfl ?_; replace hp := chk_some hp; obtain ⟨hg28, hp⟩ := hp; obtain ⟨hl32, hq33⟩ := Ctx.rdLen hc (k := 2) rfl rfl hrd1; have rd31 := reads_sub (lo := ((1 : Int)).toNat) (hi := (((x1.length : Nat) : Int)).toNat) ((hrd1 : Reads (P1) (pRo (pInt .i32)) (.slice (some ⟨b19, o20, none⟩) x1.length qx1) x1)) (by omega) (by omega); refine ds (v := .slice (if qx1 = ((1 : Int)).toNat then (some ⟨b19, o20, none⟩) else Option.map (fun (x : Addr) => x.add (((1 : Int)).toNat * 1)) (some ⟨b19, o20, none⟩)) ((((x1.length : Nat) : Int)).toNat - ((1 : Int)).toNat) (qx1 - ((1 : Int)).toNat)) rfl (fun w' hF => run_sub (li := some (1 : Int)) (hi' := none) rfl ⟨_, rfl⟩ trivial U26 Z51 hg28 hq33) rfl ?_; replace hc := hc.dz 0; replace hp := bind_some hp; obtain ⟨r34, hr34, hp⟩ := hp; replace hc := Ctx.p1 (Ctx.p3 hc); refine dc (cl C23 rfl rfl) rfl rfl ?_; refine block_Join_any reads_ro rd31 hc hr34 ?_; clear hc; intro a35 n36 q37 w38 hc; obtain rfl := hc.rz 0 reads_own; refine ⟨fun j hj hb => trivial, ?_⟩; refine dM (.tuple #[.slice a35 r34.1.length q37, .int .i64 r34.2]) rfl rfl rfl ?_; refine ds rfl (fun w' hF => ext (v := .slice a35 r34.1.length q37) rfl rfl) rfl ?_; refine ds rfl (fun w' hF => ext (v := .int .i64 r34.2) rfl rfl) rfl ?_; refine dA (.slice a35 r34.1.length q37) rfl rfl rfl ?_; refine dA (.int .i64 r34.2) rfl rfl rfl ?_; refine dn (qn ?_); refine Wseqm (6 :: 11 :: 12 :: 13 :: 14 :: 76 :: 77 :: 78 :: 79 :: 80 :: 81 :: 82 :: 83 :: 84 :: 85 :: 86 :: 87 :: 88 :: 89 :: 90 :: 91 :: 92 :: 93 :: 94 :: 95 :: 96 :: 97 :: 98 :: 99 :: 100 :: 101 :: 102 :: 103 :: 104 :: 105 :: 106 :: 107 :: 108 :: 109 :: 110 :: 111 :: 112 :: 113 :: 114 :: 115 :: 116 :: 117 :: 118 :: 119 :: 120 :: 121 :: 122 :: 123 :: 124 :: 125 :: 126 :: 127 :: 128 :: 129 :: []) [] (fun vs w' => vs = [] ∧ law13_BlockJoins.J2 N x0 x2 = some r ∧ Ctx w' (P1 :: B b1 (S_law13_Seeds.cz x0) 25 :: Fr)) ?_ ?_
           · refine Wseqm [76, 77] [77] (fun vs w' => ∃ j40 : Bool, vs = [.bool j40] ∧ law13_BlockJoins.J3 N x0 x1 x2 r34 j40 = some r ∧ Ctx w' (oR .i32 21 a35 q37 r34.1 :: P1 :: B b1 (S_law13_Seeds.cz x0) 25 :: Fr)) ?_ ?_
             · refine Wreg ?_; refine mz (.bool j11) ?_; cases hb41 : j11
               · replace hp := gneg hp (by rw [hb41]; exact Bool.false_ne_true); subst hb41; refine sz (ntf rfl) ?_; refine rn (qn ?_); replace hc := Ctx.r1 (Ctx.r3 hc); exact ⟨⟨true, rfl, hp, hc⟩, (kl rfl kb)⟩
               · replace hp := gpos hp hb41; subst hb41; refine sz (ntt rfl) ?_; refine rn (qn ?_); replace hc := Ctx.r1 (Ctx.r3 hc); exact ⟨⟨false, rfl, hp, hc⟩, (kl rfl kb)⟩
             · clear hp hc; intro vs u w42 hJ; obtain ⟨j40, rfl, hp, hc⟩ := hJ; unfold law13_BlockJoins.J3 at hp; cases hb43 : j40
               · replace hp := gneg hp (by rw [hb43]; exact Bool.false_ne_true); subst hb43; refine Wcf rfl (Wseq (Wreg ?_)); refine az (.slice none 0 0) <| rn (qn (Wseq (Wseq (Wreg ?_)))); refine mz (.slice (some ⟨b19, o20, none⟩) x1.length qx1) <| sz (ln rfl U26) ?_; refine sz (sbw rfl rfl) ?_; replace hp := bind_some hp; obtain ⟨e44, he44, hp⟩ := hp; injection he44 with he44; refine sz (v := .int .i64 e44) (av (v := .int .i64 e44) (by rw [← he44]; rfl)) ?_; refine rn (qn (Wblk ?_)); replace hc := hc.nilOwn (pRo (pInt .i32)) 51; replace hc := Ctx.p3 (Ctx.p3 (Ctx.p3 hc)); refine Wloop [11, 12, 88, 89, 90, 91, 92, 93, 94, 95, 96, 97, 98] [11, 12] (fun m vs w' => ∃ j45 : (List (List Int)), ∃ j49 : Int, ∃ a46 : Option Addr, ∃ n47 : Nat, ∃ q48 : Nat, vs = [.slice a46 n47 q48, .int .i64 j49] ∧ law13_BlockJoins.L4 N x0 x1 x2 r34 m j45 j49 = some r ∧ Ctx w' (oR .i32 21 a35 q37 r34.1 :: P1 :: B b1 (S_law13_Seeds.cz x0) 25 :: Own (pRo (pInt .i32)) 51 (.slice a46 n47 q48) j45 :: Fr)) N ?_ ?_
                 · exact ⟨[], e44, none, 0, 0, rfl, hp, hc⟩
                 · clear hp hc; intro m vs u w50 hJ; obtain ⟨j45, j49, a46, n47, q48, rfl, hp, hc⟩ := hJ; obtain rfl := hc.rz 3 reads_own; rcases m with _ | m4
                   · cases (show none = some r from hp)
                   rw [law13_BlockJoins.L4] at hp; refine Wseq (Wseq (Wreg ?_)); refine mz (.int .i64 j49) <| sz (gt' rfl rfl) ?_; refine rn (qn ?_); cases hb52 : (decide (j49 > 0))
                   · replace hp := gneg hp (of_decide_eq_false hb52); refine Wcf rfl (Wexit (qx (qx (be (qn (Wseq (Wreg ?_))))))); refine mz (.slice (some ⟨b19, o20, none⟩) x1.length qx1) ?_; replace hp := bind_some hp; obtain ⟨y53, hy53, hp⟩ := hp; obtain ⟨b56, o57, u58, hi54, hi55⟩ := Ctx.rdAt hc (k := 1) rfl rfl hrd1 hy53; clear u58; refine sz (ixx rfl rfl U26 Z51 hi54 hi55 rfl) ?_; replace hc := Ctx.rdCell hc (k := 1) rfl rfl hrd1 hy53; obtain ⟨cs59, hc, hcell60⟩ := hc; replace hc := Ctx.holdRo hc; obtain ⟨v64, u61, hc⟩ := hc; subst u61; obtain ⟨a62, q63, u61⟩ := hc.rd (k := 0) rfl rfl reads_ro; subst u61; refine sz (ld rfl G51 (hcell60 0 _ rfl)) ?_; refine mz (.slice a46 j45.length q48) ?_; replace hc := hc.dz 0; replace hp := bind_some hp; obtain ⟨r65, hr65, hp⟩ := hp; replace hc := Ctx.p1 (Ctx.p5 hc); refine kz C23 ?_; refine block_Join_any reads_ro reads_own hc hr65 ?_; clear hc; intro a66 n67 q68 w69 hc; obtain rfl := hc.rz 0 reads_own; refine mz (.tuple #[.slice a66 r65.1.length q68, .int .i64 r65.2]) <| sz (ext (v := .slice a66 r65.1.length q68) rfl rfl) ?_; refine sz (ext (v := .int .i64 r65.2) rfl rfl) ?_; refine az (.slice a66 r65.1.length q68) <| az (.int .i64 r65.2) <| rn (qn (Wseq ?_)); replace hc := hc.drew; refine Wdrw (fun j w' => True) [0, 1, 3, 7, 15, 31, 63, 127, 127, 383, 895, 127, 2175, 8063, 16383, 32767, 65535, 131071, 262143, 262143, 1048575, 2097151, 4194303] 0 1024 rfl (by kernel_rfl) (fun _ _ => trivial) ?_; generalize hw : World.drew w69 = w71 at *; clear hw; refine dM (.int .i64 r34.2) rfl rfl rfl ?_; refine ds rfl (fun w' hF => ned rfl rfl) rfl ?_; refine dM (.bool (decide (r34.2 ≠ 0))) rfl rfl rfl ?_; cases hb72 : (decide (r34.2 ≠ 0))
                     · replace hp := gneg hp (of_decide_eq_false hb72); refine dM (.int .i64 r65.2) rfl rfl rfl ?_; refine ds rfl (fun w' hF => ned rfl rfl) rfl ?_; refine ds (v := .bool (decide (r65.2 ≠ 0))) rfl (fun w' hF => pkf (v := .bool (decide (r65.2 ≠ 0))) rfl rfl) rfl ?_; refine dM (.bool (decide (r65.2 ≠ 0))) rfl rfl rfl ?_; cases hb73 : (decide (r65.2 ≠ 0))
                       · replace hp := gneg hp (of_decide_eq_false hb73); refine dM (.slice a35 r34.1.length q37) rfl rfl rfl ?_; refine dM (.slice (some ⟨b19, o20, none⟩) x1.length qx1) rfl rfl rfl ?_; replace hp := bind_some hp; obtain ⟨y74, hy74, hp⟩ := hp; obtain ⟨b77, o78, u79, hi75, hi76⟩ := Ctx.rdAt hc (k := 5) rfl rfl hrd1 hy74; clear u79; refine ds rfl (fun w' hF => ixx rfl rfl U26 Z51 hi75 hi76 rfl) rfl ?_; replace hc := Ctx.rdCell hc (k := 5) rfl rfl hrd1 hy74; obtain ⟨cs80, hc, hcell81⟩ := hc; replace hc := Ctx.holdRo hc; obtain ⟨v85, u82, hc⟩ := hc; subst u82; obtain ⟨a83, q84, u82⟩ := hc.rd (k := 0) rfl rfl reads_ro; subst u82; refine dx rfl (ld rfl G51 (hcell81 0 _ rfl)) rfl rfl ?_; refine dM (.slice (some ⟨b19, o20, none⟩) x1.length qx1) rfl rfl rfl ?_; replace hp := chk_some hp; obtain ⟨hg86, hp⟩ := hp; obtain ⟨hl90, hq91⟩ := Ctx.rdLen hc (k := 6) rfl rfl hrd1; have rd89 := reads_sub (lo := ((1 : Int)).toNat) (hi := (((x1.length : Nat) : Int)).toNat) ((hrd1 : Reads (P1) (pRo (pInt .i32)) (.slice (some ⟨b19, o20, none⟩) x1.length qx1) x1)) (by omega) (by omega); refine ds (v := .slice (if qx1 = ((1 : Int)).toNat then (some ⟨b19, o20, none⟩) else Option.map (fun (x : Addr) => x.add (((1 : Int)).toNat * 1)) (some ⟨b19, o20, none⟩)) ((((x1.length : Nat) : Int)).toNat - ((1 : Int)).toNat) (qx1 - ((1 : Int)).toNat)) rfl (fun w' hF => run_sub (li := some (1 : Int)) (hi' := none) rfl ⟨_, rfl⟩ trivial U26 Z51 hg86 hq91) rfl ?_; replace hc := hc.dz 0; replace hp := bind_some hp; obtain ⟨r92, hr92, hp⟩ := hp; replace hc := Ctx.p1 (Ctx.p7 hc); refine dc (cl C24 rfl rfl) rfl rfl ?_; refine ref13_Join_any reads_ro rd89 hc hr92 ?_; clear hc; intro a93 n94 q95 w96 hc; obtain rfl := hc.rz 0 reads_own; refine ⟨fun j hj hb => trivial, ?_⟩; replace hp := bind_some hp; obtain ⟨r98, hr98, hp⟩ := hp; replace hc := Ctx.p8 hc; refine dc (cl C13 rfl rfl) rfl rfl ?_; refine ref04_Ints_any reads_own reads_own hc hr98 ?_; clear hc; intro w99 hc; refine ⟨fun j hj hb => trivial, ?_⟩; cases hb100 : r98
                         · replace hp := gneg hp (by rw [hb100]; exact Bool.false_ne_true); subst hb100; refine ds rfl (fun w' hF => ntf rfl) rfl ?_; refine ds (v := .bool true) rfl (fun w' hF => pkf (v := .bool true) rfl rfl) rfl ?_; refine dM (.bool true) rfl rfl rfl ?_; (iterate 4 refine d0 rfl rfl ?_); refine ds (v := .bool true) rfl (fun w' hF => pkt (v := .bool true) rfl rfl) rfl ?_; refine dn (qn (Wct rfl (Wseq (Wreg ?_)))); refine az (.bool false) <| rn (qn (Wret (qr ?_))); replace hc := Ctx.r0 (Ctx.r1 (Ctx.r2 (Ctx.r4 (Ctx.r5 (Ctx.r6 (Ctx.r7 (Ctx.r8 (Ctx.r9 hc)))))))); obtain rfl := sj hp; refine f1 (v := .bool false) R6 M6 rfl ?_; exact ⟨_, rfl, k _ hc⟩
                         · replace hp := gpos hp hb100; subst hb100; refine ds rfl (fun w' hF => ntt rfl) rfl ?_; refine ds (v := .bool false) rfl (fun w' hF => pkf (v := .bool false) rfl rfl) rfl ?_; refine dM (.bool false) rfl rfl rfl ?_; refine dM (.slice a35 r34.1.length q37) rfl rfl rfl ?_; refine dM (.slice a66 r65.1.length q68) rfl rfl rfl ?_; replace hp := bind_some hp; obtain ⟨r101, hr101, hp⟩ := hp; replace hc := Ctx.p1 (Ctx.p5 hc); refine dc (cl C13 rfl rfl) rfl rfl ?_; refine ref04_Ints_any reads_own reads_own hc hr101 ?_; clear hc; intro w102 hc; refine ⟨fun j hj hb => trivial, ?_⟩; cases hb103 : r101
                           · replace hp := gneg hp (by rw [hb103]; exact Bool.false_ne_true); subst hb103; refine ds rfl (fun w' hF => ntf rfl) rfl ?_; refine ds (v := .bool true) rfl (fun w' hF => pkf (v := .bool true) rfl rfl) rfl ?_; refine dn (qn (Wct rfl (Wseq (Wreg ?_)))); refine az (.bool false) <| rn (qn (Wret (qr ?_))); replace hc := Ctx.r0 (Ctx.r1 (Ctx.r2 (Ctx.r3 (Ctx.r5 (Ctx.r6 (Ctx.r7 (Ctx.r8 (Ctx.r9 hc)))))))); obtain rfl := sj hp; refine f1 (v := .bool false) R6 M6 rfl ?_; exact ⟨_, rfl, k _ hc⟩
                           · replace hp := gpos hp hb103; subst hb103; refine ds rfl (fun w' hF => ntt rfl) rfl ?_; refine ds (v := .bool false) rfl (fun w' hF => pkf (v := .bool false) rfl rfl) rfl ?_; refine dn (qn (Wcf rfl (Wskip (qn ?_)))); replace hc := Ctx.r0 (Ctx.r1 (Ctx.r2 (Ctx.r3 (Ctx.r5 (Ctx.r6 (Ctx.r7 (Ctx.r8 hc))))))); exact ⟨⟨rfl, hp, hc⟩, (kl rfl (km rfl (kl rfl (km rfl (kl rfl kb)))))⟩
                       · replace hp := gpos hp (of_decide_eq_true hb73); (iterate 9 refine d0 rfl rfl ?_); refine ds (v := .bool true) rfl (fun w' hF => pkt (v := .bool true) rfl rfl) rfl ?_; refine dM (.bool true) rfl rfl rfl ?_; (iterate 4 refine d0 rfl rfl ?_); refine ds (v := .bool true) rfl (fun w' hF => pkt (v := .bool true) rfl rfl) rfl ?_; refine dn (qn (Wct rfl (Wseq (Wreg ?_)))); refine az (.bool false) <| rn (qn (Wret (qr ?_))); replace hc := Ctx.r0 (Ctx.r1 (Ctx.r2 (Ctx.r3 (Ctx.r4 (Ctx.r6 hc))))); obtain rfl := sj hp; refine f1 (v := .bool false) R6 M6 rfl ?_; exact ⟨_, rfl, k _ hc⟩
                     · replace hp := gpos hp (of_decide_eq_true hb72); (iterate 2 refine d0 rfl rfl ?_); refine ds (v := .bool true) rfl (fun w' hF => pkt (v := .bool true) rfl rfl) rfl ?_; refine dM (.bool true) rfl rfl rfl ?_; (iterate 9 refine d0 rfl rfl ?_); refine ds (v := .bool true) rfl (fun w' hF => pkt (v := .bool true) rfl rfl) rfl ?_; refine dM (.bool true) rfl rfl rfl ?_; (iterate 4 refine d0 rfl rfl ?_); refine ds (v := .bool true) rfl (fun w' hF => pkt (v := .bool true) rfl rfl) rfl ?_; refine dn (qn (Wct rfl (Wseq (Wreg ?_)))); refine az (.bool false) <| rn (qn (Wret (qr ?_))); replace hc := Ctx.r0 (Ctx.r1 (Ctx.r2 (Ctx.r3 (Ctx.r4 (Ctx.r6 hc))))); obtain rfl := sj hp; refine f1 (v := .bool false) R6 M6 rfl ?_; exact ⟨_, rfl, k _ hc⟩
                   · replace hp := gpos hp (of_decide_eq_true hb52); refine Wct rfl (Wskip (qn (Wseq (Wblk (Wreg ?_))))); refine mz (.slice a46 j45.length q48) <| mz (.slice (some ⟨b19, o20, none⟩) x1.length qx1) <| mz (.int .i64 j49) ?_; replace hp := bind_some hp; obtain ⟨y104, hy104, hp⟩ := hp; obtain ⟨b107, o108, u109, hi105, hi106⟩ := Ctx.rdAt hc (k := 1) rfl rfl hrd1 hy104; clear u109; refine sz (ixx rfl rfl U26 Z51 hi105 hi106 rfl) ?_; replace hc := Ctx.rdCell hc (k := 1) rfl rfl hrd1 hy104; obtain ⟨cs110, hc, hcell111⟩ := hc; replace hc := Ctx.holdRo hc; obtain ⟨v115, u112, hc⟩ := hc; subst u112; obtain ⟨a113, q114, u112⟩ := hc.rd (k := 0) rfl rfl reads_ro; subst u112; refine sz (ld rfl G51 (hcell111 0 _ rfl)) ?_; replace hc := hc.dz 0; refine rsE (Ctx.builtOp (css := [[.slice a113 y104.length q114]]) (xs := ([y104] : List (List Int))) (E := (pRo (pInt .i32))) hc U26 Z51 V51 rfl rfl rfl rfl rfl rfl rfl rfl) rfl ?_; clear hc; rintro _ w117 ⟨a116, rfl, hc⟩; replace hp := bind_some hp; obtain ⟨z118, hz118, hp⟩ := hp; obtain ⟨hg119, e120⟩ := app_some hz118; refine rsE (Ctx.append hc (k := 5) rfl rfl (k2 := 0) rfl rfl reads_own U26 (i := Tryz.t51) rfl rfl rfl rfl rfl rfl rfl rfl hg119) rfl ?_; clear hc; rintro _ w123 ⟨a121, q122, rfl, hc⟩; rw [← e120] at hc ⊢; replace hc := Ctx.n5 hc; refine az (.slice a121 z118.length q122) <| rn (bn (qn (Wreg ?_))); refine mz (.int .i64 j49) <| sz (sbw rfl rfl) ?_; refine az (.int .i64 (IntKind.i64.wrap (j49 - 1))) <| rn (qn ?_); replace hc := Ctx.r0 (Ctx.r1 hc); exact ⟨m4, Nat.lt_succ_self _, ⟨z118, (IntKind.i64.wrap (j49 - 1)), a121, z118.length, q122, rfl, hp, hc⟩, (kl rfl k0)⟩
               · replace hp := gpos hp hb43; subst hb43; refine Wct rfl (Wseq (Wreg ?_)); refine mz (.int .i64 r34.2) <| sz (ned rfl rfl) ?_; refine mz (.bool (decide (r34.2 ≠ 30))) ?_; cases hb124 : (decide (r34.2 ≠ 30))
                 · replace hp := gneg hp (of_decide_eq_false hb124); refine mz (.slice a35 r34.1.length q37) <| sz (ln rfl U51) ?_; refine sz (ned rfl rfl) ?_; refine sz (v := .bool (decide (((r34.1.length : Nat) : Int) ≠ 0))) (pkf (v := .bool (decide (((r34.1.length : Nat) : Int) ≠ 0))) rfl rfl) ?_; refine rn (qn ?_); cases hb125 : (decide (((r34.1.length : Nat) : Int) ≠ 0))
                   · replace hp := gneg hp (of_decide_eq_false hb125); refine Wcf rfl (Wskip (qn ?_)); replace hc := Ctx.r0 hc; exact ⟨⟨rfl, hp, hc⟩, (kl rfl (km rfl (kl rfl kb)))⟩
                   · replace hp := gpos hp (of_decide_eq_true hb125); refine Wct rfl (Wseq (Wreg ?_)); refine az (.bool false) <| rn (qn (Wret (qr ?_))); replace hc := Ctx.r0 (Ctx.r2 hc); obtain rfl := sj hp; refine f1 (v := .bool false) R6 M6 rfl ?_; exact ⟨_, rfl, k _ hc⟩
                 · replace hp := gpos hp (of_decide_eq_true hb124); (iterate 3 refine r0 rfl ?_); refine sz (v := .bool true) (pkt (v := .bool true) rfl rfl) ?_; refine rn (qn (Wct rfl (Wseq (Wreg ?_)))); refine az (.bool false) <| rn (qn (Wret (qr ?_))); replace hc := Ctx.r0 (Ctx.r2 hc); obtain rfl := sj hp; refine f1 (v := .bool false) R6 M6 rfl ?_; exact ⟨_, rfl, k _ hc⟩
           · clear hp hc; intro vs u w126 hJ; obtain ⟨rfl, hp, hc⟩ := hJ; unfold law13_BlockJoins.J2 at hp; refine Wseq (Wreg ?_); refine sz (v := .agg (S_law13_Seeds.cz x0).toArray) (ldg rfl G25 Z25 rfl (Ctx.cells hc (k := 1) rfl rfl 0 (vs := (S_law13_Seeds.cz x0)) rfl)) ?_; replace hp := bind_some hp; obtain ⟨r127, hr127, hp⟩ := hp; refine kz C8 ?_; refine law13_made_any (x0 := x0) hc hr127 ?_; clear hc; intro a128 n129 q130 a131 n132 q133 a134 n135 q136 a137 n138 q139 w140 hc; obtain rfl := hc.rz 0 reads_ro; obtain rfl := hc.rz 1 reads_ro; obtain rfl := hc.rz 2 reads_ro; obtain rfl := hc.rz 3 reads_ro; refine mz (.tuple #[.agg (S_api_Weights.cz r127.1 a128 q130 a131 q133 a134 q136 a137 q139).toArray, .agg #[.int .i64 r127.2.Stages, .int .i64 r127.2.Parts]]) <| sz (ext (v := .agg (S_api_Weights.cz r127.1 a128 q130 a131 q133 a134 q136 a137 q139).toArray) rfl rfl) ?_; refine sz (ext (v := .agg #[.int .i64 r127.2.Stages, .int .i64 r127.2.Parts]) rfl rfl) ?_; refine rsE (Ctx.allocOp (cs := [.int .i64 0, .int .i64 0, .int .i64 0, .int .i64 0, .int .i64 0, .int .i64 0, .int .i64 0, .int .i64 0, .slice none 0 0, .slice none 0 0, .slice none 0 0, .int .i64 0, .int .i64 0, .slice none 0 0]) hc V35 rfl) rfl ?_; clear hc; rintro _ w147 ⟨b145, rfl, hc⟩; refine rsE (Ctx.allocOp (cs := [.int .i64 0, .int .i64 0]) hc V37 rfl) rfl ?_; clear hc; rintro _ w150 ⟨b148, rfl, hc⟩; refine ruE (Ctx.putAgg hc (k := 1) rfl rfl (vs := (S_api_Weights.cz r127.1 a128 q130 a131 q133 a134 q136 a137 q139)) (cs' := (S_api_Weights.cz r127.1 a128 q130 a131 q133 a134 q136 a137 q139)) rfl rfl rfl Z35 rfl rfl rfl) rfl ?_; clear hc; rintro w151 hc; replace hc := Ctx.n1 hc; refine ruE (Ctx.putAgg hc (k := 0) rfl rfl (vs := [.int .i64 r127.2.Stages, .int .i64 r127.2.Parts]) (cs' := [.int .i64 r127.2.Stages, .int .i64 r127.2.Parts]) rfl rfl rfl Z37 rfl rfl rfl) rfl ?_; clear hc; rintro w152 hc; replace hc := Ctx.n0 hc; refine rn (qn (Wseq (Wseq (Wreg ?_)))); refine az (.int .i64 0) <| rn (qn (Wblk ?_)); replace hc := Ctx.r7 hc; refine Wloop (6 :: 17 :: 18 :: 19 :: 20 :: 21 :: 135 :: 136 :: 137 :: 138 :: 139 :: 140 :: 141 :: 142 :: 143 :: 144 :: 145 :: 146 :: 147 :: 148 :: 149 :: 150 :: 151 :: 152 :: 153 :: 154 :: 155 :: 156 :: 157 :: 158 :: 159 :: 160 :: 161 :: 162 :: 163 :: 164 :: 165 :: 166 :: 167 :: 168 :: 169 :: 170 :: 171 :: 172 :: 173 :: 174 :: 175 :: 176 :: 177 :: 178 :: 179 :: 180 :: 181 :: 182 :: 183 :: 184 :: 185 :: 186 :: 187 :: 188 :: 189 :: 190 :: 191 :: 192 :: 193 :: 194 :: 195 :: 196 :: 197 :: 198 :: 199 :: 200 :: 201 :: 202 :: 203 :: 204 :: 205 :: 206 :: 207 :: 208 :: 209 :: 210 :: 211 :: 212 :: 213 :: 214 :: 215 :: 216 :: 217 :: 218 :: 219 :: 220 :: 221 :: []) [17] (fun m vs w' => ∃ j153 : Int, vs = [.int .i64 j153] ∧ law13_BlockJoins.L5 N x2 r127 m j153 = some r ∧ Ctx w' (B b148 [.int .i64 r127.2.Stages, .int .i64 r127.2.Parts] 37 :: B b145 (S_api_Weights.cz r127.1 a128 q130 a131 q133 a134 q136 a137 q139) 35 :: hR .i8 a128 q130 r127.1.Embed.V :: hS S_api_Block.pr a131 q133 r127.1.Blocks :: hR .i8 a134 q136 r127.1.Last :: hR .i8 a137 q139 r127.1.Head.V :: P1 :: Fr)) N ?_ ?_
             · exact ⟨0, rfl, hp, hc⟩
             · clear hp hc; intro m vs u w154 hJ; obtain ⟨j153, rfl, hp, hc⟩ := hJ; rcases m with _ | m5
               · cases (show none = some r from hp)
               rw [law13_BlockJoins.L5] at hp; refine Wseq (Wseq (Wreg ?_)); refine mz (.int .i64 j153) ?_; refine fl 0 U37 Z3 G3 (Ctx.cell hc (k := 0) rfl rfl rfl) rfl rfl rfl rfl rfl rfl rfl rfl ?_; refine fl 1 U37 Z3 G3 (Ctx.cell hc (k := 0) rfl rfl rfl) rfl rfl rfl rfl rfl rfl rfl rfl ?_; refine sz (mlw rfl rfl) ?_; refine sz (lt' rfl rfl) ?_; refine rn (qn ?_); cases hb155 : (decide (j153 < (IntKind.i64.wrap (r127.2.Stages * r127.2.Parts))))
               · replace hp := gneg hp (of_decide_eq_false hb155); refine Wcf rfl (Wexit (qx (qx (be (qn (Wseq (Wreg ?_))))))); refine sz (v := .agg #[.int .i64 0, .int .i64 0, .int .i64 0, .int .i64 0, .int .i64 0, .int .i64 0, .int .i64 0, .int .i64 0, .int .i64 0, .int .i64 0, .int .i64 0, .int .i64 0, .slice none 0 0, .slice none 0 0, .slice none 0 0, .int .i64 0, .int .i64 0, .slice none 0 0]) (bd_41_ ) ?_; refine mz (.int .i64 x2) ?_; replace hc := hc.nilRo (pInt .i8); replace hc := hc.dz 0; replace hc := hc.nilRo S_api_Block.pr; replace hc := hc.dz 0; replace hc := hc.nilRo (pInt .i8); replace hc := hc.dz 0; replace hc := hc.nilRo (pInt .i8); replace hc := hc.dz 0; replace hp := bind_some hp; obtain ⟨r156, hr156, hp⟩ := hp; replace hc := Ctx.p6 (Ctx.p4 (Ctx.p2 hc)); refine kz C25 ?_; refine block_Enter_any (x0 := (⟨(⟨0, 0, 0, 0, 0, 0⟩ : S_api_Shape), (⟨0, 0⟩ : S_api_Cut), 0, 0, (⟨0, 0, []⟩ : S_api_Mat), [], [], (⟨0, 0, []⟩ : S_api_Mat)⟩ : S_api_Shard)) hc hr156 ?_; clear hc; intro a157 n158 q159 w160 hc; obtain rfl := hc.rz 0 reads_own; refine mz (.tuple #[.slice a157 r156.1.length q159, .int .i64 r156.2]) <| sz (ext (v := .slice a157 r156.1.length q159) rfl rfl) ?_; refine sz (ext (v := .int .i64 r156.2) rfl rfl) ?_; refine az (.slice a157 r156.1.length q159) <| az (.int .i64 r156.2) <| rn (qn (Wseq (Wreg ?_))); refine sz (v := .agg #[.int .i64 0, .int .i64 0, .int .i64 0, .int .i64 0, .int .i64 0, .int .i64 0, .int .i64 0, .int .i64 0, .int .i64 0, .int .i64 0, .int .i64 0, .int .i64 0, .slice none 0 0, .slice none 0 0, .slice none 0 0, .int .i64 0, .int .i64 0, .slice none 0 0]) (bd_41_ ) ?_; replace hc := hc.nilRo (pInt .i8); replace hc := hc.dz 0; replace hc := hc.nilRo S_api_Block.pr; replace hc := hc.dz 0; replace hc := hc.nilRo (pInt .i8); replace hc := hc.dz 0; replace hc := hc.nilRo (pInt .i8); replace hc := hc.dz 0; replace hc := hc.nilRo (pInt .i8); replace hc := hc.dz 0; replace hp := bind_some hp; obtain ⟨r162, hr162, hp⟩ := hp; replace hc := Ctx.p8 (Ctx.p6 (Ctx.p4 (Ctx.p2 hc))); refine kz C26 ?_; refine block_Rows_any (x0 := (⟨(⟨0, 0, 0, 0, 0, 0⟩ : S_api_Shape), (⟨0, 0⟩ : S_api_Cut), 0, 0, (⟨0, 0, []⟩ : S_api_Mat), [], [], (⟨0, 0, []⟩ : S_api_Mat)⟩ : S_api_Shard)) reads_ro hc hr162 ?_; clear hc; intro w163 hc; refine mz (.tuple #[.agg #[.int .i64 r162.1.c0, .int .i64 r162.1.c1], .bool r162.2]) <| sz (ext (v := .agg #[.int .i64 r162.1.c0, .int .i64 r162.1.c1]) rfl rfl) ?_; refine sz (ext (v := .bool r162.2) rfl rfl) ?_; refine rsE (Ctx.allocOp (cs := [.int .i64 0, .int .i64 0]) hc V89 rfl) rfl ?_; clear hc; rintro _ w166 ⟨b164, rfl, hc⟩; refine ruE (Ctx.putAgg hc (k := 0) rfl rfl (vs := [.int .i64 r162.1.c0, .int .i64 r162.1.c1]) (cs' := [.int .i64 r162.1.c0, .int .i64 r162.1.c1]) rfl rfl rfl Z89 rfl rfl rfl) rfl ?_; clear hc; rintro w167 hc; replace hc := Ctx.n0 hc; refine az (.bool r162.2) <| rn (qn (Wseq (Wreg ?_))); refine sz (v := .agg (S_api_Weights.cz r127.1 a128 q130 a131 q133 a134 q136 a137 q139).toArray) (ldg rfl G35 Z35 rfl (Ctx.cells hc (k := 13) rfl rfl 0 (vs := (S_api_Weights.cz r127.1 a128 q130 a131 q133 a134 q136 a137 q139)) rfl)) ?_; refine sz (v := .agg #[.int .i64 r127.2.Stages, .int .i64 r127.2.Parts]) (ldg rfl G37 Z37 rfl (Ctx.cells hc (k := 12) rfl rfl 0 (vs := [.int .i64 r127.2.Stages, .int .i64 r127.2.Parts]) rfl)) ?_; replace hc := hc.dz 14; replace hc := hc.dz 16; replace hc := hc.dz 18; replace hc := hc.dz 20; replace hp := bind_some hp; obtain ⟨r168, hr168, hp⟩ := hp; replace hc := Ctx.p3 (Ctx.p2 (Ctx.p1 hc)); refine kz C9 ?_; refine ref11_Take_any (x0 := r127.1) (x1 := r127.2) hc hr168 ?_; clear hc; intro a169 n170 q171 a172 n173 q174 a175 n176 q177 a178 n179 q180 w181 hc; obtain rfl := hc.rz 0 reads_ro; obtain rfl := hc.rz 1 reads_ro; obtain rfl := hc.rz 2 reads_ro; obtain rfl := hc.rz 3 reads_ro; refine rsE (Ctx.allocOp (cs := [.int .i64 0, .int .i64 0, .int .i64 0, .int .i64 0, .int .i64 0, .int .i64 0, .int .i64 0, .int .i64 0, .int .i64 0, .int .i64 0, .int .i64 0, .int .i64 0, .slice none 0 0, .slice none 0 0, .slice none 0 0, .int .i64 0, .int .i64 0, .slice none 0 0]) hc V41 rfl) rfl ?_; clear hc; rintro _ w188 ⟨b186, rfl, hc⟩; refine ruE (Ctx.putAgg hc (k := 0) rfl rfl (vs := (S_api_Shard.cz r168 a169 q171 a172 q174 a175 q177 a178 q180)) (cs' := (S_api_Shard.cz r168 a169 q171 a172 q174 a175 q177 a178 q180)) rfl rfl rfl Z41 rfl rfl rfl) rfl ?_; clear hc; rintro w189 hc; replace hc := Ctx.n0 hc; refine rn (qn ?_); refine Wseqm [27, 28, 236, 237, 238, 239, 240, 241, 242, 243, 244, 245] [28] (fun vs w' => ∃ j190 : Bool, vs = [.bool j190] ∧ law13_BlockJoins.J6 r156 r162 j190 = some r ∧ Ctx w' (P1 :: Fr)) ?_ ?_
                 · replace hp := chk_some hp; obtain ⟨hg100157, hp⟩ := hp; replace hp := bind_some hp; obtain ⟨r100158, hr100158, hp⟩ := hp; refine Wrg rfl ?_; refine RGsplit 5 10 rfl ?_ ?_
                   · refine RGsplit 6 10 rfl ?_ ?_
                     · replace hc := hc.drew; have hF : ∀ j, free [0, 0, 2, 6, 14, 30, 63, 127, 255, 255, 127, 1535, 4095] 0 j = true → (fun j w' => (j = 0 → ∀ j v, ((S_api_Shard.cz r168 a169 q171 a172 q174 a175 q177 a178 q180) : List Value)[j]? = some v → w'.cell? ((⟨b186, 0, none⟩ : Addr).add j) = some v) ∧ True) j (World.drew w189) := fun j hj => ⟨fun _ => Ctx.cells hc (k := 0) rfl rfl 0 (vs := (S_api_Shard.cz r168 a169 q171 a172 q174 a175 q177 a178 q180)) rfl, trivial⟩; refine RGleaf [0, 1, 2, 3, 4, 5, 6, 7, 8, 9, 10, 11, 12] (fun j w' => (j = 0 → ∀ j v, ((S_api_Shard.cz r168 a169 q171 a172 q174 a175 q177 a178 q180) : List Value)[j]? = some v → w'.cell? ((⟨b186, 0, none⟩ : Addr).add j) = some v) ∧ True) [0, 0, 2, 6, 14, 30, 63, 127, 255, 255, 127, 1535, 4095] 0 8 (by kernel_rfl) (by kernel_rfl) (hF) ?_; generalize hw : World.drew w189 = w191 at *; clear hw; refine ds (v := .agg (S_api_Shard.cz r168 a169 q171 a172 q174 a175 q177 a178 q180).toArray) rfl (fun w' hF => ldg rfl G41 Z41 rfl (hF.1 rfl)) rfl ?_; refine ds (v := pt b145 0) rfl (fun w' hF => fax 0 rfl U35 rfl Z29 rfl rfl rfl) rfl ?_; refine ds (v := pt b145 1) rfl (fun w' hF => fax 1 rfl U29 rfl Z3 rfl rfl rfl) rfl ?_; refine dx rfl (ld rfl G3 (Ctx.cell hc (k := 18) rfl rfl rfl)) rfl rfl ?_; refine ds rfl (fun w' hF => adw rfl rfl) rfl ?_; have hm193 : (((IntKind.i64.wrap (r127.1.Shape.Width + 1))).toNat : Int) = (IntKind.i64.wrap (r127.1.Shape.Width + 1)) := Int.toNat_of_nonneg hg100157.1; refine deE (Ctx.make (n := ((IntKind.i64.wrap (r127.1.Shape.Width + 1))).toNat) (E := (pInt .i8)) (x0 := 0) hc (by rw [hm193]; rfl) (by rw [hm193]; rfl) U30 (i := Tryz.t88) rfl rfl rfl rfl rfl rfl (fun _ _ => rfl) (by omega)) rfl rfl ?_; clear hc; rintro _ w195 ⟨a192, rfl, hc⟩; refine ⟨fun j hj hb => ⟨fun _ => Ctx.cells hc (k := 1) rfl rfl 0 (vs := (S_api_Shard.cz r168 a169 q171 a172 q174 a175 q177 a178 q180)) rfl, trivial⟩, ?_⟩; replace hc := hc.dz 2; replace hc := hc.dz 4; replace hc := hc.dz 6; replace hc := hc.dz 8; replace hc := Ctx.p4 (Ctx.p3 (Ctx.p2 (Ctx.p1 (Ctx.p4 hc)))); refine dc (cl C26 rfl rfl) rfl rfl ?_; refine block_Rows_any (x0 := r168) reads_own hc hr100158 ?_; clear hc; intro w196 hc; refine ⟨fun j hj hb => ⟨fun e => (by subst e; exact absurd hj (by decide)), trivial⟩, ?_⟩; refine dM (.tuple #[.agg #[.int .i64 r100158.1.c0, .int .i64 r100158.1.c1], .bool r100158.2]) rfl rfl rfl ?_; refine ds rfl (fun w' hF => ext (v := .agg #[.int .i64 r100158.1.c0, .int .i64 r100158.1.c1]) rfl rfl) rfl ?_; refine ds rfl (fun w' hF => ext (v := .bool r100158.2) rfl rfl) rfl ?_; refine deE (Ctx.allocOp (cs := [.int .i64 0, .int .i64 0]) hc V89 rfl) rfl rfl ?_; clear hc; rintro _ w199 ⟨b197, rfl, hc⟩; refine ⟨fun j hj hb => ⟨fun e => (by subst e; exact absurd hj (by decide)), trivial⟩, ?_⟩; refine duE (Ctx.putAgg hc (k := 0) rfl rfl (vs := [.int .i64 r100158.1.c0, .int .i64 r100158.1.c1]) (cs' := [.int .i64 r100158.1.c0, .int .i64 r100158.1.c1]) rfl rfl rfl Z89 rfl rfl rfl) rfl rfl ?_; clear hc; rintro w200 hc; replace hc := Ctx.n0 hc; refine ⟨fun j hj hb => ⟨fun e => (by subst e; exact absurd hj (by decide)), trivial⟩, ?_⟩; refine dA (.bool r100158.2) rfl rfl rfl ?_; refine dn (qn ?_); replace hc := Ctx.r13 (Ctx.r14 (Ctx.r15 (Ctx.r16 (Ctx.r17 (Ctx.r18 (Ctx.r19 (Ctx.r20 (Ctx.r21 (Ctx.r22 (Ctx.r23 (Ctx.r24 hc))))))))))); replace hc := Ctx.r1 (Ctx.r2 (Ctx.r3 (Ctx.r4 (Ctx.r5 (Ctx.r6 (Ctx.r7 (Ctx.r8 (Ctx.r9 (Ctx.r10 (Ctx.r11 (Ctx.r12 hc))))))))))); replace hc := Ctx.r0 hc; exact ⟨⟨r100158.2, rfl, hp, hc⟩, (kl rfl kb)⟩
                     · replace hc := hc.drew; have hF : ∀ j, free [0, 0, 2, 6, 14, 30, 62, 127, 255, 511, 511, 1023, 4095] 0 j = true → (fun j w' => (j = 0 → ∀ j v, ((S_api_Shard.cz r168 a169 q171 a172 q174 a175 q177 a178 q180) : List Value)[j]? = some v → w'.cell? ((⟨b186, 0, none⟩ : Addr).add j) = some v) ∧ True) j (World.drew w189) := fun j hj => ⟨fun _ => Ctx.cells hc (k := 0) rfl rfl 0 (vs := (S_api_Shard.cz r168 a169 q171 a172 q174 a175 q177 a178 q180)) rfl, trivial⟩; refine RGleaf [0, 1, 2, 3, 4, 5, 10, 6, 7, 8, 9, 11, 12] (fun j w' => (j = 0 → ∀ j v, ((S_api_Shard.cz r168 a169 q171 a172 q174 a175 q177 a178 q180) : List Value)[j]? = some v → w'.cell? ((⟨b186, 0, none⟩ : Addr).add j) = some v) ∧ True) [0, 0, 2, 6, 14, 30, 62, 127, 255, 511, 511, 1023, 4095] 0 8 (by kernel_rfl) (by kernel_rfl) (hF) ?_; generalize hw : World.drew w189 = w201 at *; clear hw; refine ds (v := .agg (S_api_Shard.cz r168 a169 q171 a172 q174 a175 q177 a178 q180).toArray) rfl (fun w' hF => ldg rfl G41 Z41 rfl (hF.1 rfl)) rfl ?_; refine ds (v := pt b145 0) rfl (fun w' hF => fax 0 rfl U35 rfl Z29 rfl rfl rfl) rfl ?_; refine ds (v := pt b145 1) rfl (fun w' hF => fax 1 rfl U29 rfl Z3 rfl rfl rfl) rfl ?_; refine dx rfl (ld rfl G3 (Ctx.cell hc (k := 18) rfl rfl rfl)) rfl rfl ?_; refine ds rfl (fun w' hF => adw rfl rfl) rfl ?_; have hm203 : (((IntKind.i64.wrap (r127.1.Shape.Width + 1))).toNat : Int) = (IntKind.i64.wrap (r127.1.Shape.Width + 1)) := Int.toNat_of_nonneg hg100157.1; refine deE (Ctx.make (n := ((IntKind.i64.wrap (r127.1.Shape.Width + 1))).toNat) (E := (pInt .i8)) (x0 := 0) hc (by rw [hm203]; rfl) (by rw [hm203]; rfl) U30 (i := Tryz.t88) rfl rfl rfl rfl rfl rfl (fun _ _ => rfl) (by omega)) rfl rfl ?_; clear hc; rintro _ w205 ⟨a202, rfl, hc⟩; refine ⟨fun j hj hb => ⟨fun _ => Ctx.cells hc (k := 1) rfl rfl 0 (vs := (S_api_Shard.cz r168 a169 q171 a172 q174 a175 q177 a178 q180)) rfl, trivial⟩, ?_⟩; refine deE (Ctx.allocOp (cs := [.int .i64 0, .int .i64 0]) hc V89 rfl) rfl rfl ?_; clear hc; rintro _ w208 ⟨b206, rfl, hc⟩; refine ⟨fun j hj hb => ⟨fun _ => Ctx.cells hc (k := 2) rfl rfl 0 (vs := (S_api_Shard.cz r168 a169 q171 a172 q174 a175 q177 a178 q180)) rfl, trivial⟩, ?_⟩; replace hc := hc.dz 3; replace hc := hc.dz 5; replace hc := hc.dz 7; replace hc := hc.dz 9; replace hc := Ctx.p4 (Ctx.p3 (Ctx.p2 (Ctx.p1 (Ctx.p5 hc)))); refine dc (cl C26 rfl rfl) rfl rfl ?_; refine block_Rows_any (x0 := r168) reads_own hc hr100158 ?_; clear hc; intro w209 hc; refine ⟨fun j hj hb => ⟨fun e => (by subst e; exact absurd hj (by decide)), trivial⟩, ?_⟩; refine dM (.tuple #[.agg #[.int .i64 r100158.1.c0, .int .i64 r100158.1.c1], .bool r100158.2]) rfl rfl rfl ?_; refine ds rfl (fun w' hF => ext (v := .agg #[.int .i64 r100158.1.c0, .int .i64 r100158.1.c1]) rfl rfl) rfl ?_; refine ds rfl (fun w' hF => ext (v := .bool r100158.2) rfl rfl) rfl ?_; refine duE (Ctx.putAgg hc (k := 1) rfl rfl (vs := [.int .i64 r100158.1.c0, .int .i64 r100158.1.c1]) (cs' := [.int .i64 r100158.1.c0, .int .i64 r100158.1.c1]) rfl rfl rfl Z89 rfl rfl rfl) rfl rfl ?_; clear hc; rintro w210 hc; replace hc := Ctx.n1 hc; refine ⟨fun j hj hb => ⟨fun e => (by subst e; exact absurd hj (by decide)), trivial⟩, ?_⟩; refine dA (.bool r100158.2) rfl rfl rfl ?_; refine dn (qn ?_); replace hc := Ctx.r13 (Ctx.r14 (Ctx.r15 (Ctx.r16 (Ctx.r17 (Ctx.r18 (Ctx.r19 (Ctx.r20 (Ctx.r21 (Ctx.r22 (Ctx.r23 (Ctx.r24 hc))))))))))); replace hc := Ctx.r1 (Ctx.r2 (Ctx.r3 (Ctx.r4 (Ctx.r5 (Ctx.r6 (Ctx.r7 (Ctx.r8 (Ctx.r9 (Ctx.r10 (Ctx.r11 (Ctx.r12 hc))))))))))); replace hc := Ctx.r0 hc; exact ⟨⟨r100158.2, rfl, hp, hc⟩, (kl rfl kb)⟩
                   · replace hc := hc.drew; have hF : ∀ j, free [0, 0, 2, 6, 14, 0, 62, 127, 255, 511, 511, 1023, 4095] 0 j = true → (fun j w' => (j = 0 → ∀ j v, ((S_api_Shard.cz r168 a169 q171 a172 q174 a175 q177 a178 q180) : List Value)[j]? = some v → w'.cell? ((⟨b186, 0, none⟩ : Addr).add j) = some v) ∧ (j = 3 → w'.cell? ⟨b145, 1, none⟩ = some (.int .i64 r127.1.Shape.Width)) ∧ True) j (World.drew w189) := fun j hj => ⟨fun _ => Ctx.cells hc (k := 0) rfl rfl 0 (vs := (S_api_Shard.cz r168 a169 q171 a172 q174 a175 q177 a178 q180)) rfl, fun _ => hc.cell (k := 18) rfl rfl rfl, trivial⟩; refine RGleaf [0, 1, 2, 3, 4, 10, 5, 6, 7, 8, 9, 11, 12] (fun j w' => (j = 0 → ∀ j v, ((S_api_Shard.cz r168 a169 q171 a172 q174 a175 q177 a178 q180) : List Value)[j]? = some v → w'.cell? ((⟨b186, 0, none⟩ : Addr).add j) = some v) ∧ (j = 3 → w'.cell? ⟨b145, 1, none⟩ = some (.int .i64 r127.1.Shape.Width)) ∧ True) [0, 0, 2, 6, 14, 0, 62, 127, 255, 511, 511, 1023, 4095] 0 0 (by kernel_rfl) (by kernel_rfl) (hF) ?_; generalize hw : World.drew w189 = w211 at *; clear hw; refine ds (v := .agg (S_api_Shard.cz r168 a169 q171 a172 q174 a175 q177 a178 q180).toArray) rfl (fun w' hF => ldg rfl G41 Z41 rfl (hF.1 rfl)) rfl ?_; refine ds (v := pt b145 0) rfl (fun w' hF => fax 0 rfl U35 rfl Z29 rfl rfl rfl) rfl ?_; refine ds (v := pt b145 1) rfl (fun w' hF => fax 1 rfl U29 rfl Z3 rfl rfl rfl) rfl ?_; refine ds rfl (fun w' hF => ld rfl G3 ((hF.2.1 rfl))) rfl ?_; refine ds rfl (fun w' hF => adw rfl rfl) rfl ?_; refine deE (Ctx.allocOp (cs := [.int .i64 0, .int .i64 0]) hc V89 rfl) rfl rfl ?_; clear hc; rintro _ w214 ⟨b212, rfl, hc⟩; refine ⟨fun j hj hb => ⟨fun _ => Ctx.cells hc (k := 1) rfl rfl 0 (vs := (S_api_Shard.cz r168 a169 q171 a172 q174 a175 q177 a178 q180)) rfl, fun _ => hc.cell (k := 19) rfl rfl rfl, trivial⟩, ?_⟩; have hm216 : (((IntKind.i64.wrap (r127.1.Shape.Width + 1))).toNat : Int) = (IntKind.i64.wrap (r127.1.Shape.Width + 1)) := Int.toNat_of_nonneg hg100157.1; refine deE (Ctx.make (n := ((IntKind.i64.wrap (r127.1.Shape.Width + 1))).toNat) (E := (pInt .i8)) (x0 := 0) hc (by rw [hm216]; rfl) (by rw [hm216]; rfl) U30 (i := Tryz.t88) rfl rfl rfl rfl rfl rfl (fun _ _ => rfl) (by omega)) rfl rfl ?_; clear hc; rintro _ w218 ⟨a215, rfl, hc⟩; refine ⟨fun j hj hb => ⟨fun _ => Ctx.cells hc (k := 2) rfl rfl 0 (vs := (S_api_Shard.cz r168 a169 q171 a172 q174 a175 q177 a178 q180)) rfl, fun e => (by subst e; exact absurd hj (by decide)), trivial⟩, ?_⟩; replace hc := hc.dz 3; replace hc := hc.dz 5; replace hc := hc.dz 7; replace hc := hc.dz 9; replace hc := Ctx.p4 (Ctx.p3 (Ctx.p2 (Ctx.p1 (Ctx.p4 hc)))); refine dc (cl C26 rfl rfl) rfl rfl ?_; refine block_Rows_any (x0 := r168) reads_own hc hr100158 ?_; clear hc; intro w219 hc; refine ⟨fun j hj hb => ⟨fun e => (by subst e; exact absurd hj (by decide)), fun e => (by subst e; exact absurd hj (by decide)), trivial⟩, ?_⟩; refine dM (.tuple #[.agg #[.int .i64 r100158.1.c0, .int .i64 r100158.1.c1], .bool r100158.2]) rfl rfl rfl ?_; refine ds rfl (fun w' hF => ext (v := .agg #[.int .i64 r100158.1.c0, .int .i64 r100158.1.c1]) rfl rfl) rfl ?_; refine ds rfl (fun w' hF => ext (v := .bool r100158.2) rfl rfl) rfl ?_; refine duE (Ctx.putAgg hc (k := 1) rfl rfl (vs := [.int .i64 r100158.1.c0, .int .i64 r100158.1.c1]) (cs' := [.int .i64 r100158.1.c0, .int .i64 r100158.1.c1]) rfl rfl rfl Z89 rfl rfl rfl) rfl rfl ?_; clear hc; rintro w220 hc; replace hc := Ctx.n1 hc; refine ⟨fun j hj hb => ⟨fun e => (by subst e; exact absurd hj (by decide)), fun e => (by subst e; exact absurd hj (by decide)), trivial⟩, ?_⟩; refine dA (.bool r100158.2) rfl rfl rfl ?_; refine dn (qn ?_); replace hc := Ctx.r13 (Ctx.r14 (Ctx.r15 (Ctx.r16 (Ctx.r17 (Ctx.r18 (Ctx.r19 (Ctx.r20 (Ctx.r21 (Ctx.r22 (Ctx.r23 (Ctx.r24 hc))))))))))); replace hc := Ctx.r1 (Ctx.r2 (Ctx.r3 (Ctx.r4 (Ctx.r5 (Ctx.r6 (Ctx.r7 (Ctx.r8 (Ctx.r9 (Ctx.r10 (Ctx.r11 (Ctx.r12 hc))))))))))); replace hc := Ctx.r0 hc; exact ⟨⟨r100158.2, rfl, hp, hc⟩, (kl rfl kb)⟩
                 · clear hp hc; intro vs u w221 hJ; obtain ⟨j190, rfl, hp, hc⟩ := hJ; unfold law13_BlockJoins.J6 at hp; refine Wseq (Wreg ?_); refine mz (.int .i64 r156.2) <| sz (eqd rfl rfl) ?_; refine mz (.bool (decide (r156.2 = 30))) ?_; cases hb222 : (decide (r156.2 = 30))
                   · replace hp := gneg hp (of_decide_eq_false hb222); (iterate 2 refine r0 rfl ?_); refine sz (v := .bool false) (pkf (v := .bool false) rfl rfl) ?_; refine mz (.bool false) ?_; (iterate 2 refine r0 rfl ?_); refine sz (v := .bool false) (pkf (v := .bool false) rfl rfl) ?_; refine az (.bool false) <| rn (qn (Wret ?_)); obtain rfl := sj hp; refine f1 (v := .bool false) R6 M6 rfl ?_; exact ⟨_, rfl, k _ hc⟩
                   · replace hp := gpos hp (of_decide_eq_true hb222); refine mz (.bool r162.2) ?_; cases hb223 : r162.2
                     · replace hp := gneg hp (by rw [hb223]; exact Bool.false_ne_true); refine sz (ntf rfl) ?_; refine sz (v := .bool true) (pkt (v := .bool true) rfl rfl) ?_; refine mz (.bool true) <| mz (.bool j190) ?_; cases hb224 : j190
                       · replace hp := gneg hp (by rw [hb224]; exact Bool.false_ne_true); subst hb224; refine sz (ntf rfl) ?_; refine sz (v := .bool true) (pkt (v := .bool true) rfl rfl) ?_; refine az (.bool true) <| rn (qn (Wret ?_)); obtain rfl := sj hp; refine f1 (v := .bool true) R6 M6 rfl ?_; exact ⟨_, rfl, k _ hc⟩
                       · replace hp := gpos hp hb224; subst hb224; refine sz (ntt rfl) ?_; refine sz (v := .bool false) (pkt (v := .bool false) rfl rfl) ?_; refine az (.bool false) <| rn (qn (Wret ?_)); obtain rfl := sj hp; refine f1 (v := .bool false) R6 M6 rfl ?_; exact ⟨_, rfl, k _ hc⟩
                     · replace hp := gpos hp hb223; refine sz (ntt rfl) ?_; refine sz (v := .bool false) (pkt (v := .bool false) rfl rfl) ?_; refine mz (.bool false) ?_; (iterate 2 refine r0 rfl ?_); refine sz (v := .bool false) (pkf (v := .bool false) rfl rfl) ?_; refine az (.bool false) <| rn (qn (Wret ?_)); obtain rfl := sj hp; refine f1 (v := .bool false) R6 M6 rfl ?_; exact ⟨_, rfl, k _ hc⟩
               · replace hp := gpos hp (of_decide_eq_true hb155); refine Wct rfl (Wskip (qn ?_)); refine Wseqm (6 :: 18 :: 19 :: 20 :: 21 :: 144 :: 145 :: 146 :: 147 :: 148 :: 149 :: 150 :: 151 :: 152 :: 153 :: 154 :: 155 :: 156 :: 157 :: 158 :: 159 :: 160 :: 161 :: 162 :: 163 :: 164 :: 165 :: 166 :: 167 :: 168 :: 169 :: 170 :: 171 :: 172 :: 173 :: 174 :: 175 :: 176 :: 177 :: 178 :: 179 :: 180 :: 181 :: 182 :: 183 :: 184 :: 185 :: 186 :: 187 :: 188 :: 189 :: 190 :: 191 :: 192 :: 193 :: 194 :: 195 :: 196 :: 197 :: 198 :: 199 :: 200 :: 201 :: 202 :: 203 :: 204 :: 205 :: 206 :: 207 :: 208 :: 209 :: 210 :: 211 :: 212 :: 213 :: 214 :: 215 :: 216 :: 217 :: 218 :: 219 :: 220 :: 221 :: []) [] (fun vs w' => vs = [] ∧ law13_BlockJoins.J7 j153 (law13_BlockJoins.L5 N x2 r127 m5) = some r ∧ Ctx w' (B b148 [.int .i64 r127.2.Stages, .int .i64 r127.2.Parts] 37 :: B b145 (S_api_Weights.cz r127.1 a128 q130 a131 q133 a134 q136 a137 q139) 35 :: hR .i8 a128 q130 r127.1.Embed.V :: hS S_api_Block.pr a131 q133 r127.1.Blocks :: hR .i8 a134 q136 r127.1.Last :: hR .i8 a137 q139 r127.1.Head.V :: P1 :: Fr)) ?_ ?_
                 · refine Wblk ?_; refine Wseqm [18, 144, 145, 146, 147, 148, 149, 150, 151, 152, 153, 154] [18] (fun vs w' => ∃ j226 : Int, ∃ j227 : Int, ∃ j228 : Int, ∃ j229 : Int, ∃ j230 : Int, ∃ j231 : Int, ∃ j232 : Int, ∃ j233 : Int, ∃ j234 : Int, ∃ j235 : Int, ∃ j236 : Int, ∃ j237 : Int, ∃ j238 : (List Int), ∃ j242 : (List S_api_Block), ∃ j246 : (List Int), ∃ j250 : Int, ∃ j251 : Int, ∃ j252 : (List Int), ∃ b225 : Nat, ∃ a239 : Option Addr, ∃ n240 : Nat, ∃ q241 : Nat, ∃ a243 : Option Addr, ∃ n244 : Nat, ∃ q245 : Nat, ∃ a247 : Option Addr, ∃ n248 : Nat, ∃ q249 : Nat, ∃ a253 : Option Addr, ∃ n254 : Nat, ∃ q255 : Nat, vs = [pt b225 0] ∧ law13_BlockJoins.J8 N x2 r127 j153 (law13_BlockJoins.L5 N x2 r127 m5) j226 j227 j228 j229 j230 j231 j232 j233 j234 j235 j236 j237 j238 j242 j246 j250 j251 j252 = some r ∧ Ctx w' (B b148 [.int .i64 r127.2.Stages, .int .i64 r127.2.Parts] 37 :: B b145 (S_api_Weights.cz r127.1 a128 q130 a131 q133 a134 q136 a137 q139) 35 :: hR .i8 a128 q130 r127.1.Embed.V :: hS S_api_Block.pr a131 q133 r127.1.Blocks :: hR .i8 a134 q136 r127.1.Last :: hR .i8 a137 q139 r127.1.Head.V :: P1 :: Hold (pRo (pInt .i8)) [.slice a239 n240 q241] j238 :: Hold (pRo S_api_Block.pr) [.slice a243 n244 q245] j242 :: Hold (pRo (pInt .i8)) [.slice a247 n248 q249] j246 :: Hold (pRo (pInt .i8)) [.slice a253 n254 q255] j252 :: B b225 [.int .i64 j226, .int .i64 j227, .int .i64 j228, .int .i64 j229, .int .i64 j230, .int .i64 j231, .int .i64 j232, .int .i64 j233, .int .i64 j234, .int .i64 j235, .int .i64 j236, .int .i64 j237, .slice a239 n240 q241, .slice a243 n244 q245, .slice a247 n248 q249, .int .i64 j250, .int .i64 j251, .slice a253 n254 q255] 41 :: Fr)) ?_ ?_
                   · replace hp := chk_some hp; obtain ⟨hg100165, hp⟩ := hp; replace hp := bind_some hp; obtain ⟨r100166, hr100166, hp⟩ := hp; refine Wrg rfl ?_; refine RGsplit 10 11 rfl ?_ ?_
                     · replace hc := hc.drew; refine RGleaf [0, 1, 2, 3, 4, 5, 6, 7, 8, 9, 10, 11, 12] (fun j w' => True) [0, 0, 0, 0, 8, 28, 0, 0, 128, 448, 1023, 2047, 4095] 0 275 (by kernel_rfl) (by kernel_rfl) (fun _ _ => trivial) ?_; generalize hw : World.drew w154 = w256 at *; clear hw; refine dx (v := .agg (S_api_Weights.cz r127.1 a128 q130 a131 q133 a134 q136 a137 q139).toArray) rfl (ldg rfl G35 Z35 rfl (Ctx.cells hc (k := 1) rfl rfl 0 (vs := (S_api_Weights.cz r127.1 a128 q130 a131 q133 a134 q136 a137 q139)) rfl)) rfl rfl ?_; refine dx (v := .agg #[.int .i64 r127.2.Stages, .int .i64 r127.2.Parts]) rfl (ldg rfl G37 Z37 rfl (Ctx.cells hc (k := 0) rfl rfl 0 (vs := [.int .i64 r127.2.Stages, .int .i64 r127.2.Parts]) rfl)) rfl rfl ?_; refine dM (.int .i64 j153) rfl rfl rfl ?_; refine ds (v := pt b148 1) rfl (fun w' hF => fax 1 rfl U37 rfl Z3 rfl rfl rfl) rfl ?_; refine dx rfl (ld rfl G3 (Ctx.cell hc (k := 0) rfl rfl rfl)) rfl rfl ?_; refine ds rfl (fun w' hF => quw rfl rfl hg100165) rfl ?_; refine dM (.int .i64 j153) rfl rfl rfl ?_; refine ds (v := pt b148 1) rfl (fun w' hF => fax 1 rfl U37 rfl Z3 rfl rfl rfl) rfl ?_; refine dx rfl (ld rfl G3 (Ctx.cell hc (k := 0) rfl rfl rfl)) rfl rfl ?_; refine ds rfl (fun w' hF => rm rfl rfl hg100165) rfl ?_; replace hc := hc.dz 2; replace hc := hc.dz 4; replace hc := hc.dz 6; replace hc := hc.dz 8; replace hc := Ctx.p3 (Ctx.p2 (Ctx.p1 hc)); refine dc (cl C9 rfl rfl) rfl rfl ?_; refine ref11_Take_any (x0 := r127.1) (x1 := r127.2) hc hr100166 ?_; clear hc; intro a257 n258 q259 a260 n261 q262 a263 n264 q265 a266 n267 q268 w269 hc; obtain rfl := hc.rz 0 reads_ro; obtain rfl := hc.rz 1 reads_ro; obtain rfl := hc.rz 2 reads_ro; obtain rfl := hc.rz 3 reads_ro; refine ⟨fun j hj hb => trivial, ?_⟩; refine deE (Ctx.allocOp (cs := [.int .i64 0, .int .i64 0, .int .i64 0, .int .i64 0, .int .i64 0, .int .i64 0, .int .i64 0, .int .i64 0, .int .i64 0, .int .i64 0, .int .i64 0, .int .i64 0, .slice none 0 0, .slice none 0 0, .slice none 0 0, .int .i64 0, .int .i64 0, .slice none 0 0]) hc V41 rfl) rfl rfl ?_; clear hc; rintro _ w276 ⟨b274, rfl, hc⟩; refine ⟨fun j hj hb => trivial, ?_⟩; refine duE (Ctx.putAgg hc (k := 0) rfl rfl (vs := (S_api_Shard.cz r100166 a257 q259 a260 q262 a263 q265 a266 q268)) (cs' := (S_api_Shard.cz r100166 a257 q259 a260 q262 a263 q265 a266 q268)) rfl rfl rfl Z41 rfl rfl rfl) rfl rfl ?_; clear hc; rintro w277 hc; replace hc := Ctx.n0 hc; refine ⟨fun j hj hb => trivial, ?_⟩; refine dn (qn ?_); replace hc := hc.dz 1; replace hc := hc.dz 3; replace hc := hc.dz 5; replace hc := hc.dz 7; replace hc := Ctx.p11 (Ctx.p11 (Ctx.p11 (Ctx.p4 (Ctx.p3 (Ctx.p2 (Ctx.p1 (Ctx.p4 (Ctx.r5 (Ctx.r6 (Ctx.r7 (Ctx.r8 hc))))))))))); replace hc := Ctx.p11 (Ctx.p11 (Ctx.p11 (Ctx.p11 hc))); exact ⟨⟨r100166.Shape.Layers, r100166.Shape.Width, r100166.Shape.Heads, r100166.Shape.Inner, r100166.Shape.Vocab, r100166.Shape.Places, r100166.Cut.Stages, r100166.Cut.Parts, r100166.Stage, r100166.Part, r100166.Embed.Rows, r100166.Embed.Cols, r100166.Embed.V, r100166.Blocks, r100166.Last, r100166.Head.Rows, r100166.Head.Cols, r100166.Head.V, b274, a257, r100166.Embed.V.length, q259, a260, r100166.Blocks.length, q262, a263, r100166.Last.length, q265, a266, r100166.Head.V.length, q268, rfl, hp, hc⟩, (kl rfl kb)⟩
                     · replace hc := hc.drew; have hF : ∀ j, free [0, 0, 0, 0, 8, 28, 0, 0, 128, 448, 0, 2047, 4095] 0 j = true → (fun j w' => (j = 0 → ∀ j v, ((S_api_Weights.cz r127.1 a128 q130 a131 q133 a134 q136 a137 q139) : List Value)[j]? = some v → w'.cell? ((⟨b145, 0, none⟩ : Addr).add j) = some v) ∧ (j = 1 → ∀ j v, ([.int .i64 r127.2.Stages, .int .i64 r127.2.Parts] : List Value)[j]? = some v → w'.cell? ((⟨b148, 0, none⟩ : Addr).add j) = some v) ∧ (j = 4 → w'.cell? ⟨b148, 1, none⟩ = some (.int .i64 r127.2.Parts)) ∧ (j = 8 → w'.cell? ⟨b148, 1, none⟩ = some (.int .i64 r127.2.Parts)) ∧ True) j (World.drew w154) := fun j hj => ⟨fun _ => Ctx.cells hc (k := 1) rfl rfl 0 (vs := (S_api_Weights.cz r127.1 a128 q130 a131 q133 a134 q136 a137 q139)) rfl, fun _ => Ctx.cells hc (k := 0) rfl rfl 0 (vs := [.int .i64 r127.2.Stages, .int .i64 r127.2.Parts]) rfl, fun _ => hc.cell (k := 0) rfl rfl rfl, fun _ => hc.cell (k := 0) rfl rfl rfl, trivial⟩; refine RGleaf [0, 1, 2, 3, 4, 5, 6, 7, 8, 9, 11, 10, 12] (fun j w' => (j = 0 → ∀ j v, ((S_api_Weights.cz r127.1 a128 q130 a131 q133 a134 q136 a137 q139) : List Value)[j]? = some v → w'.cell? ((⟨b145, 0, none⟩ : Addr).add j) = some v) ∧ (j = 1 → ∀ j v, ([.int .i64 r127.2.Stages, .int .i64 r127.2.Parts] : List Value)[j]? = some v → w'.cell? ((⟨b148, 0, none⟩ : Addr).add j) = some v) ∧ (j = 4 → w'.cell? ⟨b148, 1, none⟩ = some (.int .i64 r127.2.Parts)) ∧ (j = 8 → w'.cell? ⟨b148, 1, none⟩ = some (.int .i64 r127.2.Parts)) ∧ True) [0, 0, 0, 0, 8, 28, 0, 0, 128, 448, 0, 2047, 4095] 0 0 (by kernel_rfl) (by kernel_rfl) (hF) ?_; generalize hw : World.drew w154 = w278 at *; clear hw; refine ds (v := .agg (S_api_Weights.cz r127.1 a128 q130 a131 q133 a134 q136 a137 q139).toArray) rfl (fun w' hF => ldg rfl G35 Z35 rfl (hF.1 rfl)) rfl ?_; refine ds (v := .agg #[.int .i64 r127.2.Stages, .int .i64 r127.2.Parts]) rfl (fun w' hF => ldg rfl G37 Z37 rfl (hF.2.1 rfl)) rfl ?_; refine dM (.int .i64 j153) rfl rfl rfl ?_; refine ds (v := pt b148 1) rfl (fun w' hF => fax 1 rfl U37 rfl Z3 rfl rfl rfl) rfl ?_; refine ds rfl (fun w' hF => ld rfl G3 ((hF.2.2.1 rfl))) rfl ?_; refine ds rfl (fun w' hF => quw rfl rfl hg100165) rfl ?_; refine dM (.int .i64 j153) rfl rfl rfl ?_; refine ds (v := pt b148 1) rfl (fun w' hF => fax 1 rfl U37 rfl Z3 rfl rfl rfl) rfl ?_; refine ds rfl (fun w' hF => ld rfl G3 ((hF.2.2.2.1 rfl))) rfl ?_; refine ds rfl (fun w' hF => rm rfl rfl hg100165) rfl ?_; refine deE (Ctx.allocOp (cs := [.int .i64 0, .int .i64 0, .int .i64 0, .int .i64 0, .int .i64 0, .int .i64 0, .int .i64 0, .int .i64 0, .int .i64 0, .int .i64 0, .int .i64 0, .int .i64 0, .slice none 0 0, .slice none 0 0, .slice none 0 0, .int .i64 0, .int .i64 0, .slice none 0 0]) hc V41 rfl) rfl rfl ?_; clear hc; rintro _ w281 ⟨b279, rfl, hc⟩; refine ⟨fun j hj hb => ⟨fun _ => Ctx.cells hc (k := 2) rfl rfl 0 (vs := (S_api_Weights.cz r127.1 a128 q130 a131 q133 a134 q136 a137 q139)) rfl, fun _ => Ctx.cells hc (k := 1) rfl rfl 0 (vs := [.int .i64 r127.2.Stages, .int .i64 r127.2.Parts]) rfl, fun _ => hc.cell (k := 1) rfl rfl rfl, fun _ => hc.cell (k := 1) rfl rfl rfl, trivial⟩, ?_⟩; replace hc := hc.dz 3; replace hc := hc.dz 5; replace hc := hc.dz 7; replace hc := hc.dz 9; replace hc := Ctx.p3 (Ctx.p2 (Ctx.p1 hc)); refine dc (cl C9 rfl rfl) rfl rfl ?_; refine ref11_Take_any (x0 := r127.1) (x1 := r127.2) hc hr100166 ?_; clear hc; intro a282 n283 q284 a285 n286 q287 a288 n289 q290 a291 n292 q293 w294 hc; obtain rfl := hc.rz 0 reads_ro; obtain rfl := hc.rz 1 reads_ro; obtain rfl := hc.rz 2 reads_ro; obtain rfl := hc.rz 3 reads_ro; refine ⟨fun j hj hb => ⟨fun e => (by subst e; exact absurd hj (by decide)), fun e => (by subst e; exact absurd hj (by decide)), fun e => (by subst e; exact absurd hj (by decide)), fun e => (by subst e; exact absurd hj (by decide)), trivial⟩, ?_⟩; refine duE (Ctx.putAgg hc (k := 4) rfl rfl (vs := (S_api_Shard.cz r100166 a282 q284 a285 q287 a288 q290 a291 q293)) (cs' := (S_api_Shard.cz r100166 a282 q284 a285 q287 a288 q290 a291 q293)) rfl rfl rfl Z41 rfl rfl rfl) rfl rfl ?_; clear hc; rintro w299 hc; replace hc := Ctx.n4 hc; refine ⟨fun j hj hb => ⟨fun e => (by subst e; exact absurd hj (by decide)), fun e => (by subst e; exact absurd hj (by decide)), fun e => (by subst e; exact absurd hj (by decide)), fun e => (by subst e; exact absurd hj (by decide)), trivial⟩, ?_⟩; refine dn (qn ?_); replace hc := hc.dz 0; replace hc := hc.dz 2; replace hc := hc.dz 4; replace hc := hc.dz 6; replace hc := Ctx.p11 (Ctx.p11 (Ctx.p11 (Ctx.p4 (Ctx.p3 (Ctx.p2 (Ctx.p1 (Ctx.p4 (Ctx.r4 (Ctx.r5 (Ctx.r6 (Ctx.r7 hc))))))))))); replace hc := Ctx.p11 (Ctx.p11 (Ctx.p11 (Ctx.p11 hc))); exact ⟨⟨r100166.Shape.Layers, r100166.Shape.Width, r100166.Shape.Heads, r100166.Shape.Inner, r100166.Shape.Vocab, r100166.Shape.Places, r100166.Cut.Stages, r100166.Cut.Parts, r100166.Stage, r100166.Part, r100166.Embed.Rows, r100166.Embed.Cols, r100166.Embed.V, r100166.Blocks, r100166.Last, r100166.Head.Rows, r100166.Head.Cols, r100166.Head.V, b279, a282, r100166.Embed.V.length, q284, a285, r100166.Blocks.length, q287, a288, r100166.Last.length, q290, a291, r100166.Head.V.length, q293, rfl, hp, hc⟩, (kl rfl kb)⟩
                   · clear hp hc; intro vs u w300 hJ; obtain ⟨j226, j227, j228, j229, j230, j231, j232, j233, j234, j235, j236, j237, j238, j242, j246, j250, j251, j252, b225, a239, n240, q241, a243, n244, q245, a247, n248, q249, a253, n254, q255, rfl, hp, hc⟩ := hJ; obtain rfl := hc.rz 7 reads_ro; obtain rfl := hc.rz 8 reads_ro; obtain rfl := hc.rz 9 reads_ro; obtain rfl := hc.rz 10 reads_ro; unfold law13_BlockJoins.J8 at hp; refine Wseq (Wreg ?_); refine sz (v := .agg #[.int .i64 j226, .int .i64 j227, .int .i64 j228, .int .i64 j229, .int .i64 j230, .int .i64 j231, .int .i64 j232, .int .i64 j233, .int .i64 j234, .int .i64 j235, .int .i64 j236, .int .i64 j237, .slice a239 j238.length q241, .slice a243 j242.length q245, .slice a247 j246.length q249, .int .i64 j250, .int .i64 j251, .slice a253 j252.length q255]) (ldg rfl G41 Z41 rfl (Ctx.cells hc (k := 11) rfl rfl 0 (vs := [.int .i64 j226, .int .i64 j227, .int .i64 j228, .int .i64 j229, .int .i64 j230, .int .i64 j231, .int .i64 j232, .int .i64 j233, .int .i64 j234, .int .i64 j235, .int .i64 j236, .int .i64 j237, .slice a239 j238.length q241, .slice a243 j242.length q245, .slice a247 j246.length q249, .int .i64 j250, .int .i64 j251, .slice a253 j252.length q255]) rfl)) ?_; refine mz (.int .i64 x2) ?_; replace hc := hc.dz 7; replace hc := hc.dz 9; replace hc := hc.dz 11; replace hc := hc.dz 13; replace hp := bind_some hp; obtain ⟨r305, hr305, hp⟩ := hp; replace hc := Ctx.p3 (Ctx.p2 (Ctx.p1 hc)); refine kz C25 ?_; refine block_Enter_any (x0 := (⟨(⟨j226, j227, j228, j229, j230, j231⟩ : S_api_Shape), (⟨j232, j233⟩ : S_api_Cut), j234, j235, (⟨j236, j237, j238⟩ : S_api_Mat), j242, j246, (⟨j250, j251, j252⟩ : S_api_Mat)⟩ : S_api_Shard)) hc hr305 ?_; clear hc; intro a306 n307 q308 w309 hc; obtain rfl := hc.rz 0 reads_own; refine mz (.tuple #[.slice a306 r305.1.length q308, .int .i64 r305.2]) <| sz (ext (v := .slice a306 r305.1.length q308) rfl rfl) ?_; refine sz (ext (v := .int .i64 r305.2) rfl rfl) ?_; refine az (.slice a306 r305.1.length q308) <| az (.int .i64 r305.2) <| rn (qn (Wseq (Wseq (Wreg ?_)))); refine fl 8 U41 Z3 G3 (Ctx.cell hc (k := 12) rfl rfl rfl) rfl rfl rfl rfl rfl rfl rfl rfl ?_; refine sz (ned rfl rfl) ?_; refine rn (qn ?_); cases hb311 : (decide (j234 ≠ 0))
                     · replace hp := gneg hp (of_decide_eq_false hb311); refine Wcf rfl (Wskip (qn (Wseq ?_))); refine Wseqm [171, 172, 173, 174, 175, 176, 177, 178, 179] [179] (fun vs w' => ∃ j312 : Bool, vs = [.bool j312] ∧ law13_BlockJoins.J9 N x2 r127 j153 r305 (law13_BlockJoins.L5 N x2 r127 m5) j312 = some r ∧ Ctx w' (oR .i32 21 a306 q308 r305.1 :: B b148 [.int .i64 r127.2.Stages, .int .i64 r127.2.Parts] 37 :: B b145 (S_api_Weights.cz r127.1 a128 q130 a131 q133 a134 q136 a137 q139) 35 :: hR .i8 a128 q130 r127.1.Embed.V :: hS S_api_Block.pr a131 q133 r127.1.Blocks :: hR .i8 a134 q136 r127.1.Last :: hR .i8 a137 q139 r127.1.Head.V :: P1 :: Fr)) ?_ ?_
                       · refine Wreg ?_; refine mz (.int .i64 x2) <| sz (lt' rfl rfl) ?_; refine mz (.bool (decide (x2 < 0))) ?_; cases hb313 : (decide (x2 < 0))
                         · replace hp := gneg hp (of_decide_eq_false hb313); refine mz (.int .i64 x2) <| sz (v := pt b145 0) (fax 0 rfl U35 rfl Z29 rfl rfl rfl) ?_; refine fl 4 U29 Z3 G3 (Ctx.cell hc (k := 2) rfl rfl rfl) rfl rfl rfl rfl rfl rfl rfl rfl ?_; refine sz (ge' rfl rfl) ?_; refine sz (v := .bool (decide (x2 ≥ r127.1.Shape.Vocab))) (pkf (v := .bool (decide (x2 ≥ r127.1.Shape.Vocab))) rfl rfl) ?_; refine rn (qn ?_); replace hc := Ctx.r8 (Ctx.r9 (Ctx.r10 (Ctx.r11 (Ctx.r12 hc)))); exact ⟨⟨decide (x2 ≥ r127.1.Shape.Vocab), rfl, hp, hc⟩, (kl rfl kb)⟩
                         · replace hp := gpos hp (of_decide_eq_true hb313); (iterate 5 refine r0 rfl ?_); refine sz (v := .bool true) (pkt (v := .bool true) rfl rfl) ?_; refine rn (qn ?_); replace hc := Ctx.r8 (Ctx.r9 (Ctx.r10 (Ctx.r11 (Ctx.r12 hc)))); exact ⟨⟨true, rfl, hp, hc⟩, (kl rfl kb)⟩
                       · clear hp hc; intro vs u w314 hJ; obtain ⟨j312, rfl, hp, hc⟩ := hJ; unfold law13_BlockJoins.J9 at hp; cases hb315 : j312
                         · replace hp := gneg hp (by rw [hb315]; exact Bool.false_ne_true); subst hb315; refine Wcf rfl (Wskip (qn (Wseq (Wseq (Wreg ?_))))); refine mz (.int .i64 r305.2) <| sz (ned rfl rfl) ?_; refine mz (.bool (decide (r305.2 ≠ 0))) ?_; cases hb316 : (decide (r305.2 ≠ 0))
                           · replace hp := gneg hp (of_decide_eq_false hb316); refine mz (.slice a306 r305.1.length q308) <| sz (ln rfl U51) ?_; refine sz (v := pt b145 0) (fax 0 rfl U35 rfl Z29 rfl rfl rfl) ?_; refine fl 1 U29 Z3 G3 (Ctx.cell hc (k := 2) rfl rfl rfl) rfl rfl rfl rfl rfl rfl rfl rfl ?_; refine sz (ned rfl rfl) ?_; refine sz (v := .bool (decide (((r305.1.length : Nat) : Int) ≠ r127.1.Shape.Width))) (pkf (v := .bool (decide (((r305.1.length : Nat) : Int) ≠ r127.1.Shape.Width))) rfl rfl) ?_; refine rn (qn ?_); cases hb317 : (decide (((r305.1.length : Nat) : Int) ≠ r127.1.Shape.Width))
                             · replace hp := gneg hp (of_decide_eq_false hb317); refine Wcf rfl (Wskip (qn (Wseq (Wreg ?_)))); refine az (.int .i64 0) <| rn (qn (Wblk ?_)); refine Wloop [6, 21, 197, 198, 199, 200, 201, 202, 203, 204, 205, 206, 207, 208, 209, 210, 211, 212, 213, 214, 215, 216, 217, 218, 219, 220, 221] [21] (fun m vs w' => ∃ j318 : Int, vs = [.int .i64 j318] ∧ law13_BlockJoins.L10 x2 r127 j153 r305 (law13_BlockJoins.L5 N x2 r127 m5) m j318 = some r ∧ Ctx w' (oR .i32 21 a306 q308 r305.1 :: B b148 [.int .i64 r127.2.Stages, .int .i64 r127.2.Parts] 37 :: B b145 (S_api_Weights.cz r127.1 a128 q130 a131 q133 a134 q136 a137 q139) 35 :: hR .i8 a128 q130 r127.1.Embed.V :: hS S_api_Block.pr a131 q133 r127.1.Blocks :: hR .i8 a134 q136 r127.1.Last :: hR .i8 a137 q139 r127.1.Head.V :: P1 :: Fr)) N ?_ ?_
                               · exact ⟨0, rfl, hp, hc⟩
                               · clear hp hc; intro m vs u w319 hJ; obtain ⟨j318, rfl, hp, hc⟩ := hJ; rcases m with _ | m10
                                 · cases (show none = some r from hp)
                                 rw [law13_BlockJoins.L10] at hp; refine Wseq (Wseq (Wreg ?_)); refine mz (.int .i64 j318) <| mz (.slice a306 r305.1.length q308) <| sz (ln rfl U51) <| sz (lt' rfl rfl) <| rn (qn ?_); cases hb320 : (decide (j318 < ((r305.1.length : Nat) : Int)))
                                 · replace hp := gneg hp (of_decide_eq_false hb320); refine Wcf rfl (Wexit (qx (qx (be (bn (qn ?_)))))); replace hc := Ctx.r0 hc; exact ⟨⟨rfl, hp, hc⟩, (kl rfl (km rfl (kl rfl (km rfl (kl rfl (km rfl (kl rfl kb)))))))⟩
                                 · replace hp := gpos hp (of_decide_eq_true hb320); refine Wct rfl (Wskip (qn (Wseq (Wblk (Wseq ?_))))); replace hc := hc.drew; refine Wdrw (fun _ w' => w' = World.drew w319) [0, 0, 3, 7, 0, 16, 48, 0, 0, 256, 768, 1920, 0, 8064, 16368, 32752, 65520, 131056, 262143] 0 0 rfl (by kernel_rfl) (fun _ _ => rfl) ?_; generalize hw : World.drew w319 = w321 at *; clear hw; refine dM (.slice a306 r305.1.length q308) rfl rfl rfl ?_; refine dM (.int .i64 j318) rfl rfl rfl ?_; replace hp := bind_some hp; obtain ⟨y322, hy322, hp⟩ := hp; obtain ⟨b325, o326, u327, hi323, hi324⟩ := Ctx.rdAt hc (k := 0) rfl rfl reads_own hy322; subst u327; refine dE (ixx rfl rfl U51 Z21 hi323 hi324 rfl) rfl rfl ?_; replace hc := Ctx.rdCell hc (k := 0) rfl rfl reads_own hy322; obtain ⟨cs328, hc, hcell329⟩ := hc; replace hc := Ctx.holdC hc; obtain ⟨u330, hc⟩ := hc; subst u330; refine dE (ld rfl G21 (hcell329 0 _ rfl)) rfl rfl ?_; refine dE (v := pt b145 6) (fax 6 rfl U35 rfl Z32 rfl rfl rfl) rfl rfl ?_; refine dE (v := pt b145 8) (fax 2 rfl U32 rfl Z30 rfl rfl rfl) rfl rfl ?_; refine dE (ld rfl G30 (Ctx.cell hc (k := 2) rfl rfl rfl)) rfl rfl ?_; refine dM (.int .i64 x2) rfl rfl rfl ?_; refine dE (v := pt b145 0) (fax 0 rfl U35 rfl Z29 rfl rfl rfl) rfl rfl ?_; refine dE (v := pt b145 1) (fax 1 rfl U29 rfl Z3 rfl rfl rfl) rfl rfl ?_; refine dE (ld rfl G3 (Ctx.cell hc (k := 2) rfl rfl rfl)) rfl rfl ?_; refine dE (mlw rfl rfl) rfl rfl ?_; refine dM (.int .i64 j318) rfl rfl rfl ?_; refine dE (adw rfl rfl) rfl rfl ?_; replace hp := bind_some hp; obtain ⟨y331, hy331, hp⟩ := hp; obtain ⟨b334, o335, u336, hi332, hi333⟩ := Ctx.rdAt hc (k := 3) rfl rfl reads_ro hy331; subst u336; refine dE (ixx rfl rfl U30 Z88 hi332 hi333 rfl) rfl rfl ?_; replace hc := Ctx.rdCell hc (k := 3) rfl rfl reads_ro hy331; obtain ⟨cs337, hc, hcell338⟩ := hc; replace hc := Ctx.holdC hc; obtain ⟨u339, hc⟩ := hc; subst u339; refine dE (ld rfl G88 (hcell338 0 _ rfl)) rfl rfl ?_; refine dE (cvi rfl U88 U21) rfl rfl ?_; refine dE (mlw rfl rfl) rfl rfl ?_; refine dE (ned rfl rfl) rfl rfl ?_; refine dn (qn ?_); cases hb340 : (decide (y322 ≠ (IntKind.i32.wrap (16 * (IntKind.i32.wrap y331)))))
                                   · replace hp := gneg hp (of_decide_eq_false hb340); refine Wcf rfl (Wskip (bn (qn (Wreg ?_)))); refine mz (.int .i64 j318) <| sz (adw rfl rfl) ?_; refine az (.int .i64 (IntKind.i64.wrap (j318 + 1))) <| rn (qn ?_); exact ⟨m10, Nat.lt_succ_self _, ⟨(IntKind.i64.wrap (j318 + 1)), rfl, hp, hc⟩, (kl rfl k0)⟩
                                   · replace hp := gpos hp (of_decide_eq_true hb340); refine Wct rfl (Wseq (Wreg ?_)); refine az (.bool false) <| rn (qn (Wret (br (qr (qr (br (br (qr (qr (br (qr ?_))))))))))); replace hc := Ctx.r0 (Ctx.r1 (Ctx.r2 (Ctx.r3 (Ctx.r4 (Ctx.r5 (Ctx.r6 hc)))))); obtain rfl := sj hp; refine f1 (v := .bool false) R6 M6 rfl ?_; exact ⟨_, rfl, k _ hc⟩
                             · replace hp := gpos hp (of_decide_eq_true hb317); refine Wct rfl (Wseq (Wreg ?_)); refine az (.bool false) <| rn (qn (Wret (qr (br (qr (qr (br (qr ?_)))))))); replace hc := Ctx.r0 (Ctx.r1 (Ctx.r2 (Ctx.r3 (Ctx.r4 (Ctx.r5 (Ctx.r6 hc)))))); obtain rfl := sj hp; refine f1 (v := .bool false) R6 M6 rfl ?_; exact ⟨_, rfl, k _ hc⟩
                           · replace hp := gpos hp (of_decide_eq_true hb316); (iterate 6 refine r0 rfl ?_); refine sz (v := .bool true) (pkt (v := .bool true) rfl rfl) ?_; refine rn (qn (Wct rfl (Wseq (Wreg ?_)))); refine az (.bool false) <| rn (qn (Wret (qr (br (qr (qr (br (qr ?_)))))))); replace hc := Ctx.r0 (Ctx.r1 (Ctx.r2 (Ctx.r3 (Ctx.r4 (Ctx.r5 (Ctx.r6 hc)))))); obtain rfl := sj hp; refine f1 (v := .bool false) R6 M6 rfl ?_; exact ⟨_, rfl, k _ hc⟩
                         · replace hp := gpos hp hb315; subst hb315; refine Wct rfl (Wseq (Wseq (Wreg ?_))); refine mz (.int .i64 r305.2) <| sz (ned rfl rfl) ?_; refine mz (.bool (decide (r305.2 ≠ 2))) ?_; cases hb341 : (decide (r305.2 ≠ 2))
                           · replace hp := gneg hp (of_decide_eq_false hb341); refine mz (.slice a306 r305.1.length q308) <| sz (ln rfl U51) ?_; refine sz (ned rfl rfl) ?_; refine sz (v := .bool (decide (((r305.1.length : Nat) : Int) ≠ 0))) (pkf (v := .bool (decide (((r305.1.length : Nat) : Int) ≠ 0))) rfl rfl) ?_; refine rn (qn ?_); cases hb342 : (decide (((r305.1.length : Nat) : Int) ≠ 0))
                             · replace hp := gneg hp (of_decide_eq_false hb342); refine Wcf rfl (Wskip (qn (Wexit (qx (be (qn ?_)))))); replace hc := Ctx.r0 hc; exact ⟨⟨rfl, hp, hc⟩, (kl rfl (km rfl (kl rfl (km rfl (kl rfl kb)))))⟩
                             · replace hp := gpos hp (of_decide_eq_true hb342); refine Wct rfl (Wseq (Wreg ?_)); refine az (.bool false) <| rn (qn (Wret (qr (qr (br (qr (qr (br (qr ?_))))))))); replace hc := Ctx.r0 (Ctx.r1 (Ctx.r2 (Ctx.r3 (Ctx.r4 (Ctx.r5 (Ctx.r6 hc)))))); obtain rfl := sj hp; refine f1 (v := .bool false) R6 M6 rfl ?_; exact ⟨_, rfl, k _ hc⟩
                           · replace hp := gpos hp (of_decide_eq_true hb341); (iterate 3 refine r0 rfl ?_); refine sz (v := .bool true) (pkt (v := .bool true) rfl rfl) ?_; refine rn (qn (Wct rfl (Wseq (Wreg ?_)))); refine az (.bool false) <| rn (qn (Wret (qr (qr (br (qr (qr (br (qr ?_))))))))); replace hc := Ctx.r0 (Ctx.r1 (Ctx.r2 (Ctx.r3 (Ctx.r4 (Ctx.r5 (Ctx.r6 hc)))))); obtain rfl := sj hp; refine f1 (v := .bool false) R6 M6 rfl ?_; exact ⟨_, rfl, k _ hc⟩
                     · replace hp := gpos hp (of_decide_eq_true hb311); refine Wct rfl (Wseq (Wseq (Wreg ?_))); refine mz (.int .i64 r305.2) <| sz (ned rfl rfl) ?_; refine mz (.bool (decide (r305.2 ≠ 121))) ?_; cases hb343 : (decide (r305.2 ≠ 121))
                       · replace hp := gneg hp (of_decide_eq_false hb343); refine mz (.slice a306 r305.1.length q308) <| sz (ln rfl U51) ?_; refine sz (ned rfl rfl) ?_; refine sz (v := .bool (decide (((r305.1.length : Nat) : Int) ≠ 0))) (pkf (v := .bool (decide (((r305.1.length : Nat) : Int) ≠ 0))) rfl rfl) ?_; refine rn (qn ?_); cases hb344 : (decide (((r305.1.length : Nat) : Int) ≠ 0))
                         · replace hp := gneg hp (of_decide_eq_false hb344); refine Wcf rfl (Wskip (qn (Wexit (qx (be (qn ?_)))))); replace hc := Ctx.r0 (Ctx.r8 (Ctx.r9 (Ctx.r10 (Ctx.r11 (Ctx.r12 hc))))); exact ⟨⟨rfl, hp, hc⟩, (kl rfl (km rfl (kl rfl kb)))⟩
                         · replace hp := gpos hp (of_decide_eq_true hb344); refine Wct rfl (Wseq (Wreg ?_)); refine az (.bool false) <| rn (qn (Wret (qr (qr (br (qr (qr (br (qr ?_))))))))); replace hc := Ctx.r0 (Ctx.r1 (Ctx.r2 (Ctx.r3 (Ctx.r4 (Ctx.r5 (Ctx.r6 (Ctx.r8 (Ctx.r9 (Ctx.r10 (Ctx.r11 (Ctx.r12 hc))))))))))); obtain rfl := sj hp; refine f1 (v := .bool false) R6 M6 rfl ?_; exact ⟨_, rfl, k _ hc⟩
                       · replace hp := gpos hp (of_decide_eq_true hb343); (iterate 3 refine r0 rfl ?_); refine sz (v := .bool true) (pkt (v := .bool true) rfl rfl) ?_; refine rn (qn (Wct rfl (Wseq (Wreg ?_)))); refine az (.bool false) <| rn (qn (Wret (qr (qr (br (qr (qr (br (qr ?_))))))))); replace hc := Ctx.r0 (Ctx.r1 (Ctx.r2 (Ctx.r3 (Ctx.r4 (Ctx.r5 (Ctx.r6 (Ctx.r8 (Ctx.r9 (Ctx.r10 (Ctx.r11 (Ctx.r12 hc))))))))))); obtain rfl := sj hp; refine f1 (v := .bool false) R6 M6 rfl ?_; exact ⟨_, rfl, k _ hc⟩
                 · clear hp hc; intro vs u w345 hJ; obtain ⟨rfl, hp, hc⟩ := hJ; unfold law13_BlockJoins.J7 at hp; refine Wreg ?_; refine mz (.int .i64 j153) <| sz (adw rfl rfl) ?_; refine az (.int .i64 (IntKind.i64.wrap (j153 + 1))) <| rn (qn ?_); exact ⟨m5, Nat.lt_succ_self _, ⟨(IntKind.i64.wrap (j153 + 1)), rfl, hp, hc⟩, (kl rfl (km rfl (kl rfl k0)))⟩
         · replace hp := gpos hp (of_decide_eq_true hb14); refine Wct rfl (Wskip (qn (Wseq (Wblk (Wseq (Wseq (Wreg ?_))))))); refine mz (.slice ax1 x1.length qx1) <| mz (.int .i64 j12) ?_; replace hp := bind_some hp; obtain ⟨y346, hy346, hp⟩ := hp; obtain ⟨b349, o350, u351, hi347, hi348⟩ := Ctx.rdAt hc (k := 1) rfl rfl hrd1 hy346; subst u351; refine sz (ixx rfl rfl U26 Z51 hi347 hi348 rfl) ?_; replace hc := Ctx.rdCell hc (k := 1) rfl rfl hrd1 hy346; obtain ⟨cs352, hc, hcell353⟩ := hc; replace hc := Ctx.holdRo hc; obtain ⟨v357, u354, hc⟩ := hc; subst u354; obtain ⟨a355, q356, u354⟩ := hc.rd (k := 0) rfl rfl reads_ro; subst u354; refine sz (ld rfl G51 (hcell353 0 _ rfl)) ?_; refine sz (ln rfl U51) ?_; refine sz (gt' rfl rfl) ?_; refine rn (qn ?_); cases hb358 : (decide (((y346.length : Nat) : Int) > 200))
           · replace hp := gneg hp (of_decide_eq_false hb358); refine Wcf rfl (Wskip (qn ?_)); replace hc := hc.drew; refine Wdrw (fun _ w' => w' = World.drew w13) [0, 1, 3, 3, 15, 31, 63, 3, 131, 387, 899, 2047, 4095, 8191] 0 0 rfl (by kernel_rfl) (fun _ _ => rfl) ?_; generalize hw : World.drew w13 = w359 at *; clear hw; refine dM (.bool j11) rfl rfl rfl ?_; refine dM (.bool j11) rfl rfl rfl ?_; cases hb360 : j11
             · replace hp := gneg hp (by rw [hb360]; exact Bool.false_ne_true); subst hb360; (iterate 10 refine d0 rfl rfl ?_); refine dE (v := .bool false) (pkf (v := .bool false) rfl rfl) rfl rfl ?_; refine dA (.bool false) rfl rfl rfl ?_; refine dn (bn (qn (Wreg ?_))); refine mz (.int .i64 j12) <| sz (adw rfl rfl) ?_; refine az (.int .i64 (IntKind.i64.wrap (j12 + 1))) <| rn (qn ?_); replace hc := Ctx.r0 hc; exact ⟨m1, Nat.lt_succ_self _, ⟨false, (IntKind.i64.wrap (j12 + 1)), rfl, hp, hc⟩, (kl rfl k0)⟩
             · replace hp := gpos hp hb360; subst hb360; refine dM (.slice (some ⟨b349, o350, none⟩) x1.length qx1) rfl rfl rfl ?_; refine dM (.int .i64 j12) rfl rfl rfl ?_; replace hp := bind_some hp; obtain ⟨y361, hy361, hp⟩ := hp; obtain ⟨b364, o365, u366, hi362, hi363⟩ := Ctx.rdAt hc (k := 2) rfl rfl hrd1 hy361; clear u366; refine dE (ixx rfl rfl U26 Z51 hi362 hi363 rfl) rfl rfl ?_; replace hc := Ctx.rdCell hc (k := 2) rfl rfl hrd1 hy361; obtain ⟨cs367, hc, hcell368⟩ := hc; replace hc := Ctx.holdRo hc; obtain ⟨v372, u369, hc⟩ := hc; subst u369; obtain ⟨a370, q371, u369⟩ := hc.rd (k := 0) rfl rfl reads_ro; subst u369; refine dE (ld rfl G51 (hcell368 0 _ rfl)) rfl rfl ?_; refine dE (ln rfl U51) rfl rfl ?_; refine dM (.slice (some ⟨b349, o350, none⟩) x1.length qx1) rfl rfl rfl ?_; replace hp := bind_some hp; obtain ⟨y373, hy373, hp⟩ := hp; obtain ⟨b376, o377, u378, hi374, hi375⟩ := Ctx.rdAt hc (k := 3) rfl rfl hrd1 hy373; clear u378; refine dE (ixx rfl rfl U26 Z51 hi374 hi375 rfl) rfl rfl ?_; replace hc := Ctx.rdCell hc (k := 3) rfl rfl hrd1 hy373; obtain ⟨cs379, hc, hcell380⟩ := hc; replace hc := Ctx.holdRo hc; obtain ⟨v384, u381, hc⟩ := hc; subst u381; obtain ⟨a382, q383, u381⟩ := hc.rd (k := 0) rfl rfl reads_ro; subst u381; refine dE (ld rfl G51 (hcell380 0 _ rfl)) rfl rfl ?_; refine dE (ln rfl U51) rfl rfl ?_; refine dE (eqd rfl rfl) rfl rfl ?_; refine dE (v := .bool (decide (((y361.length : Nat) : Int) = ((y373.length : Nat) : Int)))) (pkt (v := .bool (decide (((y361.length : Nat) : Int) = ((y373.length : Nat) : Int)))) rfl rfl) rfl rfl ?_; refine dA (.bool (decide (((y361.length : Nat) : Int) = ((y373.length : Nat) : Int)))) rfl rfl rfl ?_; refine dn (bn (qn (Wreg ?_))); refine mz (.int .i64 j12) <| sz (adw rfl rfl) ?_; refine az (.int .i64 (IntKind.i64.wrap (j12 + 1))) <| rn (qn ?_); replace hc := Ctx.r0 (Ctx.r1 (Ctx.r2 hc)); exact ⟨m1, Nat.lt_succ_self _, ⟨decide (((y361.length : Nat) : Int) = ((y373.length : Nat) : Int)), (IntKind.i64.wrap (j12 + 1)), rfl, hp, hc⟩, (kl rfl k0)⟩
           · replace hp := gpos hp (of_decide_eq_true hb358); refine Wct rfl (Wseq (Wreg ?_)); refine az (.bool true) <| rn (qn (Wret (qr (br (qr (qr (br (qr ?_)))))))); replace hc := Ctx.r0 (Ctx.r1 hc); obtain rfl := sj hp; refine f1 (v := .bool true) R6 M6 rfl ?_; exact ⟨_, rfl, k _ hc⟩
     · replace hp := gpos hp (of_decide_eq_true hb10); refine Wct rfl (Wseq (Wreg ?_)); replace hp := bind_some hp; obtain ⟨r385, hr385, hp⟩ := hp; refine kz C7 ?_; refine law13_awake_any hc hr385 ?_; clear hc; intro w386 hc; refine az (.bool r385) <| rn (qn (Wret (qr ?_))); replace hc := Ctx.r0 hc; obtain rfl := sj hp; refine f1 (v := .bool r385) R6 M6 rfl ?_; exact ⟨_, rfl, k _ hc⟩
   · replace hp := gpos hp (of_decide_eq_true hb9); (iterate 3 refine r0 rfl ?_); refine sz (v := .bool true) (pkt (v := .bool true) rfl rfl) ?_; refine rn (qn (Wct rfl (Wseq (Wreg ?_)))); replace hp := bind_some hp; obtain ⟨r387, hr387, hp⟩ := hp; refine kz C7 ?_; refine law13_awake_any hc hr387 ?_; clear hc; intro w388 hc; refine az (.bool r387) <| rn (qn (Wret (qr ?_))); replace hc := Ctx.r0 hc; obtain rfl := sj hp; refine f1 (v := .bool r387) R6 M6 rfl ?_; exact ⟨_, rfl, k _ hc⟩

end Go.Proofs.YtbfiagimgokccaaGreat
end
section
namespace Go.Hp
open Go
theorem W_in {x : Int} (h : -9223372036854775808 ≤ x ∧ x ≤ 9223372036854775807) : IntKind.i64.wrap x = x := IntWalk.i64_in x h
theorem W_succ (k : Nat) (h : k < 4611686018427387904) : IntKind.i64.wrap ((k : Int) + 1) = ((k + 1 : Nat) : Int) := by rw [W_in (by omega)]; rfl
theorem W_range (x : Int) : -9223372036854775808 ≤ IntKind.i64.wrap x ∧ IntKind.i64.wrap x ≤ 9223372036854775807 := by
  rw [IntKind.wrap_i64]; omega
theorem W_rest (x : Int) (n : Int) (hn : 0 < n) (hb : n ≤ 1099511627776) : Int.tmod (IntKind.i64.wrap (Int.tmod x n + n)) n = x % n := by
  have a := Int.tmod_lt_of_pos x hn
  have b := Int.lt_tmod_of_pos x hn
  rw [W_in (by omega), Int.tmod_eq_emod_of_nonneg (by omega)]
  have h := Int.tmod_add_mul_tdiv x n
  rw [Int.add_emod_right]
  conv => rhs; rw [← h]
  rw [Int.add_mul_emod_self_left]
theorem W_restN (x : Int) (n : Nat) (hn : 0 < n) (hb : n ≤ 1099511627776) : ∃ k : Nat, k < n ∧ Int.tmod (IntKind.i64.wrap (Int.tmod x n + n)) n = k := by
  rw [W_rest x n (by omega) (by omega)]
  have h1 := Int.emod_nonneg x (show (n : Int) ≠ 0 by omega)
  have h2 := Int.emod_lt_of_pos x (show (0 : Int) < n by omega)
  exact ⟨(x % n).toNat, by omega, by omega⟩
theorem idx_nat {α : Type} (xs : List α) (k : Nat) : idx xs (k : Int) = xs[k]? := by simp [idx]
theorem idx_get {α : Type} (xs : List α) (k : Nat) (h : k < xs.length) : idx xs (k : Int) = some xs[k] := by rw [idx_nat, List.getElem?_eq_getElem h]
theorem app_ok {α : Type} (xs ys : List α) (h : xs.length + ys.length ≤ 4294967296) : app xs ys = some (xs ++ ys) := by unfold app; rw [if_pos h]
theorem chk_ok {α : Type} {p : Prop} [Decidable p] (x : Option α) (h : p) : chk p x = x := by unfold chk; rw [if_pos h]
end Go.Hp
namespace Go.Hp
def tabl {α : Type} (n : Nat) (f : Nat → α) : List α := (List.range n).map f
theorem tabl_len {α : Type} (n : Nat) (f : Nat → α) : (tabl n f).length = n := by simp [tabl]
theorem tabl_get {α : Type} {n : Nat} {f : Nat → α} {i : Nat} (h : i < (tabl n f).length) : (tabl n f)[i] = f i := by simp [tabl]
theorem tabl_get? {α : Type} {n : Nat} {f : Nat → α} {i : Nat} (h : i < n) : (tabl n f)[i]? = some (f i) := by simp [tabl, h]
theorem tabl_set {α : Type} (n : Nat) (f : Nat → α) (i : Nat) (v : α) : (tabl n f).set i v = tabl n (fun j => if j = i then v else f j) := by
  apply List.ext_getElem
  · simp [tabl]
  · intro j h1 h2
    simp only [List.getElem_set, tabl_get]
    by_cases e : i = j
    · subst e; simp
    · rw [if_neg e, if_neg (fun h => e h.symm)]
theorem tabl_rep {α : Type} (n : Nat) (v : α) : List.replicate n v = tabl n (fun _ => v) := by
  apply List.ext_getElem
  · simp [tabl]
  · intro j h1 h2; simp [tabl]
theorem tabl_congr {α : Type} {n : Nat} {f g : Nat → α} (h : ∀ j, j < n → f j = g j) : tabl n f = tabl n g := by
  apply List.ext_getElem
  · simp [tabl]
  · intro j h1 h2
    rw [tabl_get, tabl_get]; exact h j (by simpa [tabl] using h1)
end Go.Hp
end
section
namespace Go.Hp
open Go
set_option linter.unusedVariables false
set_option linter.unusedSimpArgs false
set_option linter.unusedSectionVars false
section
variable {κ β : Type} [DecidableEq κ]
end
end Go.Hp
end
section
namespace Go.Hp
open Go
set_option linter.unusedVariables false
set_option linter.unusedSimpArgs false
theorem loop_c {σ ρ : Type} (F : Nat → σ → Int → ρ) (c : Nat → σ) (n : Nat) (r : ρ) (hs : ∀ m i, i < n → F (m + 1) (c i) (i : Int) = F m (c (i + 1)) ((i + 1 : Nat) : Int)) (he : ∀ m, F (m + 1) (c n) (n : Int) = r) : ∀ m, n < m → F m (c 0) 0 = r := by
  have key : ∀ d m i, i + d = n → d < m → F m (c i) (i : Int) = r := by
    intro d
    induction d with
    | zero =>
      intro m i hi hm
      obtain ⟨m, rfl⟩ : ∃ q, m = q + 1 := ⟨m - 1, by omega⟩
      obtain rfl : i = n := by omega
      exact he m
    | succ d ih =>
      intro m i hi hm
      obtain ⟨m, rfl⟩ : ∃ q, m = q + 1 := ⟨m - 1, by omega⟩
      rw [hs m i (by omega)]
      exact ih m (i + 1) (by omega) (by omega)
  intro m hm
  exact key n m 0 (by omega) hm
end Go.Hp
end
section
namespace Go.Hp
open Go
set_option linter.unusedVariables false
theorem loop_to {σ ρ : Type} (F : Nat → σ → Int → ρ) (ι : Nat → Int) (n : Nat) (Inv : Nat → σ → Prop) (hs : ∀ m i s, i < n → Inv i s → ∃ s', Inv (i + 1) s' ∧ F (m + 1) s (ι i) = F m s' (ι (i + 1))) : ∀ m s, n < m → Inv 0 s → ∃ m' s', Inv n s' ∧ F m s (ι 0) = F (m' + 1) s' (ι n) := by
  have key : ∀ d m i s, i + d = n → d < m → Inv i s → ∃ m' s', Inv n s' ∧ F m s (ι i) = F (m' + 1) s' (ι n) := by
    intro d
    induction d with
    | zero =>
      intro m i s hi hm h
      obtain ⟨m, rfl⟩ : ∃ q, m = q + 1 := ⟨m - 1, by omega⟩
      obtain rfl : i = n := by omega
      exact ⟨m, s, h, rfl⟩
    | succ d ih =>
      intro m i s hi hm h
      obtain ⟨m, rfl⟩ : ∃ q, m = q + 1 := ⟨m - 1, by omega⟩
      obtain ⟨s', h', e⟩ := hs m i s (by omega) h
      rw [e]
      exact ih m (i + 1) s' (by omega) (by omega) h'
  intro m s hm h
  exact key n m 0 s (by omega) hm h
theorem idx_t {α : Type} {n : Nat} (f : Nat → α) {k : Nat} (h : k < n) : idx (tabl n f) (k : Int) = some (f k) := by rw [idx_nat, tabl_get? h]
theorem idx_d {α : Type} (l : List α) (d : α) {k : Nat} (h : k < l.length) : idx l (k : Int) = some (l.getD k d) := by
  rw [idx_get l k h, List.getD_eq_getElem?_getD, List.getElem?_eq_getElem h]; rfl
theorem tabl_succ {α : Type} (n : Nat) (f : Nat → α) : tabl (n + 1) f = tabl n f ++ [f n] := by simp [tabl, List.range_succ]
theorem len_app1 {α : Type} (l : List α) (x : α) : (l ++ [x]).length = l.length + 1 := by simp
end Go.Hp
end
section
namespace Go.Proofs.YtbfiagimgokccaaGreat
open Go Go.Hp
set_option linter.unusedVariables false
set_option linter.unusedSimpArgs false
def sh (x : Int) (n : Nat) : Int := if x % 2 ^ n > 2 ^ n / 2 then x / 2 ^ n + 1 else if x % 2 ^ n = 2 ^ n / 2 then (if 0 < n then (if x / 2 ^ n % 2 = 1 then x / 2 ^ n + 1 else x / 2 ^ n) else x / 2 ^ n) else x / 2 ^ n
theorem pow_pos' (n : Nat) : (0 : Int) < 2 ^ n := by
  have : 0 < 2 ^ n := Nat.two_pow_pos n
  exact_mod_cast this
theorem pow_le62 (k : Nat) (hk2 : k ≤ 62) : (2 : Int) ^ k ≤ 4611686018427387904 := by
  have : 2 ^ k ≤ 2 ^ 62 := Nat.pow_le_pow_right (by decide) hk2
  have hcast : ((2 ^ k : Nat) : Int) = (2 : Int) ^ k := by simp
  rw [← hcast]; omega
theorem half_in (x : Int) (hx : -9223372036854775808 ≤ x ∧ x ≤ 9223372036854775807) (n : Nat) (hn : 0 < n) : -4611686018427387904 ≤ x / 2 ^ n ∧ x / 2 ^ n < 4611686018427387904 := by
  obtain ⟨m, rfl⟩ : ∃ m, n = m + 1 := ⟨n - 1, by omega⟩
  have hp := pow_pos' (m + 1)
  have hpm := pow_pos' m
  have hps : (2 : Int) ^ (m + 1) = 2 ^ m * 2 := Int.pow_succ 2 m
  refine ⟨Int.le_ediv_of_mul_le hp ?_, Int.ediv_lt_of_lt_mul hp ?_⟩
  · have hm : -4611686018427387904 * (2 : Int) ^ (m + 1) ≤ -4611686018427387904 * 2 := Int.mul_le_mul_of_nonpos_left (by decide) (by omega)
    omega
  · have hm : 4611686018427387904 * 2 ≤ 4611686018427387904 * (2 : Int) ^ (m + 1) := Int.mul_le_mul_of_nonneg_left (by omega) (by decide)
    omega
theorem J3_is (m : Nat) (hm : m + 1 ≤ 62) (q r : Int) (hq : -4611686018427387904 ≤ q ∧ q < 4611686018427387904) (h0 : 0 ≤ r) (h1 : r < 2 ^ (m + 1)) :
    ref01_Shift.J3 (2 ^ (m + 1)) q r = some (if r > 2 ^ (m + 1) / 2 then q + 1 else if r = 2 ^ (m + 1) / 2 then (if q % 2 = 1 then q + 1 else q) else q) := by
  have hps : (2 : Int) ^ (m + 1) = 2 ^ m * 2 := Int.pow_succ 2 m
  have hpm := pow_pos' m
  have hle := pow_le62 (m + 1) hm
  have hh : (2 : Int) ^ (m + 1) / 2 = 2 ^ m := by rw [hps]; omega
  rw [hh]
  have par : ∀ z : Int, (Int.tmod z 2 ≠ 0) ↔ z % 2 = 1 := by
    intro z
    rw [Ne, ← Int.dvd_iff_tmod_eq_zero, Int.dvd_iff_emod_eq_zero]
    omega
  have hw : IntKind.i64.wrap (q + 1) = q + 1 := W_in (by omega)
  have hw2 : IntKind.i64.wrap (2 ^ (m + 1) - r) = 2 ^ (m + 1) - r := W_in (by omega)
  unfold ref01_Shift.J3
  rw [hw2]
  by_cases c1 : r > 2 ^ m
  · rw [if_pos (by omega), if_pos c1, ref01_Shift.J4, if_pos rfl, hw]
  · rw [if_neg (by omega), if_neg c1]
    by_cases c2 : r = 2 ^ m
    · rw [if_pos (by omega), if_pos c2, ref01_Shift.J4]
      by_cases c3 : q % 2 = 1
      · rw [if_pos (decide_eq_true ((par q).2 c3)), if_pos c3, hw]
      · rw [if_neg (by intro h; exact c3 ((par q).1 (of_decide_eq_true h))), if_neg c3]
    · rw [if_neg (by omega), if_neg c2, ref01_Shift.J4, if_neg (by decide)]
theorem refshift_loop (x : Int) (hx : -9223372036854775808 ≤ x ∧ x ≤ 9223372036854775807) (n : Nat) (hn : 0 < n) (hn2 : n ≤ 62) (d : Nat) : ∀ (k i : Nat), i + d = n → d < k →
    ref01_Shift.L2 x (n : Int) k (2 ^ i) (i : Int) = some (sh x n) := by
  induction d with
  | zero =>
    intro k i hi hk
    obtain ⟨k, rfl⟩ : ∃ m, k = m + 1 := ⟨k - 1, by omega⟩
    obtain rfl : i = n := by omega
    have hp := pow_pos' i
    have hfl := half_in x hx i hn
    obtain ⟨m, rfl⟩ : ∃ m, i = m + 1 := ⟨i - 1, by omega⟩
    have hpm := pow_pos' m
    have hps : (2 : Int) ^ (m + 1) = 2 ^ m * 2 := Int.pow_succ 2 m
    have hle := pow_le62 (m + 1) hn2
    have hdm := Int.mul_tdiv_add_tmod x (2 ^ (m + 1))
    have hlt := Int.tmod_lt_of_pos x hp
    have hgt : -(2 ^ (m + 1)) < Int.tmod x (2 ^ (m + 1)) := Int.lt_tmod_of_pos x hp
    rw [ref01_Shift.L2, if_neg (by omega), chk_ok _ (by omega), Option.bind_some, chk_ok _ (by omega)]
    unfold sh
    rw [if_pos (show 0 < m + 1 by omega)]
    by_cases hneg : Int.tmod x (2 ^ (m + 1)) < 0
    · have huq : x / 2 ^ (m + 1) = Int.tdiv x (2 ^ (m + 1)) - 1 ∧ x % 2 ^ (m + 1) = Int.tmod x (2 ^ (m + 1)) + 2 ^ (m + 1) := by
        refine (Int.ediv_emod_unique hp).2 ⟨?_, by omega, by omega⟩
        rw [Int.mul_sub, Int.mul_one]
        omega
      rw [if_pos hneg, Option.bind_some]
      rw [huq.1] at hfl ⊢
      rw [huq.2]
      generalize Int.tdiv x (2 ^ (m + 1)) = q at *
      generalize Int.tmod x (2 ^ (m + 1)) = r at *
      rw [W_in (x := q) (by omega), W_in (x := q - 1) (by omega), W_in (x := r + 2 ^ (m + 1)) (by omega)]
      exact J3_is m hn2 (q - 1) (r + 2 ^ (m + 1)) hfl (by omega) (by omega)
    · have huq : x / 2 ^ (m + 1) = Int.tdiv x (2 ^ (m + 1)) ∧ x % 2 ^ (m + 1) = Int.tmod x (2 ^ (m + 1)) := (Int.ediv_emod_unique hp).2 ⟨by omega, by omega, by omega⟩
      rw [if_neg hneg]
      rw [huq.1] at hfl ⊢
      rw [huq.2]
      generalize Int.tdiv x (2 ^ (m + 1)) = q at *
      generalize Int.tmod x (2 ^ (m + 1)) = r at *
      rw [W_in (x := q) (by omega)]
      exact J3_is m hn2 q r hfl (by omega) (by omega)
  | succ d ih =>
    intro k i hi hk
    obtain ⟨k, rfl⟩ : ∃ m, k = m + 1 := ⟨k - 1, by omega⟩
    have hps : (2 : Int) ^ (i + 1) = 2 ^ i * 2 := Int.pow_succ 2 i
    have hp := pow_pos' i
    have hle := pow_le62 (i + 1) (by omega)
    rw [ref01_Shift.L2, if_pos (by omega), W_in (x := 2 ^ i * 2) (by omega), ← hps, W_succ i (by omega)]
    exact ih k (i + 1) (by omega) (by omega)
theorem refshift_is {N : Nat} (hN : 100 ≤ N) (x a : Int) (hx : -9223372036854775808 ≤ x ∧ x ≤ 9223372036854775807) : ref01_Shift N x a = some (sh x (min (max a 0) 62).toNat) := by
  have key : ∀ b : Int, b ≤ 62 → ref01_Shift.J1 N x b = some (sh x (max b 0).toNat) := by
    intro b hb
    rw [ref01_Shift.J1]
    by_cases h : b ≤ 0
    · have e : (max b 0).toNat = 0 := by omega
      rw [if_pos h, e]
      unfold sh
      have e1 : x % (2 : Int) ^ 0 = 0 := by simp
      have e2 : (2 : Int) ^ 0 / 2 = 0 := by decide
      have e3 : x / (2 : Int) ^ 0 = x := by simp
      rw [e1, e2, e3, if_neg (by decide), if_pos rfl, if_neg (by decide)]
    · obtain ⟨n, rfl⟩ := Int.eq_ofNat_of_zero_le (show 0 ≤ b by omega)
      have e : (max (n : Int) 0).toNat = n := by omega
      rw [if_neg h, e]
      exact refshift_loop x hx n (by omega) (by omega) n N 0 (by omega) (by omega)
  unfold ref01_Shift
  by_cases h : a > 62
  · rw [if_pos h, key 62 (by decide), show min (max a 0) 62 = max 62 0 by omega]
  · rw [if_neg h, key a (by omega), show min (max a 0) 62 = max a 0 by omega]
theorem near_is (x a b : Int) (h : a ≤ b) : ref01_Near x a b = some (min (max x a) b) := by
  unfold ref01_Near
  by_cases h1 : x < a
  · rw [if_pos h1, show min (max x a) b = a by omega]
  · rw [if_neg h1]
    by_cases h2 : x > b
    · rw [if_pos h2, show min (max x a) b = b by omega]
    · rw [if_neg h2, show min (max x a) b = x by omega]
theorem mod_is (x : Int) : ref01_Mod x = some (IntKind.i32.wrap x) := by
  have a := Int.tmod_lt_of_pos x (show (0 : Int) < 4294967296 by decide)
  have b := Int.lt_tmod_of_pos x (show (0 : Int) < 4294967296 by decide)
  have h := Int.tmod_add_mul_tdiv x 4294967296
  have key : ∀ z q : Int, 0 ≤ z → z < 4294967296 → z + 4294967296 * q = x → ref01_Mod.J1 z = some (IntKind.i32.wrap x) := by
    intro z q h0 h1 h2
    unfold ref01_Mod.J1
    by_cases h3 : z ≥ 2147483648
    · rw [if_pos h3, Option.bind_some, W_in (by omega)]
      congr 1
      simp only [IntKind.wrap_i32]
      omega
    · rw [if_neg h3]
      congr 1
      simp only [IntKind.wrap_i32]
      omega
  unfold ref01_Mod
  by_cases hn : Int.tmod x 4294967296 < 0
  · rw [if_pos hn, Option.bind_some, W_in (by omega)]
    exact key _ (Int.tdiv x 4294967296 - 1) (by omega) (by omega) (by omega)
  · rw [if_neg hn]
    exact key _ (Int.tdiv x 4294967296) (by omega) (by omega) (by omega)

def tot : List Int → Int
  | [] => 0
  | x :: xs => x + tot xs
theorem tot_snoc (xs : List Int) (x : Int) : tot (xs ++ [x]) = tot xs + x := by
  induction xs with
  | nil => simp [tot]
  | cons y ys ih => rw [List.cons_append, tot, tot, ih]; omega
theorem wrap_is {N : Nat} (xs : List Int) (h : xs.length < N) (h2 : xs.length ≤ 1000000) : ref01_Wrap N xs = some (IntKind.i32.wrap (tot xs)) := by
  unfold ref01_Wrap
  refine loop_c (fun m (s : Int) i => ref01_Wrap.L1 xs m s i) (fun i => IntKind.i32.wrap (tot (xs.take i))) xs.length _ (fun m i hi => ?_) (fun m => ?_) N h
  · show ref01_Wrap.L1 xs (m + 1) _ (i : Int) = ref01_Wrap.L1 xs m _ _
    rw [ref01_Wrap.L1, if_pos (by omega), idx_get _ _ hi, Option.bind_some, mod_is, Option.bind_some, mod_is, Option.bind_some, W_succ i (by omega), List.take_succ_eq_append_getElem hi, tot_snoc]
    congr 1
    simp only [IntKind.wrap_i64, IntKind.wrap_i32]
    omega
  · show ref01_Wrap.L1 xs (m + 1) _ (xs.length : Int) = _
    rw [ref01_Wrap.L1, if_neg (by omega), List.take_length]
    congr 1
    simp only [IntKind.wrap_i32]
    omega
def scl (x by_ n lo hi : Int) : Int := min (max (sh (IntKind.i64.wrap (IntKind.i64.wrap x * IntKind.i64.wrap by_)) (min (max n 0) 62).toNat) lo) hi
theorem refscale_is {N : Nat} (hN : 100 ≤ N) (x by_ n lo hi : Int) (h : lo ≤ hi) : ref01_Scale N x by_ n lo hi = some (scl x by_ n lo hi) := by
  unfold ref01_Scale
  rw [refshift_is hN _ _ (W_range _), Option.bind_some, near_is _ _ _ h, Option.bind_some]
  rfl
def matR (m : S_api_Mat) (r c : Nat) : Prop := m.Rows = r ∧ m.Cols = c ∧ m.V.length = r * c
def tbl : List Int := (65536 :: 64132 :: 62757 :: 61413 :: 60097 :: 58809 :: 57549 :: 56316 :: 55109 :: 53928 :: 52773 :: 51642 :: 50535 :: 49452 :: 48393 :: 47356 :: 46341 :: 45348 :: 44376 :: 43425 :: 42495 :: 41584 :: 40693 :: 39821 :: 38968 :: 38133 :: 37316 :: 36516 :: 35734 :: 34968 :: 34219 :: 33486 :: 32768 :: [])
def joinS (x y : List Int) (by_ n : Int) : List Int := tabl x.length fun i => IntKind.i32.wrap (x.getD i 0 + scl (y.getD i 0) by_ n (-2147483648) 2147483647)
theorem join_is {N : Nat} (x y : List Int) (by_ n : Int) (h : y.length = x.length) (hl : x.length ≤ 200) (hN : 200 < N) : ref05_Join N x y by_ n = some (joinS x y by_ n) := by
  unfold ref05_Join
  refine loop_c (fun m (s : List Int) i => ref05_Join.L1 N x y by_ n m s i) (fun i => tabl i fun i => IntKind.i32.wrap (x.getD i 0 + scl (y.getD i 0) by_ n (-2147483648) 2147483647)) x.length _ (fun m i hi => ?_) (fun m => ?_) N (by omega)
  · show ref05_Join.L1 N x y by_ n (m + 1) _ (i : Int) = ref05_Join.L1 N x y by_ n m _ _
    have e : IntKind.i32.wrap (tot [IntKind.i64.wrap (x.getD i 0), scl (y.getD i 0) by_ n (-2147483648) 2147483647]) = IntKind.i32.wrap (x.getD i 0 + scl (y.getD i 0) by_ n (-2147483648) 2147483647) := by
      simp only [tot, IntKind.wrap_i64, IntKind.wrap_i32]; omega
    rw [ref05_Join.L1, if_pos (by omega), idx_d x 0 hi, Option.bind_some, idx_d y 0 (by omega), Option.bind_some, refscale_is (by omega) _ _ _ _ _ (by decide), Option.bind_some, wrap_is _ (by simp; omega) (by simp), Option.bind_some, e, app_ok _ _ (by rw [tabl_len]; simp only [List.length_cons, List.length_nil]; omega), Option.bind_some, W_succ i (by omega), tabl_succ]
  · show ref05_Join.L1 N x y by_ n (m + 1) _ (x.length : Int) = _
    rw [ref05_Join.L1, if_neg (by omega)]; rfl
def part (x : List Int) (w h : Nat) : List Int := (x.take ((h + 1) * w)).drop (h * w)
set_option linter.unusedSectionVars false
structure Dim where
  ly : Nat
  h : Nat
  wd : Nat
  inn : Nat
  voc : Nat
  pl : Nat
def Dim.w (d : Dim) : Nat := d.h * d.wd
structure DOK (d : Dim) : Prop where
  ly : 0 < d.ly ∧ d.ly ≤ 3
  h : 0 < d.h ∧ d.h ≤ 4
  wd : 0 < d.wd ∧ d.wd % 2 = 0 ∧ d.wd ≤ 16
  w : d.h * d.wd ≤ 16
  inn : 0 < d.inn ∧ d.inn ≤ 8
  voc : 0 < d.voc ∧ d.voc ≤ 10
  pl : d.pl ≤ 12
structure BOK (d : Dim) (b : S_api_Block) : Prop where
  first : b.First.length = d.w
  second : b.Second.length = d.w
  q : matR b.Q d.w d.w
  k : matR b.K d.w d.w
  v : matR b.V d.w d.w
  o : matR b.O d.w d.w
  up : matR b.Up d.inn d.w
  down : matR b.Down d.w d.inn
structure WOK (d : Dim) (w : S_api_Weights) : Prop where
  layers : w.Shape.Layers = d.ly
  width : w.Shape.Width = (d.w : Nat)
  heads : w.Shape.Heads = d.h
  inner : w.Shape.Inner = d.inn
  vocab : w.Shape.Vocab = d.voc
  places : w.Shape.Places = d.pl
  embed : matR w.Embed d.voc d.w
  blen : w.Blocks.length = d.ly
  blocks : ∀ b ∈ w.Blocks, BOK d b
  last : w.Last.length = d.w
  head : matR w.Head d.voc d.w
def zB : S_api_Block := ⟨[], [], ⟨0, 0, []⟩, ⟨0, 0, []⟩, ⟨0, 0, []⟩, ⟨0, 0, []⟩, ⟨0, 0, []⟩, ⟨0, 0, []⟩⟩
def inS (d : Dim) (w : S_api_Weights) (t : Nat) : List Int := tabl d.w fun i => IntKind.i32.wrap (16 * IntKind.i32.wrap (w.Embed.V.getD (t * d.w + i) 0))
theorem getD_in {α : Type} (l : List α) (z : α) (k : Nat) (h : k < l.length) : l.getD k z ∈ l := by
  rw [List.getD_eq_getElem?_getD, List.getElem?_eq_getElem h]; exact List.getElem_mem h
theorem matR_eta (m : S_api_Mat) : (⟨m.Rows, m.Cols, m.V⟩ : S_api_Mat) = m := rfl
section
variable {d : Dim} (hd : DOK d)
include hd
theorem dw16 : d.w ≤ 16 := hd.w
end
section
variable {d : Dim} (hd : DOK d)
include hd
end
section
variable {d : Dim} (hd : DOK d)
include hd
end
section
variable {d : Dim} (hd : DOK d)
include hd
end
section
variable {d : Dim} (hd : DOK d)
include hd
end
theorem rest7_is (x : Int) (m : Nat) (h : 0 < m) (hb : m ≤ 1000) : ∃ k : Nat, k < m ∧ ref07_rest x (m : Int) = some (k : Int) := by
  obtain ⟨k, hk, e⟩ := W_restN x m h (by omega)
  refine ⟨k, hk, ?_⟩
  unfold ref07_rest
  rw [chk_ok _ (by omega), chk_ok _ (by omega), e, Option.bind_some]
def shapeS (d : Dim) : S_api_Shape := ⟨(d.ly : Int), ((d.w : Nat) : Int), (d.h : Int), (d.inn : Int), (d.voc : Int), (d.pl : Int)⟩
theorem tiny_is (n : A6_i64) : ∃ d : Dim, DOK d ∧ 2 ≤ d.voc ∧ 4 ≤ d.pl ∧ ref07_Tiny n = some (shapeS d) := by
  obtain ⟨a, ha, ea⟩ := rest7_is n.c2 3 (by decide) (by decide)
  obtain ⟨b, hb, eb⟩ := rest7_is n.c0 3 (by decide) (by decide)
  obtain ⟨c, hc, ec⟩ := rest7_is n.c1 2 (by decide) (by decide)
  obtain ⟨e, he, ee⟩ := rest7_is n.c3 8 (by decide) (by decide)
  obtain ⟨f, hf, ef⟩ := rest7_is n.c4 9 (by decide) (by decide)
  obtain ⟨g, hg, eg⟩ := rest7_is n.c5 9 (by decide) (by decide)
  have hh : ∃ h : Nat, 0 < h ∧ h ≤ 4 ∧ idx ([1, 2, 4] : List Int) (a : Int) = some (h : Int) := by
    match a, ha with
    | 0, _ => exact ⟨1, by decide, by decide, rfl⟩
    | 1, _ => exact ⟨2, by decide, by decide, rfl⟩
    | 2, _ => exact ⟨4, by decide, by decide, rfl⟩
  obtain ⟨h, h0, h4, eh⟩ := hh
  have hw : h * (2 * (1 + c)) ≤ 4 * 4 := Nat.mul_le_mul h4 (by omega)
  refine ⟨⟨1 + b, h, 2 * (1 + c), 1 + e, 2 + f, 4 + g⟩, ⟨by dsimp only; omega, by dsimp only; omega, by dsimp only; omega, hw, by dsimp only; omega, by dsimp only; omega, by dsimp only; omega⟩, by dsimp only; omega, by dsimp only; omega, ?_⟩
  have ea' : ref07_rest n.c2 3 = some (a : Int) := ea
  have eb' : ref07_rest n.c0 3 = some (b : Int) := eb
  have ec' : ref07_rest n.c1 2 = some (c : Int) := ec
  have ee' : ref07_rest n.c3 8 = some (e : Int) := ee
  have ef' : ref07_rest n.c4 9 = some (f : Int) := ef
  have eg' : ref07_rest n.c5 9 = some (g : Int) := eg
  unfold ref07_Tiny
  rw [ea', Option.bind_some, eh, Option.bind_some, eb', Option.bind_some, ec', Option.bind_some, ee', Option.bind_some, ef', Option.bind_some, eg', Option.bind_some]
  have e1 : IntKind.i64.wrap (1 + (b : Int)) = ((1 + b : Nat) : Int) := by rw [W_in (by omega)]; omega
  have e2 : IntKind.i64.wrap (IntKind.i64.wrap (2 * (h : Int)) * IntKind.i64.wrap (1 + (c : Int))) = ((h * (2 * (1 + c)) : Nat) : Int) := by
    rw [W_in (x := 2 * (h : Int)) (by omega), W_in (x := 1 + (c : Int)) (by omega)]
    have : 2 * (h : Int) * (1 + (c : Int)) = ((h * (2 * (1 + c)) : Nat) : Int) := by
      rw [Int.natCast_mul, Int.natCast_mul, Int.natCast_add, Int.mul_comm 2 (h : Int), Int.mul_assoc]; rfl
    rw [this, W_in (by omega)]
  have e3 : IntKind.i64.wrap (1 + (e : Int)) = ((1 + e : Nat) : Int) := by rw [W_in (by omega)]; omega
  have e4 : IntKind.i64.wrap (2 + (f : Int)) = ((2 + f : Nat) : Int) := by rw [W_in (by omega)]; omega
  have e5 : IntKind.i64.wrap (4 + (g : Int)) = ((4 + g : Nat) : Int) := by rw [W_in (by omega)]; omega
  rw [e1, e2, e3, e4, e5]
  rfl
def perL (d : Dim) : Nat := d.w + 4 * (d.w * d.w) + d.w + d.inn * d.w + d.w * d.inn
def countS (d : Dim) : Nat := d.voc * d.w + d.ly * perL d + d.w + d.voc * d.w
def layR (d : Dim) : List S_ref07_Row := [⟨true, ((d.w : Nat) : Int)⟩, ⟨false, ((d.w * d.w : Nat) : Int)⟩, ⟨false, ((d.w * d.w : Nat) : Int)⟩, ⟨false, ((d.w * d.w : Nat) : Int)⟩, ⟨false, ((d.w * d.w : Nat) : Int)⟩, ⟨true, ((d.w : Nat) : Int)⟩, ⟨false, ((d.inn * d.w : Nat) : Int)⟩, ⟨false, ((d.w * d.inn : Nat) : Int)⟩]
def rowsS (d : Dim) : Nat → List S_ref07_Row
  | 0 => [⟨false, ((d.voc * d.w : Nat) : Int)⟩]
  | k + 1 => rowsS d k ++ layR d
def sumN : List S_ref07_Row → Int
  | [] => 0
  | r :: rs => r.N + sumN rs
theorem sumN_app (a b : List S_ref07_Row) : sumN (a ++ b) = sumN a + sumN b := by
  induction a with
  | nil => simp [sumN]
  | cons r rs ih => rw [List.cons_append, sumN, sumN, ih]; omega
section
variable {d : Dim} (hd : DOK d)
include hd
theorem w_mulN (a b : Nat) (h : a * b ≤ 100000) : IntKind.i64.wrap ((a : Int) * (b : Int)) = ((a * b : Nat) : Int) := by
  have : (a : Int) * (b : Int) = ((a * b : Nat) : Int) := by simp
  rw [this, W_in (by omega)]
theorem prods : d.w * d.w ≤ 256 ∧ d.inn * d.w ≤ 128 ∧ d.w * d.inn ≤ 128 ∧ d.voc * d.w ≤ 160 := by
  have h := dw16 hd; have h1 := hd.inn; have h2 := hd.voc
  exact ⟨Nat.mul_le_mul h h, Nat.mul_le_mul h1.2 h, Nat.mul_le_mul h h1.2, Nat.mul_le_mul h2.2 h⟩
theorem rowsS_len : ∀ k, (rowsS d k).length = 1 + 8 * k
  | 0 => rfl
  | k + 1 => by rw [rowsS, List.length_append, rowsS_len k]; simp [layR]; omega
theorem rowsS_sum : ∀ k, sumN (rowsS d k) = ((d.voc * d.w + k * perL d : Nat) : Int)
  | 0 => by simp [rowsS, sumN]
  | k + 1 => by
    rw [rowsS, sumN_app, rowsS_sum k]
    have e : sumN (layR d) = ((perL d : Nat) : Int) := by simp only [layR, sumN, perL]; omega
    rw [e, Nat.succ_mul]; omega
theorem rows_is {N : Nat} (hN : 200 < N) : ref07_Rows N (shapeS d) = some (rowsS d d.ly ++ [⟨true, ((d.w : Nat) : Int)⟩, ⟨false, ((d.voc * d.w : Nat) : Int)⟩]) := by
  obtain ⟨p1, p2, p3, p4⟩ := prods hd
  have hly := hd.ly
  unfold ref07_Rows
  have e0 : IntKind.i64.wrap ((shapeS d).Vocab * (shapeS d).Width) = ((d.voc * d.w : Nat) : Int) := w_mulN hd d.voc d.w (by omega)
  have e1 : IntKind.i64.wrap ((shapeS d).Width * (shapeS d).Width) = ((d.w * d.w : Nat) : Int) := w_mulN hd d.w d.w (by omega)
  have e2 : IntKind.i64.wrap ((shapeS d).Inner * (shapeS d).Width) = ((d.inn * d.w : Nat) : Int) := w_mulN hd d.inn d.w (by omega)
  have e3 : IntKind.i64.wrap ((shapeS d).Width * (shapeS d).Inner) = ((d.w * d.inn : Nat) : Int) := w_mulN hd d.w d.inn (by omega)
  rw [e0]
  refine loop_c (fun m (s : List S_ref07_Row) i => ref07_Rows.L1 (shapeS d) m s i) (fun i => rowsS d i) d.ly _ (fun m i hi => ?_) (fun m => ?_) N (by omega)
  · show ref07_Rows.L1 (shapeS d) (m + 1) _ (i : Int) = ref07_Rows.L1 (shapeS d) m _ _
    have hl := rowsS_len hd i
    rw [ref07_Rows.L1, if_pos (by show (i : Int) < (d.ly : Int); omega), e1, e2, e3, app_ok _ _ (by simp only [List.length_cons, List.length_nil]; omega), Option.bind_some, W_succ i (by omega)]
    rfl
  · show ref07_Rows.L1 (shapeS d) (m + 1) _ (d.ly : Int) = _
    have hl := rowsS_len hd d.ly
    rw [ref07_Rows.L1, if_neg (by show ¬ (d.ly : Int) < (d.ly : Int); omega), e0, app_ok _ _ (by simp only [List.length_cons, List.length_nil]; omega), Option.bind_some]
    rfl
theorem grown_is {N : Nat} (hN : 5000 ≤ N) (seed : Int) : ∃ l : List Int, ref07_Grown N (shapeS d) seed = some l ∧ l.length = countS d := by
  obtain ⟨p1, p2, p3, p4⟩ := prods hd
  have hly := hd.ly; have hw := dw16 hd
  unfold ref07_Grown
  rw [show (⟨(shapeS d).Layers, (shapeS d).Width, (shapeS d).Heads, (shapeS d).Inner, (shapeS d).Vocab, (shapeS d).Places⟩ : S_api_Shape) = shapeS d from rfl, rows_is hd (by omega), Option.bind_some]
  generalize hrs : rowsS d d.ly ++ [(⟨true, ((d.w : Nat) : Int)⟩ : S_ref07_Row), ⟨false, ((d.voc * d.w : Nat) : Int)⟩] = rs
  have hlen : rs.length = 8 * d.ly + 3 := by rw [← hrs, List.length_append, rowsS_len hd]; simp; omega
  have hsum : sumN rs = ((countS d : Nat) : Int) := by
    rw [← hrs, sumN_app, rowsS_sum hd]; simp only [sumN, countS]; omega
  have hrange : ∀ r ∈ rs, 0 ≤ r.N ∧ r.N ≤ 256 := by
    have hlay : ∀ r ∈ layR d, 0 ≤ r.N ∧ r.N ≤ 256 := by
      intro r hr
      simp only [layR, List.mem_cons, List.not_mem_nil, or_false] at hr
      rcases hr with rfl | rfl | rfl | rfl | rfl | rfl | rfl | rfl <;> dsimp only <;> omega
    have hro : ∀ k, ∀ r ∈ rowsS d k, 0 ≤ r.N ∧ r.N ≤ 256 := by
      intro k
      induction k with
      | zero => intro r hr; simp only [rowsS, List.mem_singleton] at hr; subst hr; dsimp only; omega
      | succ k ih => intro r hr; rw [rowsS] at hr; rcases List.mem_append.1 hr with h | h; exact ih r h; exact hlay r h
    intro r hr
    rw [← hrs] at hr
    rcases List.mem_append.1 hr with h | h
    · exact hro _ r h
    · simp only [List.mem_cons, List.not_mem_nil, or_false] at h
      rcases h with rfl | rfl <;> dsimp only <;> omega
  obtain ⟨m', s', hs1, e⟩ := loop_to (fun m (s : List Int × Int) i => ref07_Grown.L1 N rs m s.1 s.2 i) (fun i => (i : Int)) rs.length (fun i s => ((s.1.length : Nat) : Int) = sumN (rs.take i)) (fun m i s hi hs1 => by
    have hri := hrange rs[i] (List.getElem_mem hi)
    obtain ⟨n, hn⟩ := Int.eq_ofNat_of_zero_le hri.1
    have hbnd : sumN (rs.take i) ≤ 256 * i := by
      have : ∀ k, k ≤ rs.length → sumN (rs.take k) ≤ 256 * k := by
        intro k
        induction k with
        | zero => intro _; simp [sumN]
        | succ k ih =>
          intro hk
          have h1 := ih (by omega)
          have h2 := hrange rs[k] (List.getElem_mem (by omega))
          rw [List.take_succ_eq_append_getElem (by omega), sumN_app]
          simp only [sumN]; omega
      exact this i (by omega)
    obtain ⟨m2, z, hz1, e2⟩ := loop_to (fun q (z : List Int × Int) j => ref07_Grown.L2 N rs (i : Int) (ref07_Grown.L1 N rs m) q z.1 z.2 j) (fun j => (j : Int)) n (fun j z => z.1.length = s.1.length + j) (fun q j z hj hz1 => by
      have j3 : ∀ g : Int, ∃ z' : List Int × Int, z'.1.length = s.1.length + (j + 1) ∧ ref07_Grown.J3 z.1 (j : Int) (IntKind.u64.wrap (IntKind.u64.wrap (z.2 * 6364136223846793005) + 1442695040888963407)) (ref07_Grown.L2 N rs (i : Int) (ref07_Grown.L1 N rs m) q) g = ref07_Grown.L2 N rs (i : Int) (ref07_Grown.L1 N rs m) q z'.1 z'.2 ((j + 1 : Nat) : Int) := by
        intro g
        refine ⟨(z.1 ++ [IntKind.i8.wrap g], IntKind.u64.wrap (IntKind.u64.wrap (z.2 * 6364136223846793005) + 1442695040888963407)), by simp [hz1]; omega, ?_⟩
        · unfold ref07_Grown.J3
          rw [app_ok _ _ (by simp only [List.length_cons, List.length_nil]; omega), Option.bind_some, W_succ j (by omega)]
      show ∃ s', _ ∧ ref07_Grown.L2 N rs (i : Int) (ref07_Grown.L1 N rs m) (q + 1) z.1 z.2 (j : Int) = _
      rw [ref07_Grown.L2, idx_get _ _ hi, Option.bind_some, if_pos (by omega), Option.bind_some, Option.bind_some, Option.bind_some]
      by_cases c : rs[i].Gain = true
      · rw [if_pos c, Option.bind_some]; exact j3 _
      · rw [if_neg c]; exact j3 _) N s (by omega) rfl
    refine ⟨z, ?_, ?_⟩
    · rw [List.take_succ_eq_append_getElem hi, sumN_app, ← hs1]
      simp only [sumN]; omega
    · show ref07_Grown.L1 N rs (m + 1) s.1 s.2 (i : Int) = ref07_Grown.L1 N rs m z.1 z.2 ((i + 1 : Nat) : Int)
      rw [ref07_Grown.L1, if_pos (by omega)]
      refine Eq.trans e2 ?_
      show ref07_Grown.L2 N rs (i : Int) (ref07_Grown.L1 N rs m) (m2 + 1) z.1 z.2 (n : Int) = _
      rw [ref07_Grown.L2, idx_get _ _ hi, Option.bind_some, if_neg (by omega), W_succ i (by omega)]) N ([], seed) (by omega) (by simp [sumN])
  refine ⟨s'.1, ?_, ?_⟩
  · refine Eq.trans e ?_
    show ref07_Grown.L1 N rs (m' + 1) s'.1 s'.2 (rs.length : Int) = _
    rw [ref07_Grown.L1, if_neg (by omega)]
  · rw [List.take_length, hsum] at hs1; omega
theorem take_is (l : List Int) (at_ n : Nat) (h : at_ + n ≤ l.length) (hl : l.length ≤ 100000) : ref08_taker_take ⟨l, (at_ : Int)⟩ (n : Int) = some ((l.take (at_ + n)).drop at_, ⟨l, ((at_ + n : Nat) : Int)⟩) := by
  unfold ref08_taker_take
  show chk (0 ≤ (at_ : Int) ∧ (at_ : Int) ≤ IntKind.i64.wrap ((at_ : Int) + (n : Int)) ∧ IntKind.i64.wrap ((at_ : Int) + (n : Int)) ≤ ((l.length : Nat) : Int)) ((app [] ((l.take (IntKind.i64.wrap ((at_ : Int) + (n : Int))).toNat).drop ((at_ : Int)).toNat)).bind fun z10 => some (z10, (⟨l, IntKind.i64.wrap ((at_ : Int) + (n : Int))⟩ : S_ref08_taker))) = _
  have e : IntKind.i64.wrap ((at_ : Int) + (n : Int)) = ((at_ + n : Nat) : Int) := by rw [W_in (by omega)]; omega
  rw [e, chk_ok _ (by omega), Int.toNat_natCast, Int.toNat_natCast, app_ok _ _ (by simp; omega), Option.bind_some, List.nil_append]
theorem takeL (l : List Int) (a n : Nat) (h : a + n ≤ l.length) : ((l.take (a + n)).drop a).length = n := by simp; omega
theorem mat_is (l : List Int) (at_ r c : Nat) (h : at_ + r * c ≤ l.length) (hl : l.length ≤ 100000) : ref08_taker_mat ⟨l, (at_ : Int)⟩ (r : Int) (c : Int) = some (⟨(r : Int), (c : Int), (l.take (at_ + r * c)).drop at_⟩, ⟨l, ((at_ + r * c : Nat) : Int)⟩) := by
  unfold ref08_taker_mat
  rw [w_mulN hd r c (by omega), take_is hd l at_ (r * c) h hl, Option.bind_some]
end
section
variable {d : Dim} (hd : DOK d)
include hd
theorem matR_mk (l : List Int) (at_ r c : Nat) (h : at_ + r * c ≤ l.length) : matR ⟨(r : Int), (c : Int), (l.take (at_ + r * c)).drop at_⟩ r c := ⟨rfl, rfl, takeL hd l at_ (r * c) h⟩
theorem of_is {N : Nat} (hN : 200 < N) (l : List Int) (hl : l.length = countS d) : ∃ w, ref08_Of N (shapeS d) l = some w ∧ WOK d w ∧ w.Shape = shapeS d := by
  obtain ⟨p1, p2, p3, p4⟩ := prods hd
  have hly := hd.ly; have hw := dw16 hd
  have hper : perL d ≤ 1400 := by unfold perL; omega
  have hlp : ∀ i, i ≤ d.ly → i * perL d ≤ d.ly * perL d := fun i hi => Nat.mul_le_mul_right _ hi
  have hl3 : d.ly * perL d ≤ 3 * 1400 := Nat.mul_le_mul hly.2 hper
  have hc : countS d = d.voc * d.w + d.ly * perL d + d.w + d.voc * d.w := rfl
  have hbig : l.length ≤ 100000 := by omega
  have hW : (shapeS d).Width = ((d.w : Nat) : Int) := rfl
  have hV : (shapeS d).Vocab = (d.voc : Int) := rfl
  have hI : (shapeS d).Inner = (d.inn : Int) := rfl
  have hLy : (shapeS d).Layers = (d.ly : Int) := rfl
  unfold ref08_Of
  have e0 : ref08_taker_mat ⟨l, 0⟩ (shapeS d).Vocab (shapeS d).Width = some (⟨(d.voc : Int), ((d.w : Nat) : Int), (l.take (0 + d.voc * d.w)).drop 0⟩, ⟨l, ((0 + d.voc * d.w : Nat) : Int)⟩) := mat_is hd l 0 d.voc d.w (by omega) hbig
  have hemb := matR_mk hd l 0 d.voc d.w (by omega)
  rw [e0, Option.bind_some]
  generalize hm0 : (⟨(d.voc : Int), ((d.w : Nat) : Int), (l.take (0 + d.voc * d.w)).drop 0⟩ : S_api_Mat) = m0 at hemb ⊢
  obtain ⟨m', s', ⟨h1, h2, h3⟩, e⟩ := loop_to (fun m (s : S_ref08_taker × List S_api_Block) i => ref08_Of.L1 (shapeS d) (m0, ⟨l, ((0 + d.voc * d.w : Nat) : Int)⟩) m s.1 s.2 i) (fun i => (i : Int)) d.ly (fun i s => s.1 = ⟨l, ((d.voc * d.w + i * perL d : Nat) : Int)⟩ ∧ s.2.length = i ∧ ∀ b ∈ s.2, BOK d b) (fun m i s hi hs => by
    obtain ⟨h1, h2, h3⟩ := hs
    have hp1 := hlp (i + 1) (by omega)
    have hp2 : (i + 1) * perL d = i * perL d + perL d := Nat.succ_mul _ _
    have hpd : perL d = d.w + 4 * (d.w * d.w) + d.w + d.inn * d.w + d.w * d.inn := rfl
    generalize hA : d.voc * d.w + i * perL d = A at h1
    have hAl : A + perL d ≤ l.length := by omega
    obtain ⟨s1, s2⟩ := s
    dsimp only at h1 h2 h3
    subst h1
    show ∃ s', _ ∧ ref08_Of.L1 (shapeS d) _ (m + 1) _ _ (i : Int) = _
    rw [ref08_Of.L1, hLy, hW, hI, if_pos (by omega), take_is hd l A d.w (by omega) hbig, Option.bind_some, mat_is hd l (A + d.w) d.w d.w (by omega) hbig, Option.bind_some, mat_is hd l (A + d.w + d.w * d.w) d.w d.w (by omega) hbig, Option.bind_some, mat_is hd l (A + d.w + d.w * d.w + d.w * d.w) d.w d.w (by omega) hbig, Option.bind_some,
      mat_is hd l (A + d.w + d.w * d.w + d.w * d.w + d.w * d.w) d.w d.w (by omega) hbig, Option.bind_some, take_is hd l (A + d.w + d.w * d.w + d.w * d.w + d.w * d.w + d.w * d.w) d.w (by omega) hbig, Option.bind_some, mat_is hd l (A + d.w + d.w * d.w + d.w * d.w + d.w * d.w + d.w * d.w + d.w) d.inn d.w (by omega) hbig, Option.bind_some,
      mat_is hd l (A + d.w + d.w * d.w + d.w * d.w + d.w * d.w + d.w * d.w + d.w + d.inn * d.w) d.w d.inn (by omega) hbig, Option.bind_some, app_ok _ _ (by simp only [List.length_cons, List.length_nil]; omega), Option.bind_some, W_succ i (by omega)]
    refine ⟨(_, _), ⟨?_, ?_, ?_⟩, rfl⟩
    · dsimp only
      rw [show A + d.w + d.w * d.w + d.w * d.w + d.w * d.w + d.w * d.w + d.w + d.inn * d.w + d.w * d.inn = d.voc * d.w + (i + 1) * perL d by omega]
    · dsimp only; rw [len_app1, h2]
    · intro b hb
      rcases List.mem_append.1 hb with h | h
      · exact h3 b h
      · rw [List.mem_singleton] at h
        subst h
        exact ⟨takeL hd l _ _ (by omega), takeL hd l _ _ (by omega), matR_mk hd l _ _ _ (by omega), matR_mk hd l _ _ _ (by omega), matR_mk hd l _ _ _ (by omega), matR_mk hd l _ _ _ (by omega), matR_mk hd l _ _ _ (by omega), matR_mk hd l _ _ _ (by omega)⟩) N (⟨l, ((0 + d.voc * d.w : Nat) : Int)⟩, []) (by omega) ⟨by dsimp only; rw [show 0 + d.voc * d.w = d.voc * d.w + 0 * perL d by omega], rfl, by simp⟩
  obtain ⟨s1, s2⟩ := s'
  dsimp only at h1 h2 h3
  subst h1
  refine ⟨⟨shapeS d, m0, s2, (l.take (d.voc * d.w + d.ly * perL d + d.w)).drop (d.voc * d.w + d.ly * perL d), ⟨(d.voc : Int), ((d.w : Nat) : Int), (l.take (d.voc * d.w + d.ly * perL d + d.w + d.voc * d.w)).drop (d.voc * d.w + d.ly * perL d + d.w)⟩⟩, e.trans ?_, ⟨rfl, rfl, rfl, rfl, rfl, rfl, hemb, h2, h3, takeL hd l _ _ (by omega), matR_mk hd l _ _ _ (by omega)⟩, rfl⟩
  show ref08_Of.L1 (shapeS d) _ (m' + 1) _ s2 (d.ly : Int) = _
  rw [ref08_Of.L1, hLy, hW, hV, if_neg (by omega), take_is hd l _ d.w (by omega) hbig, Option.bind_some, mat_is hd l (d.voc * d.w + d.ly * perL d + d.w) d.voc d.w (by omega) hbig, Option.bind_some]
  rfl
end
theorem made_is {N : Nat} (hN : 5000 ≤ N) (n : A6_i64) (seed : Int) (xs : List Int) (hx : xs.length ≤ 2000) : ∃ (d : Dim) (w : S_api_Weights), DOK d ∧ 2 ≤ d.voc ∧ 4 ≤ d.pl ∧ WOK d w ∧ w.Shape = shapeS d ∧ ref08_Made N n seed xs = some w := by
  obtain ⟨d, hd, hv, hp, et⟩ := tiny_is n
  obtain ⟨l, el, hl⟩ := grown_is hd hN seed
  have hfin : ∀ l' : List Int, l'.length = countS d → ∃ w, (ref08_Of N (shapeS d) l').bind (fun r29 => some (⟨(⟨r29.Shape.Layers, r29.Shape.Width, r29.Shape.Heads, r29.Shape.Inner, r29.Shape.Vocab, r29.Shape.Places⟩ : S_api_Shape), (⟨r29.Embed.Rows, r29.Embed.Cols, r29.Embed.V⟩ : S_api_Mat), r29.Blocks, r29.Last, (⟨r29.Head.Rows, r29.Head.Cols, r29.Head.V⟩ : S_api_Mat)⟩ : S_api_Weights)) = some w ∧ WOK d w ∧ w.Shape = shapeS d := by
    intro l' h'
    obtain ⟨w, e, hw, hs⟩ := of_is hd (N := N) (by omega) l' h'
    exact ⟨w, by rw [e]; rfl, hw, hs⟩
  obtain ⟨m', s', hs, e⟩ := loop_to (fun m (s : List Int) i => ref08_Made.L1 N xs (shapeS d) l m s i) (fun i => (i : Int)) (min l.length xs.length) (fun i s => s.length = countS d) (fun m i s hi hs => by
    have hi1 : i < l.length := by omega
    have hi2 : i < xs.length := by omega
    refine ⟨s.set i xs[i], by simp [hs], ?_⟩
    show ref08_Made.L1 N xs (shapeS d) l (m + 1) s (i : Int) = _
    rw [ref08_Made.L1, if_pos (by omega), decide_eq_true (by omega), ref08_Made.J2, if_pos rfl, idx_get xs i hi2, Option.bind_some, idx_get s i (by omega), Option.bind_some, W_succ i (by omega), Int.toNat_natCast]) N l (by omega) hl
  obtain ⟨w, ew, hw, hsh⟩ := hfin s' hs
  refine ⟨d, w, hd, hv, hp, hw, hsh, ?_⟩
  unfold ref08_Made
  rw [show (⟨n.c0, n.c1, n.c2, n.c3, n.c4, n.c5⟩ : A6_i64) = n from rfl, et, Option.bind_some]
  show (ref07_Grown N (shapeS d) seed).bind _ = _
  rw [el, Option.bind_some]
  refine Eq.trans e ?_
  have hJ : ref08_Made.J2 N xs (shapeS d) s' ((min l.length xs.length : Nat) : Int) (ref08_Made.L1 N xs (shapeS d) l m') false = some w := by
    unfold ref08_Made.J2
    rw [if_neg (by decide)]
    exact ew
  show ref08_Made.L1 N xs (shapeS d) l (m' + 1) s' ((min l.length xs.length : Nat) : Int) = _
  rw [ref08_Made.L1]
  by_cases c : ((min l.length xs.length : Nat) : Int) < ((l.length : Nat) : Int)
  · rw [if_pos c, decide_eq_false (by omega)]; exact hJ
  · rw [if_neg c]; exact hJ
end Go.Proofs.YtbfiagimgokccaaGreat

namespace Go.Proofs.YtbfiagimgokccaaGreat
open Go Go.Hp
set_option linter.unusedVariables false
theorem and_low (k : IntKind) (hk : k = .i64 ∨ k = .u64) (i : Nat) (hi : i < 63) (x : Int) : iand k x (2 ^ i - 1) = x % 2 ^ i := by
  have hb : k.bits = 64 := by rcases hk with rfl | rfl <;> rfl
  have hpos : 0 < 2 ^ i := Nat.two_pow_pos i
  have hlt : 2 ^ i ≤ 2 ^ 62 := Nat.pow_le_pow_right (by decide) (by omega)
  have hc : ((2 : Int) ^ i - 1) = ((2 ^ i - 1 : Nat) : Int) := by
    rw [Int.natCast_sub hpos]; simp
  have hnn : 0 ≤ x % 18446744073709551616 := Int.emod_nonneg _ (by decide)
  obtain ⟨a, ha⟩ := Int.eq_ofNat_of_zero_le hnn
  have hal : a < 18446744073709551616 := by omega
  have e1 : (BitVec.ofInt 64 x).toNat = a := by
    rw [BitVec.toNat_ofInt]
    show (x % ((2 ^ 64 : Nat) : Int)).toNat = a
    have : ((2 ^ 64 : Nat) : Int) = 18446744073709551616 := by decide
    rw [this, ha]
    rfl
  have e2 : (BitVec.ofInt 64 (((2 ^ i - 1 : Nat) : Int))).toNat = 2 ^ i - 1 := by
    rw [BitVec.ofInt_natCast, BitVec.toNat_ofNat]
    exact Nat.mod_eq_of_lt (by omega)
  have hdvd : (2 : Int) ^ i ∣ 18446744073709551616 := by
    refine ⟨2 ^ (64 - i), ?_⟩
    rw [← Int.pow_add, show i + (64 - i) = 64 by omega]
    decide
  have hmm : x % 2 ^ i = ((a % 2 ^ i : Nat) : Int) := by
    rw [← Int.emod_emod_of_dvd x hdvd, ha]
    simp
  have hml : a % 2 ^ i < 2 ^ i := Nat.mod_lt _ hpos
  rw [hc, hmm]
  have hw : ∀ z : Nat, z < 2 ^ 62 → k.wrap (z : Int) = (z : Int) := by
    intro z hz
    rcases hk with rfl | rfl
    · rw [IntKind.wrap_i64]; omega
    · rw [IntKind.wrap_u64]; omega
  have e3 : (BitVec.ofInt 64 x &&& BitVec.ofInt 64 (((2 ^ i - 1 : Nat) : Int))).toNat = a % 2 ^ i := by rw [BitVec.toNat_and, e1, e2, Nat.and_two_pow_sub_one_eq_mod]
  have e4 : iand k x (((2 ^ i - 1 : Nat) : Int)) = k.wrap ((BitVec.ofInt 64 x &&& BitVec.ofInt 64 (((2 ^ i - 1 : Nat) : Int))).toNat : Int) := by rcases hk with rfl | rfl <;> rfl
  rw [e4, e3]
  exact hw _ (by omega)
theorem shift_is (x n : Int) (hx : -9223372036854775808 ≤ x ∧ x ≤ 9223372036854775807) : round_Shift x n = some (sh x (min (max n 0) 62).toNat) := by
  obtain ⟨k, hk⟩ := Int.eq_ofNat_of_zero_le (show 0 ≤ min (max n 0) 62 by omega)
  have hk2 : k ≤ 62 := by omega
  have hp := pow_pos' k
  have h62 := pow_le62 k hk2
  have e1 : ishr .i64 x (k : Int) = x / 2 ^ k := by
    unfold ishr
    rw [show min ((k : Int).toNat) IntKind.i64.bits = k by show min ((k:Int).toNat) 64 = k; omega, Int.fdiv_eq_ediv_of_nonneg _ (by omega)]
  have e2 : ishl .u64 1 (k : Int) = 2 ^ k := by
    unfold ishl
    rw [show min ((k : Int).toNat) IntKind.u64.bits = k by show min ((k:Int).toNat) 64 = k; omega, Int.one_mul, IntKind.wrap_u64]; omega
  have e3 : ishr .u64 (2 ^ k) 1 = 2 ^ k / 2 := by
    unfold ishr
    rw [show min ((1 : Int).toNat) IntKind.u64.bits = 1 from rfl, Int.fdiv_eq_ediv_of_nonneg _ (by omega)]
    rfl
  have e4 : IntKind.u64.wrap ((2:Int) ^ k - 1) = 2 ^ k - 1 := by rw [IntKind.wrap_u64]; omega
  have e5 : iand .u64 (IntKind.u64.wrap x) (2 ^ k - 1) = x % 2 ^ k := by
    rw [and_low _ (.inr rfl) k (by omega), IntKind.wrap_u64]
    refine Int.emod_emod_of_dvd x ?_
    refine ⟨2 ^ (64 - k), ?_⟩
    rw [← Int.pow_add, show k + (64 - k) = 64 by omega]; decide
  have e6 : ∀ z : Int, iand .i64 z 1 = z % 2 := fun z => and_low .i64 (.inl rfl) 1 (by omega) z
  unfold round_Shift
  rw [hk]
  simp only [chk_ok _ (show (0:Int) ≤ (k:Int) by omega), Option.bind_some, e1, e2, e4, e5, e3, e6]
  unfold sh
  rw [Int.toNat_natCast]
  by_cases h0 : 0 < k
  · have hd := half_in x hx k h0
    have hw : IntKind.i64.wrap (x / 2 ^ k + 1) = x / 2 ^ k + 1 := W_in (by omega)
    by_cases c1 : x % 2 ^ k > 2 ^ k / 2
    · rw [if_pos c1, if_pos c1, round_Shift.J1, if_pos rfl, hw]
    · rw [if_neg c1, if_neg c1]
      by_cases c2 : x % 2 ^ k = 2 ^ k / 2
      · rw [if_pos c2, if_pos c2, if_pos (show (k : Int) > 0 by omega), if_pos h0, round_Shift.J1]
        by_cases c3 : x / 2 ^ k % 2 = 1
        · rw [if_pos (by simp only [c3, decide_true]), if_pos c3, hw]
        · rw [if_neg (by simp only [c3, decide_false]; decide), if_neg c3]
      · rw [if_neg c2, if_neg c2, round_Shift.J1, if_neg (by decide)]
  · obtain rfl : k = 0 := by omega
    have z1 : x % (2 : Int) ^ 0 = 0 := by simp
    have z2 : (2 : Int) ^ 0 / 2 = 0 := by decide
    rw [z1, z2, if_neg (by decide), if_pos rfl, if_neg (by decide), if_neg (by decide), if_pos rfl, if_neg (by decide), round_Shift.J1, if_neg (by decide)]

theorem fill_step {α : Type} (n : Nat) (f : Nat → α) (z : α) (i : Nat) : (tabl n fun k => if k < i then f k else z).set ((i : Int)).toNat (f i) = tabl n fun k => if k < i + 1 then f k else z := by
  rw [Int.toNat_natCast, tabl_set]
  refine tabl_congr fun j hj => ?_
  by_cases h : j = i
  · subst h; rw [if_pos rfl, if_pos (by omega)]
  · rw [if_neg h]
    by_cases h2 : j < i
    · rw [if_pos h2, if_pos (by omega)]
    · rw [if_neg h2, if_neg (by omega)]
theorem fill_0 {α : Type} (n : Nat) (f : Nat → α) (z : α) : List.replicate n z = tabl n fun k => if k < 0 then f k else z := by
  rw [tabl_rep]
  exact tabl_congr fun j hj => (if_neg (by omega)).symm
theorem fill_n {α : Type} (n : Nat) (f : Nat → α) (z : α) : (tabl n fun k => if k < n then f k else z) = tabl n f := tabl_congr fun j hj => if_pos hj
theorem sat32_is (x : Int) : round_Sat32 x = some (min (max x (-2147483648)) 2147483647) := by
  unfold round_Sat32 round_near_int32
  simp only [Option.bind_some]
  congr 1
  rw [IntKind.wrap_i32]; omega
theorem scale_is (x b n : Int) : round_Scale x b n = some (scl x b n (-2147483648) 2147483647) := by
  unfold round_Scale
  rw [shift_is _ _ (W_range _), Option.bind_some, sat32_is, Option.bind_some]
  rfl
end Go.Proofs.YtbfiagimgokccaaGreat

namespace Go.Proofs.YtbfiagimgokccaaGreat
open Go Go.Hp
set_option linter.unusedVariables false
theorem matP {m : S_api_Mat} {r c : Nat} (h : matR m r c) (hr : r ≤ 200) (hc : c ≤ 200) : matmul_wrong m = some false := by
  obtain ⟨h1, h2, h3⟩ := h
  have hrc : r * c ≤ 40000 := Nat.le_trans (Nat.mul_le_mul hr hc) (by decide)
  have e : ((r * c : Nat) : Int) = (r : Int) * (c : Int) := by simp
  have hs : ∀ k : Nat, k ≤ 200 → matmul_side (k : Int) = some true := fun k hk => by
    unfold matmul_side
    rw [if_pos (by omega), decide_eq_true (by omega)]
  unfold matmul_wrong
  rw [h1, h2, hs r hr, Option.bind_some, if_pos rfl, hs c hc, Option.bind_some, if_pos rfl, h3, W_in (by rw [← e]; omega), if_neg (by rw [← e]; omega), decide_eq_false (by omega)]
theorem pjoin_is {N : Nat} (x y : List Int) (by_ n : Int) (h : y.length = x.length) (hl : x.length ≤ 200) (hN : 200 < N) : norm_Join N x y by_ n = some (joinS x y by_ n, 0) := by
  have hs : ∀ a b : Int, round_Sum N [a, b] = some (IntKind.i32.wrap (a + b)) := fun a b => by
    obtain ⟨k, rfl⟩ : ∃ k, N = k + 3 := ⟨N - 3, by omega⟩
    unfold round_Sum
    rw [round_Sum.L1, if_pos (by simp), show idx [a, b] 0 = some a from rfl, Option.bind_some, Option.bind_some, show IntKind.i64.wrap (0 + 1) = 1 from rfl, round_Sum.L1, if_pos (by simp), show idx [a, b] 1 = some b from rfl, Option.bind_some, Option.bind_some, show IntKind.i64.wrap (1 + 1) = 2 from rfl, round_Sum.L1, if_neg (by simp)]
    congr 1
    simp only [IntKind.wrap_i32, IntKind.wrap_u32]
    omega
  unfold norm_Join
  rw [if_neg (by omega), chk_ok _ (by omega), Int.toNat_natCast, fill_0 x.length (fun i => IntKind.i32.wrap (x.getD i 0 + scl (y.getD i 0) by_ n (-2147483648) 2147483647)) 0]
  refine loop_c (fun k (s : List Int) i => norm_Join.L1 N x y by_ n k s i) (fun i => tabl x.length fun k => if k < i then IntKind.i32.wrap (x.getD k 0 + scl (y.getD k 0) by_ n (-2147483648) 2147483647) else 0) x.length _ (fun k i hi => ?_) (fun k => ?_) N (by omega)
  · show norm_Join.L1 N x y by_ n (k + 1) _ (i : Int) = norm_Join.L1 N x y by_ n k _ _
    rw [norm_Join.L1, if_pos (by omega), idx_d x 0 hi, Option.bind_some, idx_d y 0 (by omega), Option.bind_some, scale_is, Option.bind_some, hs, Option.bind_some, idx_t _ hi, Option.bind_some, W_succ i (by omega), fill_step x.length (fun i => IntKind.i32.wrap (x.getD i 0 + scl (y.getD i 0) by_ n (-2147483648) 2147483647)) 0 i]
  · show norm_Join.L1 N x y by_ n (k + 1) _ (x.length : Int) = _
    rw [norm_Join.L1, if_neg (by omega), fill_n]
    rfl
end Go.Proofs.YtbfiagimgokccaaGreat
end
section
namespace Go.Proofs.YtbfiagimgokccaaGreat
open Go Go.Hp
set_option linter.unusedVariables false
set_option linter.unusedSimpArgs false
set_option linter.unusedSectionVars false
theorem tmodN (a b : Nat) : Int.tmod (a : Int) (b : Int) = ((a % b : Nat) : Int) := by rw [Int.tmod_eq_emod_of_nonneg (by omega)]; simp
theorem tdivN (a b : Nat) : Int.tdiv (a : Int) (b : Int) = ((a / b : Nat) : Int) := by rw [Int.tdiv_eq_ediv_of_nonneg (by omega)]; simp
theorem mulN (a b : Nat) (h : a * b ≤ 4611686018427387904) : IntKind.i64.wrap ((a : Int) * (b : Int)) = ((a * b : Nat) : Int) := by
  rw [show (a : Int) * (b : Int) = ((a * b : Nat) : Int) by simp, W_in (by omega)]
theorem W_nat (k : Nat) (h : k ≤ 4611686018427387904) : IntKind.i64.wrap (k : Int) = (k : Int) := W_in (by omega)
structure Cu where
  st : Nat
  pa : Nat
structure COK (d : Dim) (c : Cu) : Prop where
  st : 0 < c.st ∧ c.st ≤ d.ly
  pa : 0 < c.pa ∧ c.pa ≤ d.h
  h : d.h % c.pa = 0
  inn : d.inn % c.pa = 0
def cutS (c : Cu) : S_api_Cut := ⟨(c.st : Int), (c.pa : Int)⟩
def sp (i n m : Nat) : Nat := i * n / m
theorem sp_le (i n m : Nat) : sp i n m ≤ sp (i + 1) n m := Nat.div_le_div_right (Nat.mul_le_mul_right n (by omega))
theorem sp_in (i n m : Nat) (hm : 0 < m) (hi : i ≤ m) : sp i n m ≤ n := by
  have h : i * n ≤ m * n := Nat.mul_le_mul_right n hi
  exact Nat.le_trans (Nat.div_le_div_right h) (by rw [Nat.mul_comm, Nat.mul_div_cancel _ hm]; exact Nat.le_refl _)
theorem sp_even (i n m : Nat) (hm : 0 < m) (h : n % m = 0) : sp i n m = i * (n / m) := by
  obtain ⟨q, hq⟩ := Nat.dvd_of_mod_eq_zero h
  subst hq
  unfold sp
  rw [Nat.mul_div_cancel_left _ hm, Nat.mul_left_comm, Nat.mul_div_cancel_left _ hm]
theorem span_is (i n m : Nat) (hm : 0 < m) (hi : i ≤ 1000) (hn : n ≤ 1000) : ref10_Span (i : Int) (n : Int) (m : Int) = some ⟨((sp i n m : Nat) : Int), ((sp (i + 1) n m : Nat) : Int)⟩ := by
  have h1 : i * n ≤ 1000 * 1000 := Nat.mul_le_mul hi hn
  have h2 : (i + 1) * n ≤ 1001 * 1000 := Nat.mul_le_mul (by omega) hn
  have h3 : i * n / m ≤ i * n := Nat.div_le_self _ _
  have h4 : (i + 1) * n / m ≤ (i + 1) * n := Nat.div_le_self _ _
  unfold ref10_Span sp
  rw [chk_ok _ (by omega), chk_ok _ (by omega), mulN i n (by omega), W_succ i (by omega), mulN (i + 1) n (by omega), tdivN, tdivN, W_nat _ (Nat.le_trans h3 (Nat.le_trans h1 (by decide))), W_nat _ (Nat.le_trans h4 (Nat.le_trans h2 (by decide)))]
theorem pspan_is (i n m : Nat) (him : i < m) (hi : i ≤ 1000) (hn : n ≤ 1000) : slice_span true (i : Int) (n : Int) (m : Int) = some (⟨((sp i n m : Nat) : Int), ((sp (i + 1) n m : Nat) : Int)⟩, 0) := by
  have h1 : i * n ≤ 1000 * 1000 := Nat.mul_le_mul hi hn
  have h2 : (i + 1) * n ≤ 1001 * 1000 := Nat.mul_le_mul (by omega) hn
  have h3 : i * n / m ≤ i * n := Nat.div_le_self _ _
  have h4 : (i + 1) * n / m ≤ (i + 1) * n := Nat.div_le_self _ _
  unfold slice_span sp
  rw [if_pos rfl, if_neg (by omega), if_neg (by omega), chk_ok _ (by omega), chk_ok _ (by omega), mulN i n (by omega), W_succ i (by omega), mulN (i + 1) n (by omega), tdivN, tdivN, W_nat _ (Nat.le_trans h3 (Nat.le_trans h1 (by decide))), W_nat _ (Nat.le_trans h4 (Nat.le_trans h2 (by decide)))]
def partM (m : S_api_Mat) (cols r0 r1 c0 c1 : Nat) : S_api_Mat := ⟨((r1 - r0 : Nat) : Int), ((c1 - c0 : Nat) : Int), tabl ((r1 - r0) * (c1 - c0)) fun k => m.V.getD ((r0 + k / (c1 - c0)) * cols + (c0 + k % (c1 - c0))) 0⟩
theorem partM_R (m : S_api_Mat) (cols r0 r1 c0 c1 : Nat) : matR (partM m cols r0 r1 c0 c1) (r1 - r0) (c1 - c0) := ⟨rfl, rfl, tabl_len _ _⟩
theorem divmod_at (i w j : Nat) (hj : j < w) : (i * w + j) / w = i ∧ (i * w + j) % w = j := by
  rw [Nat.mul_comm i w]
  exact ⟨by rw [Nat.mul_add_div (by omega), Nat.div_eq_of_lt hj, Nat.add_zero], by rw [Nat.mul_add_mod, Nat.mod_eq_of_lt hj]⟩
theorem partOf_is {N : Nat} (hN : 300 < N) {m : S_api_Mat} {rows cols : Nat} (h : matR m rows cols) (hr : rows ≤ 200) (hc : cols ≤ 200) (r0 r1 c0 c1 : Nat) (h1 : r0 ≤ r1) (h2 : r1 ≤ rows) (h3 : c0 ≤ c1) (h4 : c1 ≤ cols) (h5 : c0 < c1) :
    ref04_Part N m (r0 : Int) (r1 : Int) (c0 : Int) (c1 : Int) = some (partM m cols r0 r1 c0 c1) := by
  have hrc : rows * cols ≤ 40000 := Nat.le_trans (Nat.mul_le_mul hr hc) (by decide)
  unfold ref04_Part
  let f : Nat → Int := fun k => m.V.getD ((r0 + k / (c1 - c0)) * cols + (c0 + k % (c1 - c0))) 0
  obtain ⟨m', s', hs, e⟩ := loop_to (fun q (s : List Int) i => ref04_Part.L1 N m (r0 : Int) (r1 : Int) (c0 : Int) (c1 : Int) q s i) (fun i => ((r0 + i : Nat) : Int)) (r1 - r0) (fun i s => s = tabl (i * (c1 - c0)) f) (fun q i s hi hs => by
    subst hs
    have hb : (r0 + i + 1) * cols ≤ rows * cols := Nat.mul_le_mul_right _ (by omega)
    have hb2 : (r0 + i + 1) * cols = (r0 + i) * cols + cols := Nat.succ_mul _ _
    have hi1 : (i + 1) * (c1 - c0) = i * (c1 - c0) + (c1 - c0) := Nat.succ_mul _ _
    have hi2 : (i + 1) * (c1 - c0) ≤ 200 * 200 := Nat.mul_le_mul (by omega) (by omega)
    refine ⟨tabl ((i + 1) * (c1 - c0)) f, rfl, ?_⟩
    show ref04_Part.L1 N m (r0 : Int) (r1 : Int) (c0 : Int) (c1 : Int) (q + 1) _ ((r0 + i : Nat) : Int) = _
    rw [ref04_Part.L1, if_pos (by omega)]
    obtain ⟨m2, s2, hs2, e2⟩ := loop_to (fun t (s : List Int) j => ref04_Part.L2 m (c1 : Int) ((r0 + i : Nat) : Int) (ref04_Part.L1 N m (r0 : Int) (r1 : Int) (c0 : Int) (c1 : Int) q) t s j) (fun j => ((c0 + j : Nat) : Int)) (c1 - c0) (fun j s => s = tabl (i * (c1 - c0) + j) f) (fun t j s hj hs => by
      subst hs
      obtain ⟨e1, e2⟩ := divmod_at i (c1 - c0) j hj
      refine ⟨tabl (i * (c1 - c0) + (j + 1)) f, rfl, ?_⟩
      show ref04_Part.L2 m (c1 : Int) ((r0 + i : Nat) : Int) _ (t + 1) _ ((c0 + j : Nat) : Int) = _
      have ew : IntKind.i64.wrap (IntKind.i64.wrap (((r0 + i : Nat) : Int) * m.Cols) + ((c0 + j : Nat) : Int)) = (((r0 + i) * cols + (c0 + j) : Nat) : Int) := by
        rw [h.2.1, mulN _ _ (by omega), W_in (by omega)]; omega
      rw [ref04_Part.L2, if_pos (by omega), ew, idx_d m.V 0 (by rw [h.2.2]; omega), Option.bind_some, app_ok _ _ (by rw [tabl_len]; simp only [List.length_cons, List.length_nil]; omega), Option.bind_some, W_succ _ (by omega), ← Nat.add_assoc (i * (c1 - c0)) j 1, tabl_succ]
      have ef : f (i * (c1 - c0) + j) = m.V.getD ((r0 + i) * cols + (c0 + j)) 0 := by
        show m.V.getD ((r0 + (i * (c1 - c0) + j) / (c1 - c0)) * cols + (c0 + (i * (c1 - c0) + j) % (c1 - c0))) 0 = _
        rw [e1, e2]
      rw [ef]
      rfl) N (tabl (i * (c1 - c0)) f) (by omega) rfl
    refine Eq.trans e2 ?_
    show ref04_Part.L2 m (c1 : Int) ((r0 + i : Nat) : Int) _ (m2 + 1) s2 ((c0 + (c1 - c0) : Nat) : Int) = _
    rw [ref04_Part.L2, if_neg (by omega), W_succ _ (by omega), hs2, ← hi1]
    rfl) N [] (by omega) (by rw [Nat.zero_mul]; rfl)
  rw [show ((r0 : Nat) : Int) = ((r0 + 0 : Nat) : Int) by omega]
  refine Eq.trans e ?_
  show ref04_Part.L1 N m (r0 : Int) (r1 : Int) (c0 : Int) (c1 : Int) (m' + 1) s' ((r0 + (r1 - r0) : Nat) : Int) = _
  rw [ref04_Part.L1, if_neg (by omega), hs, W_in (by omega), W_in (by omega)]
  unfold partM
  congr 2
  · omega
  · omega
section
variable {d : Dim} (hd : DOK d)
include hd
theorem cut_is {N : Nat} (hN : 200 < N) (a b : Int) : ∃ c : Cu, COK d c ∧ ref10_Cut N (shapeS d) a b = some (cutS c) := by
  have hh := hd.h; have hly := hd.ly; have hi := hd.inn
  have key : ∀ (q m i : Nat) (l : List Int), i + q = d.h + 1 → q < m → 0 < i → (∀ v ∈ l, ∃ n : Nat, v = (n : Int) ∧ 0 < n ∧ n ≤ d.h ∧ d.h % n = 0 ∧ d.inn % n = 0) → l.length < i → (1 < i → l ≠ []) → ∃ c, COK d c ∧ ref10_Cut.L1 (shapeS d) a b m l (i : Int) = some (cutS c) := by
    intro q
    induction q with
    | zero =>
      intro m i l hi hm h0 hl hll hne
      obtain ⟨m, rfl⟩ : ∃ q, m = q + 1 := ⟨m - 1, by omega⟩
      have hpos : 0 < l.length := List.length_pos_iff.2 (hne (by omega))
      obtain ⟨k, hk, ek⟩ := W_restN b l.length hpos (by omega)
      obtain ⟨j, hj, ej⟩ := W_restN a d.ly (by omega) (by omega)
      obtain ⟨n, en, n0, n1, n2, n3⟩ := hl _ (List.getElem_mem hk)
      refine ⟨⟨j + 1, n⟩, ⟨⟨by dsimp only; omega, by dsimp only; omega⟩, ⟨n0, n1⟩, n2, n3⟩, ?_⟩
      rw [ref10_Cut.L1]
      show (if (i : Int) ≤ (d.h : Int) then _ else chk ((d.ly : Int) ≠ 0) (chk ((d.ly : Int) ≠ 0) (chk (((l.length : Nat) : Int) ≠ 0) (chk (((l.length : Nat) : Int) ≠ 0) ((idx l (Int.tmod (IntKind.i64.wrap ((Int.tmod b ((l.length : Nat) : Int)) + ((l.length : Nat) : Int))) ((l.length : Nat) : Int))).bind fun y20 => some (⟨(IntKind.i64.wrap (1 + (Int.tmod (IntKind.i64.wrap ((Int.tmod a (d.ly : Int)) + (d.ly : Int))) (d.ly : Int)))), y20⟩ : S_api_Cut)))))) = _
      rw [if_neg (by omega), chk_ok _ (by omega), chk_ok _ (by omega), chk_ok _ (by omega), chk_ok _ (by omega), ek, ej, idx_get l k hk, Option.bind_some, W_in (by omega), en]
      unfold cutS
      congr 2
      show 1 + (j : Int) = ((j + 1 : Nat) : Int)
      omega
    | succ q ih =>
      intro m i l hi hm h0 hl hll hne
      obtain ⟨m, rfl⟩ : ∃ q, m = q + 1 := ⟨m - 1, by omega⟩
      have j3 : ∀ z : Bool, (z = true → d.h % i = 0 ∧ d.inn % i = 0) → (i = 1 → z = true) → ∃ c, COK d c ∧ ref10_Cut.J3 l (i : Int) (ref10_Cut.L1 (shapeS d) a b m) z = some (cutS c) := by
        intro z hz h1
        unfold ref10_Cut.J3 ref10_Cut.J2
        cases z with
        | true =>
          obtain ⟨z1, z2⟩ := hz rfl
          rw [if_pos rfl, app_ok _ _ (by simp only [List.length_cons, List.length_nil]; omega), Option.bind_some, W_succ i (by omega)]
          refine ih m (i + 1) _ (by omega) (by omega) (by omega) (fun v hv => ?_) (by simp; omega) (fun _ => by simp)
          rcases List.mem_append.1 hv with h | h
          · exact hl v h
          · rw [List.mem_singleton] at h
            exact ⟨i, h, by omega, by omega, z1, z2⟩
        | false =>
          rw [if_neg (by decide), W_succ i (by omega)]
          refine ih m (i + 1) l (by omega) (by omega) (by omega) hl (by omega) (fun h => hne (by
            rcases Nat.lt_or_ge 1 i with h2 | h2
            · exact h2
            · have : i = 1 := by omega
              have := h1 this
              cases this))
      rw [ref10_Cut.L1]
      show ∃ c, COK d c ∧ (if (i : Int) ≤ (d.h : Int) then chk ((i : Int) ≠ 0) (if Int.tmod (d.h : Int) (i : Int) = 0 then chk ((i : Int) ≠ 0) (ref10_Cut.J3 l (i : Int) (ref10_Cut.L1 (shapeS d) a b m) (decide (Int.tmod (d.inn : Int) (i : Int) = 0))) else ref10_Cut.J3 l (i : Int) (ref10_Cut.L1 (shapeS d) a b m) false) else _) = some (cutS c)
      rw [if_pos (by omega), chk_ok _ (by omega), tmodN, tmodN]
      by_cases c1 : ((d.h % i : Nat) : Int) = 0
      · rw [if_pos c1, chk_ok _ (by omega)]
        refine j3 _ (fun e => ⟨by omega, by have := of_decide_eq_true e; omega⟩) (fun e => ?_)
        subst e
        rw [Nat.mod_one]; rfl
      · rw [if_neg c1]
        refine j3 false (fun e => by cases e) (fun e => ?_)
        subst e
        rw [Nat.mod_one] at c1
        exact absurd rfl c1
  exact key d.h N 1 [] (by omega) (by omega) (by omega) (by simp) (by simp) (fun h => by omega)
end
end Go.Proofs.YtbfiagimgokccaaGreat
end
