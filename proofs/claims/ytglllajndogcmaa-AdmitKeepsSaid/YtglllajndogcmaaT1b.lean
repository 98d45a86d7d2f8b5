/- Functions of the program as plain functions, and the proofs that walks compute them. Printed by a program of this session. -/
import Derived.Test.YtglllajndogcmaaT1
namespace Go.Proofs.Ytglllajndogcmaa
open Go Go.RowKit Go.Hp
set_option linter.unusedVariables false
set_option linter.unusedSimpArgs false
set_option maxRecDepth 100000

-- FN (*peloton/pelotonref21.Desk).Take
def ref21_Desk_Take (x0 : S_ref21_Desk) : Option (S_api_Request × Bool × S_ref21_Desk) :=
  if ((x0.L.length : Nat) : Int) = 0 then
    some ((⟨0, 0, []⟩ : S_api_Request), false, x0)
  else
    (idx x0.L (0 : Int)).bind fun y13 =>
    chk (0 ≤ (1 : Int) ∧ (1 : Int) ≤ ((x0.L.length : Nat) : Int) ∧ ((x0.L.length : Nat) : Int) ≤ ((x0.L.length : Nat) : Int)) <|
    (app ([]) ((x0.L.take (((x0.L.length : Nat) : Int)).toNat).drop ((1 : Int)).toNat)).bind fun z34 =>
    some ((⟨y13.ID, y13.Most, y13.Prompt⟩ : S_api_Request), true, (⟨x0.S, x0.Room, z34, x0.Ids⟩ : S_ref21_Desk))

set_option maxHeartbeats 2000000 in
theorem ref21_Desk_Take_any {b0 : Nat} {x0 : S_ref21_Desk} {Fr : List HP} {w : World} {r : S_api_Request × Bool × S_ref21_Desk} {K : Value → World → Prop}  (hc : Ctx w (S_ref21_Desk.hp b0 x0 :: Fr)) (hp : ref21_Desk_Take x0 = some r)
    (k : ∀ (a43 : Option Addr) (n44 : Nat) (q45 : Nat) w', Ctx w' (Hold (pRo (pInt .i64)) [.slice a43 n44 q45] r.1.Prompt :: S_ref21_Desk.hp b0 r.2.2 :: Fr) → K (.tuple #[.agg #[.int .i64 r.1.ID, .int .i64 r.1.Most, .slice a43 n44 q45], .bool r.2.1]) w') : Calls Try.prog 17 #[.pointer (some ⟨b0, 0, none⟩)] w (Ret K) := by
 unfold ref21_Desk_Take at hp
 refine Center (args := [.pointer (some ⟨b0, 0, none⟩)]) (l := [(0, .pointer (some ⟨b0, 0, none⟩))]) Try.func17 Try.ntmps17 rfl rfl rfl ?_
 refine Wseq ?_
 refine Wreg ?_
 refine rsE (Ctx.allocOp (cs := [.int .i64 0, .int .i64 0, .slice none 0 0]) hc Try.zeroValue24 rfl) rfl ?_
 clear hc; rintro _ w3 ⟨b1, rfl, hc⟩
 refine rs (v := .bool false) (av (v := .bool false) rfl) rfl ?_
 refine rn ?_
 refine qn ?_
 refine Wseq ?_
 refine Wseq ?_
 refine Wreg ?_
 refine rs (v := .pointer (some ⟨b0, 0, none⟩)) (mv (v := .pointer (some ⟨b0, 0, none⟩)) rfl) rfl ?_
 refine rs (v := .pointer (some ⟨b0, 0, none⟩)) (nl rfl) rfl ?_
 refine rs (v := .pointer (some ⟨b0, 7, none⟩)) (fax 7 rfl Try.underlying47 rfl Try.sizeOf45 rfl rfl rfl) rfl ?_
 replace hc := hc.pull 1 rfl rfl
 replace hc := Ctx.exF hc; obtain ⟨v4, hc⟩ := hc
 replace hc := Ctx.exF hc; obtain ⟨v5, hc⟩ := hc
 replace hc := Ctx.sepF hc
 replace hc := Ctx.sepF hc
 obtain ⟨a6, q7, u8⟩ := hc.rd (k := 1) rfl rfl reads_own; subst u8
 obtain ⟨a9, q10, u11⟩ := hc.rd (k := 2) rfl rfl reads_own; subst u11
 refine rs (v := .slice a6 x0.L.length q7) (ld rfl Try.isAgg45 (Ctx.cell hc (k := 0) rfl rfl rfl)) rfl ?_
 refine rs (v := .int .i64 ((x0.L.length : Nat) : Int)) (ln rfl Try.underlying45) rfl ?_
 refine rs (v := .bool (decide (((x0.L.length : Nat) : Int) = 0))) (eqd rfl rfl) rfl ?_
 refine rn ?_
 refine qn ?_
 cases hb12 : (decide (((x0.L.length : Nat) : Int) = 0))
 · replace hp := gneg hp (of_decide_eq_false hb12)
   refine Wcf rfl ?_
   refine Wskip ?_
   refine qn ?_
   refine Wseq ?_
   refine Wreg ?_
   refine rs (v := .pointer (some ⟨b0, 0, none⟩)) (mv (v := .pointer (some ⟨b0, 0, none⟩)) rfl) rfl ?_
   refine rs (v := .pointer (some ⟨b0, 0, none⟩)) (nl rfl) rfl ?_
   refine rs (v := .pointer (some ⟨b0, 7, none⟩)) (fax 7 rfl Try.underlying47 rfl Try.sizeOf45 rfl rfl rfl) rfl ?_
   refine rs (v := .slice a6 x0.L.length q7) (ld rfl Try.isAgg45 (Ctx.cell hc (k := 0) rfl rfl rfl)) rfl ?_
   replace hp := bind_some hp; obtain ⟨y13, hy13, hp⟩ := hp
   obtain ⟨b16, o17, u18, hi14, hi15⟩ := Ctx.rdAt hc (k := 1) rfl rfl reads_own hy13
   subst u18
   refine rs (v := .pointer (some ⟨b16, o17 + ((0 : Int)).toNat * 3, none⟩)) (ixx rfl rfl Try.underlying45 Try.sizeOf24 hi14 hi15 rfl) rfl ?_
   replace hc := Ctx.rdCell hc (k := 1) rfl rfl reads_own hy13; obtain ⟨cs19, hc, hcell20⟩ := hc
   replace hc := S_api_Request.op hc; obtain ⟨a22, q23, u21, hc⟩ := hc; subst u21
   refine rs (v := .agg #[.int .i64 y13.ID, .int .i64 y13.Most, .slice a22 y13.Prompt.length q23]) (ldg rfl Try.isAgg24 Try.sizeOf24 rfl (elCells hcell20 0 (vs := [.int .i64 y13.ID, .int .i64 y13.Most, .slice a22 y13.Prompt.length q23]) rfl)) rfl ?_
   refine rsE (Ctx.allocOp (cs := [.int .i64 0, .int .i64 0, .slice none 0 0]) hc Try.zeroValue24 rfl) rfl ?_
   clear hc; rintro _ w26 ⟨b24, rfl, hc⟩
   refine ruE (A := fun w' => Ctx w' (B b24 [.int .i64 y13.ID, .int .i64 y13.Most, .slice a22 y13.Prompt.length q23] 24 :: Hold (pRo (pInt .i64)) [.slice a22 y13.Prompt.length q23] y13.Prompt :: B b0 [.int .i64 x0.S.Layers, .int .i64 x0.S.Width, .int .i64 x0.S.Heads, .int .i64 x0.S.Inner, .int .i64 x0.S.Vocab, .int .i64 x0.S.Places, .int .i64 x0.Room, .slice (some ⟨b16, o17, none⟩) x0.L.length q7, .slice a9 x0.Ids.length q10] 47 :: Own S_api_Request.pr 24 (.slice (some ⟨b16, o17, none⟩) x0.L.length q7) x0.L :: Own (pInt .i64) 3 (.slice a9 x0.Ids.length q10) x0.Ids :: B b1 [.int .i64 0, .int .i64 0, .slice none 0 0] 24 :: Fr)) (Ctx.putAgg hc (k := 0) rfl rfl (vs := [.int .i64 y13.ID, .int .i64 y13.Most, .slice a22 y13.Prompt.length q23]) rfl rfl rfl Try.sizeOf24 rfl rfl rfl) rfl ?_
   clear hc; rintro w27 hc
   refine rn ?_
   refine qn ?_
   refine Wseq ?_
   refine Wreg ?_
   refine rs (v := .slice none 0 0) (av (v := .slice none 0 0) rfl) rfl ?_
   refine rn ?_
   refine qn ?_
   refine Wseq ?_
   refine Wreg ?_
   refine rs (v := .pointer (some ⟨b0, 0, none⟩)) (mv (v := .pointer (some ⟨b0, 0, none⟩)) rfl) rfl ?_
   refine rs (v := .slice none 0 0) (mv (v := .slice none 0 0) rfl) rfl ?_
   refine rs (v := .pointer (some ⟨b0, 0, none⟩)) (mv (v := .pointer (some ⟨b0, 0, none⟩)) rfl) rfl ?_
   refine rs (v := .pointer (some ⟨b0, 0, none⟩)) (nl rfl) rfl ?_
   refine rs (v := .pointer (some ⟨b0, 7, none⟩)) (fax 7 rfl Try.underlying47 rfl Try.sizeOf45 rfl rfl rfl) rfl ?_
   refine rs (v := .slice (some ⟨b16, o17, none⟩) x0.L.length q7) (ld rfl Try.isAgg45 (Ctx.cell hc (k := 2) rfl rfl rfl)) rfl ?_
   replace hp := chk_some hp; obtain ⟨hg28, hp⟩ := hp
   refine rsE (Ctx.subOp (li := some (1 : Int)) (hi' := none) hc (k := 3) rfl rfl reads_own rfl ⟨_, rfl⟩ trivial Try.underlying45 Try.sizeOf24 hg28) rfl ?_
   rintro _ _ ⟨rfl, a29, q30, rfl, rd31, ea32, eq33⟩
   replace rd31 : Reads (Own S_api_Request.pr 24 (.slice (some ⟨b16, o17, none⟩) x0.L.length q7) x0.L) S_api_Request.pr (.slice a29 ((((x0.L.length : Nat) : Int)).toNat - ((1 : Int)).toNat) q30) ((x0.L.take (((x0.L.length : Nat) : Int)).toNat).drop ((1 : Int)).toNat) := rd31
   replace hc := hc.nilOwn S_api_Request.pr 24
   replace hp := bind_some hp; obtain ⟨z34, hz34, hp⟩ := hp
   obtain ⟨hg35, e36⟩ := app_some hz34
   refine rsE (Ctx.append hc (k := 0) rfl rfl (k2 := 4) rfl rfl rd31 Try.underlying45 (i := Try.t24) rfl rfl rfl rfl rfl rfl rfl rfl hg35) rfl ?_
   clear hc; rintro _ w39 ⟨a37, q38, rfl, hc⟩
   rw [← e36] at hc ⊢
   refine rs (v := .pointer (some ⟨b0, 0, none⟩)) (nl rfl) rfl ?_
   refine rs (v := .pointer (some ⟨b0, 7, none⟩)) (fax 7 rfl Try.underlying47 rfl Try.sizeOf45 rfl rfl rfl) rfl ?_
   refine ruE (A := fun w' => Ctx w' (Own S_api_Request.pr 24 (.slice a37 z34.length q38) z34 :: B b24 [.int .i64 y13.ID, .int .i64 y13.Most, .slice a22 y13.Prompt.length q23] 24 :: Hold (pRo (pInt .i64)) [.slice a22 y13.Prompt.length q23] y13.Prompt :: B b0 [.int .i64 x0.S.Layers, .int .i64 x0.S.Width, .int .i64 x0.S.Heads, .int .i64 x0.S.Inner, .int .i64 x0.S.Vocab, .int .i64 x0.S.Places, .int .i64 x0.Room, .slice a37 z34.length q38, .slice a9 x0.Ids.length q10] 47 :: Own S_api_Request.pr 24 (.slice (some ⟨b16, o17, none⟩) x0.L.length q7) x0.L :: Own (pInt .i64) 3 (.slice a9 x0.Ids.length q10) x0.Ids :: B b1 [.int .i64 0, .int .i64 0, .slice none 0 0] 24 :: Fr)) (Ctx.putOp hc (k := 3) rfl rfl (v := .slice a37 z34.length q38) rfl rfl rfl Try.sizeOf45 rfl rfl rfl) rfl ?_
   clear hc; rintro w40 hc
   refine rn ?_
   refine qn ?_
   refine Wseq ?_
   refine Wreg ?_
   refine rs (v := .agg #[.int .i64 y13.ID, .int .i64 y13.Most, .slice a22 y13.Prompt.length q23]) (ldg rfl Try.isAgg24 Try.sizeOf24 rfl (Ctx.cells hc (k := 1) rfl rfl 0 (vs := [.int .i64 y13.ID, .int .i64 y13.Most, .slice a22 y13.Prompt.length q23]) rfl)) rfl ?_
   refine ruE (A := fun w' => Ctx w' (Own S_api_Request.pr 24 (.slice a37 z34.length q38) z34 :: B b24 [.int .i64 y13.ID, .int .i64 y13.Most, .slice a22 y13.Prompt.length q23] 24 :: Hold (pRo (pInt .i64)) [.slice a22 y13.Prompt.length q23] y13.Prompt :: B b0 [.int .i64 x0.S.Layers, .int .i64 x0.S.Width, .int .i64 x0.S.Heads, .int .i64 x0.S.Inner, .int .i64 x0.S.Vocab, .int .i64 x0.S.Places, .int .i64 x0.Room, .slice a37 z34.length q38, .slice a9 x0.Ids.length q10] 47 :: Own S_api_Request.pr 24 (.slice (some ⟨b16, o17, none⟩) x0.L.length q7) x0.L :: Own (pInt .i64) 3 (.slice a9 x0.Ids.length q10) x0.Ids :: B b1 [.int .i64 y13.ID, .int .i64 y13.Most, .slice a22 y13.Prompt.length q23] 24 :: Fr)) (Ctx.putAgg hc (k := 6) rfl rfl (vs := [.int .i64 y13.ID, .int .i64 y13.Most, .slice a22 y13.Prompt.length q23]) rfl rfl rfl Try.sizeOf24 rfl rfl rfl) rfl ?_
   clear hc; rintro w41 hc
   refine rs (v := .bool true) (av (v := .bool true) rfl) rfl ?_
   refine rn ?_
   refine qn ?_
   refine Wret ?_
   have hres := Ctx.cells hc (k := 6) rfl rfl 0 (vs := [.int .i64 y13.ID, .int .i64 y13.Most, .slice a22 y13.Prompt.length q23]) rfl
   replace hc := hc.dup (k := 2) rfl rfl
   replace hc := hc.pull 6 rfl rfl
   replace hc := hc.pull 2 rfl rfl
   replace hc := hc.pull 5 rfl rfl
   replace hc : Ctx w41 (S_ref21_Desk.hp b0 (⟨x0.S, x0.Room, z34, x0.Ids⟩ : S_ref21_Desk) :: Hold (pRo (pInt .i64)) [.slice a22 y13.Prompt.length q23] y13.Prompt :: B b24 [.int .i64 y13.ID, .int .i64 y13.Most, .slice a22 y13.Prompt.length q23] 24 :: Hold (pRo (pInt .i64)) [.slice a22 y13.Prompt.length q23] y13.Prompt :: Own S_api_Request.pr 24 (.slice (some ⟨b16, o17, none⟩) x0.L.length q7) x0.L :: B b1 [.int .i64 y13.ID, .int .i64 y13.Most, .slice a22 y13.Prompt.length q23] 24 :: Fr) := Ctx.exB _ _ (Ctx.exB _ _ (Ctx.sepB (Ctx.sepB hc)))
   replace hc := hc.rem 5 rfl rfl
   replace hc := hc.rem 4 rfl rfl
   replace hc := hc.rem 3 rfl rfl
   replace hc := hc.rem 2 rfl rfl
   replace hc := hc.pull 1 rfl rfl
   injection hp with hp; subst hp
   refine f2c (cs := [.int .i64 y13.ID, .int .i64 y13.Most, .slice a22 y13.Prompt.length q23]) (u := .bool true) Try.results17 Try.ntmps17 rfl Try.isAgg24 Try.sizeOf24 rfl hres rfl ?_
   exact ⟨_, rfl, k _ _ _ _ hc⟩
 · replace hp := gpos hp (of_decide_eq_true hb12)
   refine Wct rfl ?_
   refine Wseq ?_
   refine Wreg ?_
   refine rs (v := .agg #[.int .i64 0, .int .i64 0, .slice none 0 0]) (bd_24_ ) rfl ?_
   refine ruE (A := fun w' => Ctx w' (B b0 [.int .i64 x0.S.Layers, .int .i64 x0.S.Width, .int .i64 x0.S.Heads, .int .i64 x0.S.Inner, .int .i64 x0.S.Vocab, .int .i64 x0.S.Places, .int .i64 x0.Room, .slice a6 x0.L.length q7, .slice a9 x0.Ids.length q10] 47 :: Own S_api_Request.pr 24 (.slice a6 x0.L.length q7) x0.L :: Own (pInt .i64) 3 (.slice a9 x0.Ids.length q10) x0.Ids :: B b1 [.int .i64 0, .int .i64 0, .slice none 0 0] 24 :: Fr)) (Ctx.putAgg hc (k := 3) rfl rfl (vs := [.int .i64 0, .int .i64 0, .slice none 0 0]) rfl rfl rfl Try.sizeOf24 rfl rfl rfl) rfl ?_
   clear hc; rintro w42 hc
   refine rs (v := .bool false) (av (v := .bool false) rfl) rfl ?_
   refine rn ?_
   refine qn ?_
   refine Wret ?_
   refine qr ?_
   have hres := Ctx.cells hc (k := 3) rfl rfl 0 (vs := [.int .i64 0, .int .i64 0, .slice none 0 0]) rfl
   replace hc := hc.nilRo (pInt .i64)
   replace hc := hc.dup (k := 0) rfl rfl
   replace hc := hc.pull 4 rfl rfl
   replace hc := hc.pull 4 rfl rfl
   replace hc := hc.pull 4 rfl rfl
   replace hc : Ctx w42 (S_ref21_Desk.hp b0 x0 :: Hold (pRo (pInt .i64)) [.slice none 0 0] ([]) :: Hold (pRo (pInt .i64)) [.slice none 0 0] ([]) :: B b1 [.int .i64 0, .int .i64 0, .slice none 0 0] 24 :: Fr) := Ctx.exB _ _ (Ctx.exB _ _ (Ctx.sepB (Ctx.sepB hc)))
   replace hc := hc.rem 3 rfl rfl
   replace hc := hc.rem 2 rfl rfl
   replace hc := hc.pull 1 rfl rfl
   injection hp with hp; subst hp
   refine f2c (cs := [.int .i64 0, .int .i64 0, .slice none 0 0]) (u := .bool false) Try.results17 Try.ntmps17 rfl Try.isAgg24 Try.sizeOf24 rfl hres rfl ?_
   exact ⟨_, rfl, k _ _ _ _ hc⟩

-- FN peloton/pelotonlaw21.shape
theorem bd_31_0_1_2_3_4_5 {ρ : Operand → Value} {w : World} {dst : Option Nat} {ty : TypeId} {pos : String} {after : Array Edge} {g : Option (Nat × Bool)} {x0 x1 x2 x3 x4 x5 : Operand} {k0 : IntKind} {a0 : Int} {k1 : IntKind} {a1 : Int} {k2 : IntKind} {a2 : Int} {k3 : IntKind} {a3 : Int} {k4 : IntKind} {a4 : Int} {k5 : IntKind} {a5 : Int} (h0 : ρ x0 = (.int k0 a0)) (h1 : ρ x1 = (.int k1 a1)) (h2 : ρ x2 = (.int k2 a2)) (h3 : ρ x3 = (.int k3 a3)) (h4 : ρ x4 = (.int k4 a4)) (h5 : ρ x5 = (.int k5 a5)) :
    (execOp ρ ⟨dst, .build 31 #[(0, x0), (1, x1), (2, x2), (3, x3), (4, x4), (5, x5)], ty, pos, after, g⟩).run Try.prog w = .ok (.value (.agg #[(.int k0 a0), (.int k1 a1), (.int k2 a2), (.int k3 a3), (.int k4 a4), (.int k5 a5)])) w := by
  simp [execOp, Instr.build, Instr.fill, Try.zeroValue31, Try.runUnderlying31, Try.sizeOf3, h0, h1, h2, h3, h4, h5, Value.cells]

def law21_shape  : Option (S_api_Shape) :=
  some (⟨1, 4, 2, 3, 5, 8⟩ : S_api_Shape)

set_option maxHeartbeats 2000000 in
theorem law21_shape_any {Fr : List HP} {w : World} {r : S_api_Shape} {K : Value → World → Prop}  (hc : Ctx w (Fr)) (hp : law21_shape = some r)
    (k : ∀ w', Ctx w' (Fr) → K (.agg #[.int .i64 r.Layers, .int .i64 r.Width, .int .i64 r.Heads, .int .i64 r.Inner, .int .i64 r.Vocab, .int .i64 r.Places]) w') : Calls Try.prog 8 #[] w (Ret K) := by
 unfold law21_shape at hp
 refine Center (args := []) (l := []) Try.func8 Try.ntmps8 rfl rfl rfl ?_
 refine Wseq ?_
 refine Wreg ?_
 refine rsE (Ctx.allocOp (cs := [.int .i64 0, .int .i64 0, .int .i64 0, .int .i64 0, .int .i64 0, .int .i64 0]) hc Try.zeroValue31 rfl) rfl ?_
 clear hc; rintro _ w3 ⟨b1, rfl, hc⟩
 refine rn ?_
 refine qn ?_
 refine Wseq ?_
 refine Wreg ?_
 refine rs (v := .agg #[.int .i64 1, .int .i64 4, .int .i64 2, .int .i64 3, .int .i64 5, .int .i64 8]) (bd_31_0_1_2_3_4_5 rfl rfl rfl rfl rfl rfl) rfl ?_
 refine ruE (A := fun w' => Ctx w' (B b1 [.int .i64 1, .int .i64 4, .int .i64 2, .int .i64 3, .int .i64 5, .int .i64 8] 31 :: Fr)) (Ctx.putAgg hc (k := 0) rfl rfl (vs := [.int .i64 1, .int .i64 4, .int .i64 2, .int .i64 3, .int .i64 5, .int .i64 8]) rfl rfl rfl Try.sizeOf31 rfl rfl rfl) rfl ?_
 clear hc; rintro w4 hc
 refine rn ?_
 refine qn ?_
 refine Wret ?_
 have hres := Ctx.cells hc (k := 0) rfl rfl 0 (vs := [.int .i64 1, .int .i64 4, .int .i64 2, .int .i64 3, .int .i64 5, .int .i64 8]) rfl
 replace hc := hc.rem 0 rfl rfl
 injection hp with hp; subst hp
 refine f1c (cs := [.int .i64 1, .int .i64 4, .int .i64 2, .int .i64 3, .int .i64 5, .int .i64 8]) Try.results8 Try.ntmps8 rfl Try.isAgg31 Try.sizeOf31 rfl hres ?_
 exact ⟨_, rfl, k _ hc⟩

-- FN peloton/pelotonlaw21.asks
theorem bd_24_0_1_2 {ρ : Operand → Value} {w : World} {dst : Option Nat} {ty : TypeId} {pos : String} {after : Array Edge} {g : Option (Nat × Bool)} {x0 x1 x2 : Operand} {k0 : IntKind} {a0 : Int} {k1 : IntKind} {a1 : Int} {a2 : Option Addr} {l2 c2 : Nat} (h0 : ρ x0 = (.int k0 a0)) (h1 : ρ x1 = (.int k1 a1)) (h2 : ρ x2 = (.slice a2 l2 c2)) :
    (execOp ρ ⟨dst, .build 24 #[(0, x0), (1, x1), (2, x2)], ty, pos, after, g⟩).run Try.prog w = .ok (.value (.agg #[(.int k0 a0), (.int k1 a1), (.slice a2 l2 c2)])) w := by
  simp [execOp, Instr.build, Instr.fill, Try.zeroValue24, Try.runUnderlying24, Try.sizeOf22, Try.sizeOf3, h0, h1, h2, Value.cells]

def law21_asks (x0 : Int) : Option (S_api_Request) :=
  some (⟨x0, 2, [1]⟩ : S_api_Request)

set_option maxHeartbeats 2000000 in
theorem law21_asks_any {x0 : Int} {Fr : List HP} {w : World} {r : S_api_Request} {K : Value → World → Prop}  (hc : Ctx w (Fr)) (hp : law21_asks x0 = some r)
    (k : ∀ (a7 : Option Addr) (n8 : Nat) (q9 : Nat) w', Ctx w' (Hold (pRo (pInt .i64)) [.slice a7 n8 q9] r.Prompt :: Fr) → K (.agg #[.int .i64 r.ID, .int .i64 r.Most, .slice a7 n8 q9]) w') : Calls Try.prog 10 #[.int .i64 x0] w (Ret K) := by
 unfold law21_asks at hp
 refine Center (args := [.int .i64 x0]) (l := [(0, .int .i64 x0)]) Try.func10 Try.ntmps10 rfl rfl rfl ?_
 refine Wseq ?_
 refine Wreg ?_
 refine rsE (Ctx.allocOp (cs := [.int .i64 0, .int .i64 0, .slice none 0 0]) hc Try.zeroValue24 rfl) rfl ?_
 clear hc; rintro _ w3 ⟨b1, rfl, hc⟩
 refine rn ?_
 refine qn ?_
 refine Wseq ?_
 refine Wreg ?_
 refine rs (v := .int .i64 x0) (mv (v := .int .i64 x0) rfl) rfl ?_
 replace hc : Ctx w3 (Hold (pInt .i64) [.int .i64 1] 1 :: B b1 [.int .i64 0, .int .i64 0, .slice none 0 0] 24 :: Fr) := hc.add _ fun _ _ _ => ⟨rfl, rfl⟩
 refine rsE (Ctx.builtOp (css := [[.int .i64 1]]) (xs := ([1] : List Int)) (E := (pInt .i64)) hc Try.underlying22 Try.sizeOf3 Try.zeroValue3 rfl rfl rfl rfl rfl rfl rfl rfl) rfl ?_
 clear hc; rintro _ w5 ⟨a4, rfl, hc⟩
 refine rs (v := .agg #[.int .i64 x0, .int .i64 2, .slice a4 1 1]) (bd_24_0_1_2 rfl rfl rfl) rfl ?_
 refine ruE (A := fun w' => Ctx w' (Own (pInt .i64) 3 (.slice a4 1 1) ([1]) :: B b1 [.int .i64 x0, .int .i64 2, .slice a4 1 1] 24 :: Fr)) (Ctx.putAgg hc (k := 1) rfl rfl (vs := [.int .i64 x0, .int .i64 2, .slice a4 1 1]) rfl rfl rfl Try.sizeOf24 rfl rfl rfl) rfl ?_
 clear hc; rintro w6 hc
 refine rn ?_
 refine qn ?_
 refine Wret ?_
 have hres := Ctx.cells hc (k := 1) rfl rfl 0 (vs := [.int .i64 x0, .int .i64 2, .slice a4 1 1]) rfl
 replace hc := hc.freeze (k := 0) rfl rfl rfl
 replace hc := hc.dup (k := 0) rfl rfl
 replace hc := hc.rem 2 rfl rfl
 replace hc := hc.rem 1 rfl rfl
 injection hp with hp; subst hp
 refine f1c (cs := [.int .i64 x0, .int .i64 2, .slice a4 1 1]) Try.results10 Try.ntmps10 rfl Try.isAgg24 Try.sizeOf24 rfl hres ?_
 exact ⟨_, rfl, k _ _ _ _ hc⟩

-- FN peloton/pelotonlaw21.awake
def law21_awake (N : Nat) : Option (Bool) :=
  (law21_shape).bind fun r1 =>
  (admit_New r1 1).bind fun r3 =>
  optc r3.1 (
    some false) fun y7 =>
  if r3.2 ≠ 0 then
    some false
  else
    (law21_asks 5).bind fun r12 =>
    (law21_asks 6).bind fun r18 =>
    (admit_Desk_Submit N y7 ([r12, r18])).bind fun r26 =>
    (admit_Desk_Take r26.2).bind fun r32 =>
    (law21_asks 5).bind fun r42 =>
    (law21_asks 6).bind fun r48 =>
    (admit_Desk_Submit N r32.2.2 ([r42, r48])).bind fun r56 =>
    if ((r26.1.length : Nat) : Int) = 2 then
      (idx r26.1 (0 : Int)).bind fun y63 =>
      if y63 = 0 then
        (idx r26.1 (1 : Int)).bind fun y73 =>
        if y73 = 211 then
          if r32.2.1 = true then
            if r32.1.ID = 5 then
              if ((r56.1.length : Nat) : Int) = 2 then
                (idx r56.1 (0 : Int)).bind fun y86 =>
                if y86 = 210 then
                  (idx r56.1 (1 : Int)).bind fun y96 =>
                  some (decide (y96 = 0))
                else
                  some false
              else
                some false
            else
              some false
          else
            some false
        else
          some false
      else
        some false
    else
      some false

set_option maxHeartbeats 2000000 in
theorem law21_awake_any {N : Nat} {Fr : List HP} {w : World} {r : Bool} {K : Value → World → Prop}  (hc : Ctx w (Fr)) (hp : law21_awake N = some r)
    (k : ∀ w', Ctx w' (Fr) → K (.bool r) w') : Calls Try.prog 6 #[] w (Ret K) := by
 unfold law21_awake at hp
 refine Center (args := []) (l := []) Try.func6 Try.ntmps6 rfl rfl rfl ?_
 refine Wseq ?_
 refine Wreg ?_
 refine rs (v := .bool false) (av (v := .bool false) rfl) rfl ?_
 refine rn ?_
 refine qn ?_
 refine Wseq ?_
 refine Wreg ?_
 replace hp := bind_some hp; obtain ⟨r1, hr1, hp⟩ := hp
 refine rc (cl Try.call8 rfl rfl) rfl ?_
 refine law21_shape_any hc hr1 ?_
 clear hc; intro w2 hc
 replace hp := bind_some hp; obtain ⟨r3, hr3, hp⟩ := hp
 refine rc (cl Try.call7 rfl rfl) rfl ?_
 refine admit_New_any hc hr3 ?_
 clear hc; intro v4 w5 hc
 refine rs (v := .tuple #[v4, .int .i64 r3.2]) (mv (v := .tuple #[v4, .int .i64 r3.2]) rfl) rfl ?_
 refine rs (v := v4) (ext (v := v4) rfl rfl) rfl ?_
 refine rs (v := .int .i64 r3.2) (ext (v := .int .i64 r3.2) rfl rfl) rfl ?_
 refine rs (v := v4) (av (v := v4) rfl) rfl ?_
 refine rs (v := .int .i64 r3.2) (av (v := .int .i64 r3.2) rfl) rfl ?_
 refine rn ?_
 refine qn ?_
 refine Wseq ?_
 refine Wseq ?_
 refine Wreg ?_
 refine rs (v := v4) (mv (v := v4) rfl) rfl ?_
 cases hb6 : r3.1
 · replace hp := optN hp hb6
   rw [hb6] at hc
   replace hc := Ctx.ptoN hc; obtain ⟨u8, hc⟩ := hc; subst u8
   refine rs (v := .bool true) (ept Try.underlying26 rfl rfl) rfl ?_
   refine rs (v := .bool true) (mv (v := .bool true) rfl) rfl ?_
   refine r0 rfl ?_
   refine r0 rfl ?_
   refine rs (v := .bool true) (pkt (v := .bool true) rfl rfl) rfl ?_
   refine rn ?_
   refine qn ?_
   refine Wct rfl ?_
   refine Wseq ?_
   refine Wreg ?_
   refine rs (v := .bool false) (av (v := .bool false) rfl) rfl ?_
   refine rn ?_
   refine qn ?_
   refine Wret ?_
   refine qr ?_
   injection hp with hp; subst hp
   refine f1 (v := .bool false) Try.results6 Try.ntmps6 rfl ?_
   exact ⟨_, rfl, k _ hc⟩
 · rename_i y7
   replace hp := optS hp hb6
   rw [hb6] at hc
   replace hc := Ctx.ptoS hc; obtain ⟨b9, u10, hc⟩ := hc; subst u10
   refine rs (v := .bool false) (epf Try.underlying26 rfl rfl) rfl ?_
   refine rs (v := .bool false) (mv (v := .bool false) rfl) rfl ?_
   refine rs (v := .int .i64 r3.2) (mv (v := .int .i64 r3.2) rfl) rfl ?_
   refine rs (v := .bool (decide (r3.2 ≠ 0))) (ned rfl rfl) rfl ?_
   refine rs (v := .bool (decide (r3.2 ≠ 0))) (pkf (v := .bool (decide (r3.2 ≠ 0))) rfl rfl) rfl ?_
   refine rn ?_
   refine qn ?_
   cases hb11 : (decide (r3.2 ≠ 0))
   · replace hp := gneg hp (of_decide_eq_false hb11)
     refine Wcf rfl ?_
     refine Wskip ?_
     refine qn ?_
     refine Wseq ?_
     refine Wreg ?_
     refine rs (v := .pointer (some ⟨b9, 0, none⟩)) (mv (v := .pointer (some ⟨b9, 0, none⟩)) rfl) rfl ?_
     replace hp := bind_some hp; obtain ⟨r12, hr12, hp⟩ := hp
     refine rc (cl Try.call10 rfl rfl) rfl ?_
     refine law21_asks_any hc hr12 ?_
     clear hc; intro a13 n14 q15 w16 hc
     obtain ⟨u17, _⟩ := Ctx.rdLen hc (k := 0) rfl rfl reads_ro; subst u17
     replace hp := bind_some hp; obtain ⟨r18, hr18, hp⟩ := hp
     refine rc (cl Try.call10 rfl rfl) rfl ?_
     refine law21_asks_any hc hr18 ?_
     clear hc; intro a19 n20 q21 w22 hc
     obtain ⟨u23, _⟩ := Ctx.rdLen hc (k := 0) rfl rfl reads_ro; subst u23
     replace hc := hc.dup (k := 0) rfl rfl
     replace hc : Ctx w22 (Hold S_api_Request.pr [.int .i64 r18.ID, .int .i64 r18.Most, .slice a19 r18.Prompt.length q21] r18 :: Hold (pRo (pInt .i64)) [.slice a19 r18.Prompt.length q21] r18.Prompt :: Hold (pRo (pInt .i64)) [.slice a13 r12.Prompt.length q15] r12.Prompt :: S_admit_Desk.hp b9 y7 :: Fr) := S_api_Request.cl hc
     replace hc := hc.dup (k := 2) rfl rfl
     replace hc : Ctx w22 (Hold S_api_Request.pr [.int .i64 r12.ID, .int .i64 r12.Most, .slice a13 r12.Prompt.length q15] r12 :: Hold S_api_Request.pr [.int .i64 r18.ID, .int .i64 r18.Most, .slice a19 r18.Prompt.length q21] r18 :: Hold (pRo (pInt .i64)) [.slice a19 r18.Prompt.length q21] r18.Prompt :: Hold (pRo (pInt .i64)) [.slice a13 r12.Prompt.length q15] r12.Prompt :: S_admit_Desk.hp b9 y7 :: Fr) := S_api_Request.cl hc
     refine rsE (Ctx.builtOp (css := [[.int .i64 r12.ID, .int .i64 r12.Most, .slice a13 r12.Prompt.length q15], [.int .i64 r18.ID, .int .i64 r18.Most, .slice a19 r18.Prompt.length q21]]) (xs := ([r12, r18] : List S_api_Request)) (E := S_api_Request.pr) hc Try.underlying45 Try.sizeOf24 Try.zeroValue24 rfl rfl rfl rfl rfl rfl rfl rfl) rfl ?_
     clear hc; rintro _ w25 ⟨a24, rfl, hc⟩
     replace hp := bind_some hp; obtain ⟨r26, hr26, hp⟩ := hp
     replace hc := hc.pull 3 rfl rfl
     refine rc (cl Try.call9 rfl rfl) rfl ?_
     refine admit_Desk_Submit_any reads_own hc hr26 ?_
     clear hc; intro a27 n28 q29 w30 hc
     obtain ⟨u31, _⟩ := Ctx.rdLen hc (k := 0) rfl rfl reads_own; subst u31
     refine rs (v := .slice a27 r26.1.length q29) (av (v := .slice a27 r26.1.length q29) rfl) rfl ?_
     refine rn ?_
     refine qn ?_
     refine Wseq ?_
     refine Wreg ?_
     refine rs (v := .pointer (some ⟨b9, 0, none⟩)) (mv (v := .pointer (some ⟨b9, 0, none⟩)) rfl) rfl ?_
     replace hp := bind_some hp; obtain ⟨r32, hr32, hp⟩ := hp
     replace hc := hc.pull 1 rfl rfl
     refine rc (cl Try.call12 rfl rfl) rfl ?_
     refine admit_Desk_Take_any hc hr32 ?_
     clear hc; intro a33 n34 q35 w36 hc
     obtain ⟨u37, _⟩ := Ctx.rdLen hc (k := 0) rfl rfl reads_ro; subst u37
     refine rs (v := .tuple #[.agg #[.int .i64 r32.1.ID, .int .i64 r32.1.Most, .slice a33 r32.1.Prompt.length q35], .bool r32.2.1]) (mv (v := .tuple #[.agg #[.int .i64 r32.1.ID, .int .i64 r32.1.Most, .slice a33 r32.1.Prompt.length q35], .bool r32.2.1]) rfl) rfl ?_
     refine rs (v := .agg #[.int .i64 r32.1.ID, .int .i64 r32.1.Most, .slice a33 r32.1.Prompt.length q35]) (ext (v := .agg #[.int .i64 r32.1.ID, .int .i64 r32.1.Most, .slice a33 r32.1.Prompt.length q35]) rfl rfl) rfl ?_
     refine rs (v := .bool r32.2.1) (ext (v := .bool r32.2.1) rfl rfl) rfl ?_
     refine rsE (Ctx.allocOp (cs := [.int .i64 0, .int .i64 0, .slice none 0 0]) hc Try.zeroValue24 rfl) rfl ?_
     clear hc; rintro _ w40 ⟨b38, rfl, hc⟩
     refine ruE (A := fun w' => Ctx w' (B b38 [.int .i64 r32.1.ID, .int .i64 r32.1.Most, .slice a33 r32.1.Prompt.length q35] 24 :: Hold (pRo (pInt .i64)) [.slice a33 r32.1.Prompt.length q35] r32.1.Prompt :: S_admit_Desk.hp b9 r32.2.2 :: Own (pInt .i64) 27 (.slice a27 r26.1.length q29) r26.1 :: Own S_api_Request.pr 24 (.slice a24 2 2) ([r12, r18]) :: Hold (pRo (pInt .i64)) [.slice a19 r18.Prompt.length q21] r18.Prompt :: Hold (pRo (pInt .i64)) [.slice a13 r12.Prompt.length q15] r12.Prompt :: Fr)) (Ctx.putAgg hc (k := 0) rfl rfl (vs := [.int .i64 r32.1.ID, .int .i64 r32.1.Most, .slice a33 r32.1.Prompt.length q35]) rfl rfl rfl Try.sizeOf24 rfl rfl rfl) rfl ?_
     clear hc; rintro w41 hc
     refine rs (v := .bool r32.2.1) (av (v := .bool r32.2.1) rfl) rfl ?_
     refine rn ?_
     refine qn ?_
     refine Wseq ?_
     refine Wreg ?_
     refine rs (v := .pointer (some ⟨b9, 0, none⟩)) (mv (v := .pointer (some ⟨b9, 0, none⟩)) rfl) rfl ?_
     replace hp := bind_some hp; obtain ⟨r42, hr42, hp⟩ := hp
     refine rc (cl Try.call10 rfl rfl) rfl ?_
     refine law21_asks_any hc hr42 ?_
     clear hc; intro a43 n44 q45 w46 hc
     obtain ⟨u47, _⟩ := Ctx.rdLen hc (k := 0) rfl rfl reads_ro; subst u47
     replace hp := bind_some hp; obtain ⟨r48, hr48, hp⟩ := hp
     refine rc (cl Try.call10 rfl rfl) rfl ?_
     refine law21_asks_any hc hr48 ?_
     clear hc; intro a49 n50 q51 w52 hc
     obtain ⟨u53, _⟩ := Ctx.rdLen hc (k := 0) rfl rfl reads_ro; subst u53
     replace hc := hc.dup (k := 0) rfl rfl
     replace hc : Ctx w52 (Hold S_api_Request.pr [.int .i64 r48.ID, .int .i64 r48.Most, .slice a49 r48.Prompt.length q51] r48 :: Hold (pRo (pInt .i64)) [.slice a49 r48.Prompt.length q51] r48.Prompt :: Hold (pRo (pInt .i64)) [.slice a43 r42.Prompt.length q45] r42.Prompt :: B b38 [.int .i64 r32.1.ID, .int .i64 r32.1.Most, .slice a33 r32.1.Prompt.length q35] 24 :: Hold (pRo (pInt .i64)) [.slice a33 r32.1.Prompt.length q35] r32.1.Prompt :: S_admit_Desk.hp b9 r32.2.2 :: Own (pInt .i64) 27 (.slice a27 r26.1.length q29) r26.1 :: Own S_api_Request.pr 24 (.slice a24 2 2) ([r12, r18]) :: Hold (pRo (pInt .i64)) [.slice a19 r18.Prompt.length q21] r18.Prompt :: Hold (pRo (pInt .i64)) [.slice a13 r12.Prompt.length q15] r12.Prompt :: Fr) := S_api_Request.cl hc
     replace hc := hc.dup (k := 2) rfl rfl
     replace hc : Ctx w52 (Hold S_api_Request.pr [.int .i64 r42.ID, .int .i64 r42.Most, .slice a43 r42.Prompt.length q45] r42 :: Hold S_api_Request.pr [.int .i64 r48.ID, .int .i64 r48.Most, .slice a49 r48.Prompt.length q51] r48 :: Hold (pRo (pInt .i64)) [.slice a49 r48.Prompt.length q51] r48.Prompt :: Hold (pRo (pInt .i64)) [.slice a43 r42.Prompt.length q45] r42.Prompt :: B b38 [.int .i64 r32.1.ID, .int .i64 r32.1.Most, .slice a33 r32.1.Prompt.length q35] 24 :: Hold (pRo (pInt .i64)) [.slice a33 r32.1.Prompt.length q35] r32.1.Prompt :: S_admit_Desk.hp b9 r32.2.2 :: Own (pInt .i64) 27 (.slice a27 r26.1.length q29) r26.1 :: Own S_api_Request.pr 24 (.slice a24 2 2) ([r12, r18]) :: Hold (pRo (pInt .i64)) [.slice a19 r18.Prompt.length q21] r18.Prompt :: Hold (pRo (pInt .i64)) [.slice a13 r12.Prompt.length q15] r12.Prompt :: Fr) := S_api_Request.cl hc
     refine rsE (Ctx.builtOp (css := [[.int .i64 r42.ID, .int .i64 r42.Most, .slice a43 r42.Prompt.length q45], [.int .i64 r48.ID, .int .i64 r48.Most, .slice a49 r48.Prompt.length q51]]) (xs := ([r42, r48] : List S_api_Request)) (E := S_api_Request.pr) hc Try.underlying45 Try.sizeOf24 Try.zeroValue24 rfl rfl rfl rfl rfl rfl rfl rfl) rfl ?_
     clear hc; rintro _ w55 ⟨a54, rfl, hc⟩
     replace hp := bind_some hp; obtain ⟨r56, hr56, hp⟩ := hp
     replace hc := hc.pull 5 rfl rfl
     refine rc (cl Try.call9 rfl rfl) rfl ?_
     refine admit_Desk_Submit_any reads_own hc hr56 ?_
     clear hc; intro a57 n58 q59 w60 hc
     obtain ⟨u61, _⟩ := Ctx.rdLen hc (k := 0) rfl rfl reads_own; subst u61
     refine rs (v := .slice a57 r56.1.length q59) (av (v := .slice a57 r56.1.length q59) rfl) rfl ?_
     refine rn ?_
     refine qn ?_
     refine Wseq ?_
     refine Wreg ?_
     refine rs (v := .slice a27 r26.1.length q29) (mv (v := .slice a27 r26.1.length q29) rfl) rfl ?_
     refine rs (v := .int .i64 ((r26.1.length : Nat) : Int)) (ln rfl Try.underlying33) rfl ?_
     refine rs (v := .bool (decide (((r26.1.length : Nat) : Int) = 2))) (eqd rfl rfl) rfl ?_
     refine rs (v := .bool (decide (((r26.1.length : Nat) : Int) = 2))) (mv (v := .bool (decide (((r26.1.length : Nat) : Int) = 2))) rfl) rfl ?_
     cases hb62 : (decide (((r26.1.length : Nat) : Int) = 2))
     · replace hp := gneg hp (of_decide_eq_false hb62)
       refine r0 rfl ?_
       refine r0 rfl ?_
       refine r0 rfl ?_
       refine r0 rfl ?_
       refine rs (v := .bool false) (pkf (v := .bool false) rfl rfl) rfl ?_
       refine rs (v := .bool false) (mv (v := .bool false) rfl) rfl ?_
       refine r0 rfl ?_
       refine r0 rfl ?_
       refine r0 rfl ?_
       refine r0 rfl ?_
       refine rs (v := .bool false) (pkf (v := .bool false) rfl rfl) rfl ?_
       refine rs (v := .bool false) (mv (v := .bool false) rfl) rfl ?_
       refine r0 rfl ?_
       refine rs (v := .bool false) (pkf (v := .bool false) rfl rfl) rfl ?_
       refine rs (v := .bool false) (mv (v := .bool false) rfl) rfl ?_
       refine r0 rfl ?_
       refine r0 rfl ?_
       refine r0 rfl ?_
       refine rs (v := .bool false) (pkf (v := .bool false) rfl rfl) rfl ?_
       refine rs (v := .bool false) (mv (v := .bool false) rfl) rfl ?_
       refine r0 rfl ?_
       refine r0 rfl ?_
       refine r0 rfl ?_
       refine rs (v := .bool false) (pkf (v := .bool false) rfl rfl) rfl ?_
       refine rs (v := .bool false) (mv (v := .bool false) rfl) rfl ?_
       refine r0 rfl ?_
       refine r0 rfl ?_
       refine r0 rfl ?_
       refine r0 rfl ?_
       refine rs (v := .bool false) (pkf (v := .bool false) rfl rfl) rfl ?_
       refine rs (v := .bool false) (mv (v := .bool false) rfl) rfl ?_
       refine r0 rfl ?_
       refine r0 rfl ?_
       refine r0 rfl ?_
       refine r0 rfl ?_
       refine rs (v := .bool false) (pkf (v := .bool false) rfl rfl) rfl ?_
       refine rs (v := .bool false) (av (v := .bool false) rfl) rfl ?_
       refine rn ?_
       refine qn ?_
       refine Wret ?_
       replace hc := hc.rem 10 rfl rfl
       replace hc := hc.rem 9 rfl rfl
       replace hc := hc.rem 8 rfl rfl
       replace hc := hc.rem 7 rfl rfl
       replace hc := hc.rem 6 rfl rfl
       replace hc := hc.rem 5 rfl rfl
       replace hc := hc.rem 4 rfl rfl
       replace hc := hc.rem 3 rfl rfl
       replace hc := hc.rem 2 rfl rfl
       replace hc := hc.rem 1 rfl rfl
       replace hc := hc.rem 0 rfl rfl
       injection hp with hp; subst hp
       refine f1 (v := .bool false) Try.results6 Try.ntmps6 rfl ?_
       exact ⟨_, rfl, k _ hc⟩
     · replace hp := gpos hp (of_decide_eq_true hb62)
       refine rs (v := .slice a27 r26.1.length q29) (mv (v := .slice a27 r26.1.length q29) rfl) rfl ?_
       replace hp := bind_some hp; obtain ⟨y63, hy63, hp⟩ := hp
       obtain ⟨b66, o67, u68, hi64, hi65⟩ := Ctx.rdAt hc (k := 7) rfl rfl reads_own hy63
       subst u68
       refine rs (v := .pointer (some ⟨b66, o67 + ((0 : Int)).toNat * 1, none⟩)) (ixx rfl rfl Try.underlying33 Try.sizeOf27 hi64 hi65 rfl) rfl ?_
       replace hc := Ctx.rdCell hc (k := 7) rfl rfl reads_own hy63; obtain ⟨cs69, hc, hcell70⟩ := hc
       replace hc := Ctx.holdC hc; obtain ⟨u71, hc⟩ := hc; subst u71
       refine rs (v := .int .i64 y63) (ld rfl Try.isAgg27 (hcell70 0 _ rfl)) rfl ?_
       refine rs (v := .bool (decide (y63 = 0))) (eqd rfl rfl) rfl ?_
       refine rs (v := .bool (decide (y63 = 0))) (pkt (v := .bool (decide (y63 = 0))) rfl rfl) rfl ?_
       refine rs (v := .bool (decide (y63 = 0))) (mv (v := .bool (decide (y63 = 0))) rfl) rfl ?_
       cases hb72 : (decide (y63 = 0))
       · replace hp := gneg hp (of_decide_eq_false hb72)
         refine r0 rfl ?_
         refine r0 rfl ?_
         refine r0 rfl ?_
         refine r0 rfl ?_
         refine rs (v := .bool false) (pkf (v := .bool false) rfl rfl) rfl ?_
         refine rs (v := .bool false) (mv (v := .bool false) rfl) rfl ?_
         refine r0 rfl ?_
         refine rs (v := .bool false) (pkf (v := .bool false) rfl rfl) rfl ?_
         refine rs (v := .bool false) (mv (v := .bool false) rfl) rfl ?_
         refine r0 rfl ?_
         refine r0 rfl ?_
         refine r0 rfl ?_
         refine rs (v := .bool false) (pkf (v := .bool false) rfl rfl) rfl ?_
         refine rs (v := .bool false) (mv (v := .bool false) rfl) rfl ?_
         refine r0 rfl ?_
         refine r0 rfl ?_
         refine r0 rfl ?_
         refine rs (v := .bool false) (pkf (v := .bool false) rfl rfl) rfl ?_
         refine rs (v := .bool false) (mv (v := .bool false) rfl) rfl ?_
         refine r0 rfl ?_
         refine r0 rfl ?_
         refine r0 rfl ?_
         refine r0 rfl ?_
         refine rs (v := .bool false) (pkf (v := .bool false) rfl rfl) rfl ?_
         refine rs (v := .bool false) (mv (v := .bool false) rfl) rfl ?_
         refine r0 rfl ?_
         refine r0 rfl ?_
         refine r0 rfl ?_
         refine r0 rfl ?_
         refine rs (v := .bool false) (pkf (v := .bool false) rfl rfl) rfl ?_
         refine rs (v := .bool false) (av (v := .bool false) rfl) rfl ?_
         refine rn ?_
         refine qn ?_
         refine Wret ?_
         replace hc := hc.rem 10 rfl rfl
         replace hc := hc.rem 9 rfl rfl
         replace hc := hc.rem 8 rfl rfl
         replace hc := hc.rem 7 rfl rfl
         replace hc := hc.rem 6 rfl rfl
         replace hc := hc.rem 5 rfl rfl
         replace hc := hc.rem 4 rfl rfl
         replace hc := hc.rem 3 rfl rfl
         replace hc := hc.rem 2 rfl rfl
         replace hc := hc.rem 1 rfl rfl
         replace hc := hc.rem 0 rfl rfl
         injection hp with hp; subst hp
         refine f1 (v := .bool false) Try.results6 Try.ntmps6 rfl ?_
         exact ⟨_, rfl, k _ hc⟩
       · replace hp := gpos hp (of_decide_eq_true hb72)
         refine rs (v := .slice (some ⟨b66, o67, none⟩) r26.1.length q29) (mv (v := .slice (some ⟨b66, o67, none⟩) r26.1.length q29) rfl) rfl ?_
         replace hp := bind_some hp; obtain ⟨y73, hy73, hp⟩ := hp
         obtain ⟨b76, o77, u78, hi74, hi75⟩ := Ctx.rdAt hc (k := 7) rfl rfl reads_own hy73
         clear u78
         refine rs (v := .pointer (some ⟨b66, o67 + ((1 : Int)).toNat * 1, none⟩)) (ixx rfl rfl Try.underlying33 Try.sizeOf27 hi74 hi75 rfl) rfl ?_
         replace hc := Ctx.rdCell hc (k := 7) rfl rfl reads_own hy73; obtain ⟨cs79, hc, hcell80⟩ := hc
         replace hc := Ctx.holdC hc; obtain ⟨u81, hc⟩ := hc; subst u81
         refine rs (v := .int .i64 y73) (ld rfl Try.isAgg27 (hcell80 0 _ rfl)) rfl ?_
         refine rs (v := .bool (decide (y73 = 211))) (eqd rfl rfl) rfl ?_
         refine rs (v := .bool (decide (y73 = 211))) (pkt (v := .bool (decide (y73 = 211))) rfl rfl) rfl ?_
         refine rs (v := .bool (decide (y73 = 211))) (mv (v := .bool (decide (y73 = 211))) rfl) rfl ?_
         cases hb82 : (decide (y73 = 211))
         · replace hp := gneg hp (of_decide_eq_false hb82)
           refine r0 rfl ?_
           refine rs (v := .bool false) (pkf (v := .bool false) rfl rfl) rfl ?_
           refine rs (v := .bool false) (mv (v := .bool false) rfl) rfl ?_
           refine r0 rfl ?_
           refine r0 rfl ?_
           refine r0 rfl ?_
           refine rs (v := .bool false) (pkf (v := .bool false) rfl rfl) rfl ?_
           refine rs (v := .bool false) (mv (v := .bool false) rfl) rfl ?_
           refine r0 rfl ?_
           refine r0 rfl ?_
           refine r0 rfl ?_
           refine rs (v := .bool false) (pkf (v := .bool false) rfl rfl) rfl ?_
           refine rs (v := .bool false) (mv (v := .bool false) rfl) rfl ?_
           refine r0 rfl ?_
           refine r0 rfl ?_
           refine r0 rfl ?_
           refine r0 rfl ?_
           refine rs (v := .bool false) (pkf (v := .bool false) rfl rfl) rfl ?_
           refine rs (v := .bool false) (mv (v := .bool false) rfl) rfl ?_
           refine r0 rfl ?_
           refine r0 rfl ?_
           refine r0 rfl ?_
           refine r0 rfl ?_
           refine rs (v := .bool false) (pkf (v := .bool false) rfl rfl) rfl ?_
           refine rs (v := .bool false) (av (v := .bool false) rfl) rfl ?_
           refine rn ?_
           refine qn ?_
           refine Wret ?_
           replace hc := hc.rem 10 rfl rfl
           replace hc := hc.rem 9 rfl rfl
           replace hc := hc.rem 8 rfl rfl
           replace hc := hc.rem 7 rfl rfl
           replace hc := hc.rem 6 rfl rfl
           replace hc := hc.rem 5 rfl rfl
           replace hc := hc.rem 4 rfl rfl
           replace hc := hc.rem 3 rfl rfl
           replace hc := hc.rem 2 rfl rfl
           replace hc := hc.rem 1 rfl rfl
           replace hc := hc.rem 0 rfl rfl
           injection hp with hp; subst hp
           refine f1 (v := .bool false) Try.results6 Try.ntmps6 rfl ?_
           exact ⟨_, rfl, k _ hc⟩
         · replace hp := gpos hp (of_decide_eq_true hb82)
           refine rs (v := .bool r32.2.1) (mv (v := .bool r32.2.1) rfl) rfl ?_
           refine rs (v := .bool r32.2.1) (pkt (v := .bool r32.2.1) rfl rfl) rfl ?_
           refine rs (v := .bool r32.2.1) (mv (v := .bool r32.2.1) rfl) rfl ?_
           cases hb83 : r32.2.1
           · replace hp := gneg hp (by rw [hb83]; exact Bool.false_ne_true)
             refine r0 rfl ?_
             refine r0 rfl ?_
             refine r0 rfl ?_
             refine rs (v := .bool false) (pkf (v := .bool false) rfl rfl) rfl ?_
             refine rs (v := .bool false) (mv (v := .bool false) rfl) rfl ?_
             refine r0 rfl ?_
             refine r0 rfl ?_
             refine r0 rfl ?_
             refine rs (v := .bool false) (pkf (v := .bool false) rfl rfl) rfl ?_
             refine rs (v := .bool false) (mv (v := .bool false) rfl) rfl ?_
             refine r0 rfl ?_
             refine r0 rfl ?_
             refine r0 rfl ?_
             refine r0 rfl ?_
             refine rs (v := .bool false) (pkf (v := .bool false) rfl rfl) rfl ?_
             refine rs (v := .bool false) (mv (v := .bool false) rfl) rfl ?_
             refine r0 rfl ?_
             refine r0 rfl ?_
             refine r0 rfl ?_
             refine r0 rfl ?_
             refine rs (v := .bool false) (pkf (v := .bool false) rfl rfl) rfl ?_
             refine rs (v := .bool false) (av (v := .bool false) rfl) rfl ?_
             refine rn ?_
             refine qn ?_
             refine Wret ?_
             replace hc := hc.rem 10 rfl rfl
             replace hc := hc.rem 9 rfl rfl
             replace hc := hc.rem 8 rfl rfl
             replace hc := hc.rem 7 rfl rfl
             replace hc := hc.rem 6 rfl rfl
             replace hc := hc.rem 5 rfl rfl
             replace hc := hc.rem 4 rfl rfl
             replace hc := hc.rem 3 rfl rfl
             replace hc := hc.rem 2 rfl rfl
             replace hc := hc.rem 1 rfl rfl
             replace hc := hc.rem 0 rfl rfl
             injection hp with hp; subst hp
             refine f1 (v := .bool false) Try.results6 Try.ntmps6 rfl ?_
             exact ⟨_, rfl, k _ hc⟩
           · replace hp := gpos hp hb83
             refine rs (v := .pointer (some ⟨b38, 0, none⟩)) (fax 0 rfl Try.underlying24 rfl Try.sizeOf3 rfl rfl rfl) rfl ?_
             refine rs (v := .int .i64 r32.1.ID) (ld rfl Try.isAgg3 (Ctx.cell hc (k := 5) rfl rfl rfl)) rfl ?_
             refine rs (v := .bool (decide (r32.1.ID = 5))) (eqd rfl rfl) rfl ?_
             refine rs (v := .bool (decide (r32.1.ID = 5))) (pkt (v := .bool (decide (r32.1.ID = 5))) rfl rfl) rfl ?_
             refine rs (v := .bool (decide (r32.1.ID = 5))) (mv (v := .bool (decide (r32.1.ID = 5))) rfl) rfl ?_
             cases hb84 : (decide (r32.1.ID = 5))
             · replace hp := gneg hp (of_decide_eq_false hb84)
               refine r0 rfl ?_
               refine r0 rfl ?_
               refine r0 rfl ?_
               refine rs (v := .bool false) (pkf (v := .bool false) rfl rfl) rfl ?_
               refine rs (v := .bool false) (mv (v := .bool false) rfl) rfl ?_
               refine r0 rfl ?_
               refine r0 rfl ?_
               refine r0 rfl ?_
               refine r0 rfl ?_
               refine rs (v := .bool false) (pkf (v := .bool false) rfl rfl) rfl ?_
               refine rs (v := .bool false) (mv (v := .bool false) rfl) rfl ?_
               refine r0 rfl ?_
               refine r0 rfl ?_
               refine r0 rfl ?_
               refine r0 rfl ?_
               refine rs (v := .bool false) (pkf (v := .bool false) rfl rfl) rfl ?_
               refine rs (v := .bool false) (av (v := .bool false) rfl) rfl ?_
               refine rn ?_
               refine qn ?_
               refine Wret ?_
               replace hc := hc.rem 10 rfl rfl
               replace hc := hc.rem 9 rfl rfl
               replace hc := hc.rem 8 rfl rfl
               replace hc := hc.rem 7 rfl rfl
               replace hc := hc.rem 6 rfl rfl
               replace hc := hc.rem 5 rfl rfl
               replace hc := hc.rem 4 rfl rfl
               replace hc := hc.rem 3 rfl rfl
               replace hc := hc.rem 2 rfl rfl
               replace hc := hc.rem 1 rfl rfl
               replace hc := hc.rem 0 rfl rfl
               injection hp with hp; subst hp
               refine f1 (v := .bool false) Try.results6 Try.ntmps6 rfl ?_
               exact ⟨_, rfl, k _ hc⟩
             · replace hp := gpos hp (of_decide_eq_true hb84)
               refine rs (v := .slice a57 r56.1.length q59) (mv (v := .slice a57 r56.1.length q59) rfl) rfl ?_
               refine rs (v := .int .i64 ((r56.1.length : Nat) : Int)) (ln rfl Try.underlying33) rfl ?_
               refine rs (v := .bool (decide (((r56.1.length : Nat) : Int) = 2))) (eqd rfl rfl) rfl ?_
               refine rs (v := .bool (decide (((r56.1.length : Nat) : Int) = 2))) (pkt (v := .bool (decide (((r56.1.length : Nat) : Int) = 2))) rfl rfl) rfl ?_
               refine rs (v := .bool (decide (((r56.1.length : Nat) : Int) = 2))) (mv (v := .bool (decide (((r56.1.length : Nat) : Int) = 2))) rfl) rfl ?_
               cases hb85 : (decide (((r56.1.length : Nat) : Int) = 2))
               · replace hp := gneg hp (of_decide_eq_false hb85)
                 refine r0 rfl ?_
                 refine r0 rfl ?_
                 refine r0 rfl ?_
                 refine r0 rfl ?_
                 refine rs (v := .bool false) (pkf (v := .bool false) rfl rfl) rfl ?_
                 refine rs (v := .bool false) (mv (v := .bool false) rfl) rfl ?_
                 refine r0 rfl ?_
                 refine r0 rfl ?_
                 refine r0 rfl ?_
                 refine r0 rfl ?_
                 refine rs (v := .bool false) (pkf (v := .bool false) rfl rfl) rfl ?_
                 refine rs (v := .bool false) (av (v := .bool false) rfl) rfl ?_
                 refine rn ?_
                 refine qn ?_
                 refine Wret ?_
                 replace hc := hc.rem 10 rfl rfl
                 replace hc := hc.rem 9 rfl rfl
                 replace hc := hc.rem 8 rfl rfl
                 replace hc := hc.rem 7 rfl rfl
                 replace hc := hc.rem 6 rfl rfl
                 replace hc := hc.rem 5 rfl rfl
                 replace hc := hc.rem 4 rfl rfl
                 replace hc := hc.rem 3 rfl rfl
                 replace hc := hc.rem 2 rfl rfl
                 replace hc := hc.rem 1 rfl rfl
                 replace hc := hc.rem 0 rfl rfl
                 injection hp with hp; subst hp
                 refine f1 (v := .bool false) Try.results6 Try.ntmps6 rfl ?_
                 exact ⟨_, rfl, k _ hc⟩
               · replace hp := gpos hp (of_decide_eq_true hb85)
                 refine rs (v := .slice a57 r56.1.length q59) (mv (v := .slice a57 r56.1.length q59) rfl) rfl ?_
                 replace hp := bind_some hp; obtain ⟨y86, hy86, hp⟩ := hp
                 obtain ⟨b89, o90, u91, hi87, hi88⟩ := Ctx.rdAt hc (k := 0) rfl rfl reads_own hy86
                 subst u91
                 refine rs (v := .pointer (some ⟨b89, o90 + ((0 : Int)).toNat * 1, none⟩)) (ixx rfl rfl Try.underlying33 Try.sizeOf27 hi87 hi88 rfl) rfl ?_
                 replace hc := Ctx.rdCell hc (k := 0) rfl rfl reads_own hy86; obtain ⟨cs92, hc, hcell93⟩ := hc
                 replace hc := Ctx.holdC hc; obtain ⟨u94, hc⟩ := hc; subst u94
                 refine rs (v := .int .i64 y86) (ld rfl Try.isAgg27 (hcell93 0 _ rfl)) rfl ?_
                 refine rs (v := .bool (decide (y86 = 210))) (eqd rfl rfl) rfl ?_
                 refine rs (v := .bool (decide (y86 = 210))) (pkt (v := .bool (decide (y86 = 210))) rfl rfl) rfl ?_
                 refine rs (v := .bool (decide (y86 = 210))) (mv (v := .bool (decide (y86 = 210))) rfl) rfl ?_
                 cases hb95 : (decide (y86 = 210))
                 · replace hp := gneg hp (of_decide_eq_false hb95)
                   refine r0 rfl ?_
                   refine r0 rfl ?_
                   refine r0 rfl ?_
                   refine r0 rfl ?_
                   refine rs (v := .bool false) (pkf (v := .bool false) rfl rfl) rfl ?_
                   refine rs (v := .bool false) (av (v := .bool false) rfl) rfl ?_
                   refine rn ?_
                   refine qn ?_
                   refine Wret ?_
                   replace hc := hc.rem 10 rfl rfl
                   replace hc := hc.rem 9 rfl rfl
                   replace hc := hc.rem 8 rfl rfl
                   replace hc := hc.rem 7 rfl rfl
                   replace hc := hc.rem 6 rfl rfl
                   replace hc := hc.rem 5 rfl rfl
                   replace hc := hc.rem 4 rfl rfl
                   replace hc := hc.rem 3 rfl rfl
                   replace hc := hc.rem 2 rfl rfl
                   replace hc := hc.rem 1 rfl rfl
                   replace hc := hc.rem 0 rfl rfl
                   injection hp with hp; subst hp
                   refine f1 (v := .bool false) Try.results6 Try.ntmps6 rfl ?_
                   exact ⟨_, rfl, k _ hc⟩
                 · replace hp := gpos hp (of_decide_eq_true hb95)
                   refine rs (v := .slice (some ⟨b89, o90, none⟩) r56.1.length q59) (mv (v := .slice (some ⟨b89, o90, none⟩) r56.1.length q59) rfl) rfl ?_
                   replace hp := bind_some hp; obtain ⟨y96, hy96, hp⟩ := hp
                   obtain ⟨b99, o100, u101, hi97, hi98⟩ := Ctx.rdAt hc (k := 0) rfl rfl reads_own hy96
                   clear u101
                   refine rs (v := .pointer (some ⟨b89, o90 + ((1 : Int)).toNat * 1, none⟩)) (ixx rfl rfl Try.underlying33 Try.sizeOf27 hi97 hi98 rfl) rfl ?_
                   replace hc := Ctx.rdCell hc (k := 0) rfl rfl reads_own hy96; obtain ⟨cs102, hc, hcell103⟩ := hc
                   replace hc := Ctx.holdC hc; obtain ⟨u104, hc⟩ := hc; subst u104
                   refine rs (v := .int .i64 y96) (ld rfl Try.isAgg27 (hcell103 0 _ rfl)) rfl ?_
                   refine rs (v := .bool (decide (y96 = 0))) (eqd rfl rfl) rfl ?_
                   refine rs (v := .bool (decide (y96 = 0))) (pkt (v := .bool (decide (y96 = 0))) rfl rfl) rfl ?_
                   refine rs (v := .bool (decide (y96 = 0))) (av (v := .bool (decide (y96 = 0))) rfl) rfl ?_
                   refine rn ?_
                   refine qn ?_
                   refine Wret ?_
                   replace hc := hc.rem 10 rfl rfl
                   replace hc := hc.rem 9 rfl rfl
                   replace hc := hc.rem 8 rfl rfl
                   replace hc := hc.rem 7 rfl rfl
                   replace hc := hc.rem 6 rfl rfl
                   replace hc := hc.rem 5 rfl rfl
                   replace hc := hc.rem 4 rfl rfl
                   replace hc := hc.rem 3 rfl rfl
                   replace hc := hc.rem 2 rfl rfl
                   replace hc := hc.rem 1 rfl rfl
                   replace hc := hc.rem 0 rfl rfl
                   injection hp with hp; subst hp
                   refine f1 (v := .bool (decide (y96 = 0))) Try.results6 Try.ntmps6 rfl ?_
                   exact ⟨_, rfl, k _ hc⟩
   · replace hp := gpos hp (of_decide_eq_true hb11)
     refine Wct rfl ?_
     refine Wseq ?_
     refine Wreg ?_
     refine rs (v := .bool false) (av (v := .bool false) rfl) rfl ?_
     refine rn ?_
     refine qn ?_
     refine Wret ?_
     refine qr ?_
     replace hc := hc.rem 0 rfl rfl
     injection hp with hp; subst hp
     refine f1 (v := .bool false) Try.results6 Try.ntmps6 rfl ?_
     exact ⟨_, rfl, k _ hc⟩

-- FN peloton/pelotonlaw21.AdmitFair
def law21_AdmitFair.L2 (N : Nat) (j36 : S_admit_Desk) (j38 : (List Int)) : Nat → S_admit_Desk → Int → Option (Bool)
  | 0, _, _ => none
  | m2 + 1, j52, j53 =>
    if j53 < ((j38.length : Nat) : Int) then
      (admit_Desk_Take j52).bind fun r69 =>
      if r69.2.1 = true then
        (idx j38 j53).bind fun y81 =>
        if r69.1.ID ≠ y81 then
          some false
        else
          (idx j38 j53).bind fun y91 =>
          (admit_Desk_Took r69.2.2 y91).bind fun r100 =>
          if r100 = true then
            (idx j38 j53).bind fun y103 =>
            (law21_asks y103).bind fun r112 =>
            (admit_Desk_Judge N r69.2.2 r112).bind fun r118 =>
            if r118 ≠ 210 then
              some false
            else
              (law21_AdmitFair.L2 N j36 j38 m2) r69.2.2 (IntKind.i64.wrap (j53 + 1))
          else
            some false
      else
        some false
    else
      (admit_Desk_Take j52).bind fun r56 =>
      if r56.2.1 = true then
        some false
      else
        (admit_Desk_Len j36).bind fun r67 =>
        some (decide (r67 = ((j38.length : Nat) : Int)))

def law21_AdmitFair.J3 (j42 : Int) (k1 : S_admit_Desk → S_admit_Desk → (List Int) → Int → Option (Bool)) (j121 : S_admit_Desk) (j122 : S_admit_Desk) (j123 : (List Int)) : Option (Bool) :=
  k1 j121 j122 j123 (IntKind.i64.wrap (j42 + 1))

def law21_AdmitFair.L1 (N : Nat) (x0 : (List Int)) (x1 : S_api_Request) : Nat → S_admit_Desk → S_admit_Desk → (List Int) → Int → Option (Bool)
  | 0, _, _, _, _ => none
  | m1 + 1, j36, j37, j38, j42 =>
    if j42 < ((x0.length : Nat) : Int) then
      (idx x0 j42).bind fun y127 =>
      (some (Int.tmod (IntKind.i64.wrap ((Int.tmod y127 30) + 30)) 30)).bind fun e136 =>
      (law21_asks e136).bind fun r137 =>
      (admit_Desk_Submit N j37 ([r137])).bind fun r145 =>
      (admit_Desk_Submit N j36 ([(⟨e136, 1, [2, 3]⟩ : S_api_Request)])).bind fun r155 =>
      if ((r145.1.length : Nat) : Int) ≠ 1 then
        some false
      else
        if ((r155.1.length : Nat) : Int) ≠ 1 then
          some false
        else
          (idx r145.1 (0 : Int)).bind fun y164 =>
          (idx r155.1 (0 : Int)).bind fun y173 =>
          if y164 ≠ y173 then
            some false
          else
            (idx r145.1 (0 : Int)).bind fun y183 =>
            if y183 = 0 then
              (app j38 ([e136])).bind fun z195 =>
              law21_AdmitFair.J3 j42 (law21_AdmitFair.L1 N x0 x1 m1) r155.2 r145.2 z195
            else
              law21_AdmitFair.J3 j42 (law21_AdmitFair.L1 N x0 x1 m1) r155.2 r145.2 j38
    else
      (admit_Desk_Judge N j37 (⟨x1.ID, x1.Most, x1.Prompt⟩ : S_api_Request)).bind fun r47 =>
      (admit_Desk_Judge N j36 (⟨x1.ID, x1.Most, x1.Prompt⟩ : S_api_Request)).bind fun r49 =>
      if r47 ≠ r49 then
        some false
      else
        law21_AdmitFair.L2 N j36 j38 N j37 0

def law21_AdmitFair (N : Nat) (x0 : (List Int)) (x1 : S_api_Request) (x2 : Int) : Option (Bool) :=
  (law21_awake N).bind fun r8 =>
  if r8 = true then
    if ((x0.length : Nat) : Int) > 40 then
      (law21_awake N).bind fun r205 =>
      some r205
    else
      if ((x1.Prompt.length : Nat) : Int) > 300 then
        (law21_awake N).bind fun r203 =>
        some r203
      else
        (some (Int.tmod (IntKind.i64.wrap ((Int.tmod x2 20) + 20)) 20)).bind fun e15 =>
        (law21_shape).bind fun r16 =>
        (admit_New r16 e15).bind fun r18 =>
        (law21_shape).bind fun r21 =>
        (admit_New r21 e15).bind fun r23 =>
        optc r18.1 (
          some false) fun y27 =>
        optc r23.1 (
          some false) fun y32 =>
        law21_AdmitFair.L1 N x0 x1 N y32 y27 ([]) 0
  else
    (law21_awake N).bind fun r11 =>
    some r11

set_option maxHeartbeats 2000000 in
theorem law21_AdmitFair_any {N : Nat} {x0 : (List Int)} {ax0 : Option Addr} {nx0 : Nat} {qx0 : Nat} {P0 : HP} {x1 : S_api_Request} {a1 : Option Addr} {n2 : Nat} {q3 : Nat} {x2 : Int} {Fr : List HP} {w : World} {r : Bool} {K : Value → World → Prop} (hrd0 : Reads P0 (pInt .i64) (.slice ax0 nx0 qx0) x0) (hc : Ctx w (P0 :: Hold (pRo (pInt .i64)) [.slice a1 n2 q3] x1.Prompt :: Fr)) (hp : law21_AdmitFair N x0 x1 x2 = some r)
    (k : ∀ w', Ctx w' (P0 :: Fr) → K (.bool r) w') : Calls Try.prog 3 #[.slice ax0 nx0 qx0, .agg #[.int .i64 x1.ID, .int .i64 x1.Most, .slice a1 n2 q3], .int .i64 x2] w (Ret K) := by
 unfold law21_AdmitFair at hp
 refine Center (args := [.slice ax0 nx0 qx0, .agg #[.int .i64 x1.ID, .int .i64 x1.Most, .slice a1 n2 q3], .int .i64 x2]) (l := [(0, .slice ax0 nx0 qx0), (1, .agg #[.int .i64 x1.ID, .int .i64 x1.Most, .slice a1 n2 q3]), (2, .int .i64 x2)]) Try.func3 Try.ntmps3 rfl rfl rfl ?_
 obtain ⟨hn0, _⟩ := Ctx.rdLen hc (k := 0) rfl rfl hrd0; subst hn0
 obtain ⟨u4, _⟩ := Ctx.rdLen hc (k := 1) rfl rfl reads_ro; subst u4
 refine Wseq ?_
 refine Wreg ?_
 refine rsE (Ctx.boxOp (cs := [.int .i64 x1.ID, .int .i64 x1.Most, .slice a1 x1.Prompt.length q3]) (v := .agg #[.int .i64 x1.ID, .int .i64 x1.Most, .slice a1 x1.Prompt.length q3]) hc rfl rfl) rfl ?_
 clear hc; rintro _ w7 ⟨b5, rfl, hc⟩
 refine rs (v := .bool false) (av (v := .bool false) rfl) rfl ?_
 refine rn ?_
 refine qn ?_
 refine Wseq ?_
 refine Wseq ?_
 refine Wreg ?_
 replace hp := bind_some hp; obtain ⟨r8, hr8, hp⟩ := hp
 refine rc (cl Try.call6 rfl rfl) rfl ?_
 refine law21_awake_any hc hr8 ?_
 clear hc; intro w9 hc
 cases hb10 : r8
 · replace hp := gneg hp (by rw [hb10]; exact Bool.false_ne_true)
   subst hb10
   refine rs (v := .bool true) (ntf rfl) rfl ?_
   refine rs (v := .bool true) (mv (v := .bool true) rfl) rfl ?_
   refine r0 rfl ?_
   refine r0 rfl ?_
   refine r0 rfl ?_
   refine rs (v := .bool true) (pkt (v := .bool true) rfl rfl) rfl ?_
   refine rs (v := .bool true) (mv (v := .bool true) rfl) rfl ?_
   refine r0 rfl ?_
   refine r0 rfl ?_
   refine r0 rfl ?_
   refine r0 rfl ?_
   refine rs (v := .bool true) (pkt (v := .bool true) rfl rfl) rfl ?_
   refine rn ?_
   refine qn ?_
   refine Wct rfl ?_
   refine Wseq ?_
   refine Wreg ?_
   replace hp := bind_some hp; obtain ⟨r11, hr11, hp⟩ := hp
   refine rc (cl Try.call6 rfl rfl) rfl ?_
   refine law21_awake_any hc hr11 ?_
   clear hc; intro w12 hc
   refine rs (v := .bool r11) (av (v := .bool r11) rfl) rfl ?_
   refine rn ?_
   refine qn ?_
   refine Wret ?_
   refine qr ?_
   replace hc := hc.rem 2 rfl rfl
   replace hc := hc.rem 0 rfl rfl
   injection hp with hp; subst hp
   refine f1 (v := .bool r11) Try.results3 Try.ntmps3 rfl ?_
   exact ⟨_, rfl, k _ hc⟩
 · replace hp := gpos hp hb10
   subst hb10
   refine rs (v := .bool false) (ntt rfl) rfl ?_
   refine rs (v := .bool false) (mv (v := .bool false) rfl) rfl ?_
   refine rs (v := .slice ax0 x0.length qx0) (mv (v := .slice ax0 x0.length qx0) rfl) rfl ?_
   refine rs (v := .int .i64 ((x0.length : Nat) : Int)) (ln rfl Try.underlying22) rfl ?_
   refine rs (v := .bool (decide (((x0.length : Nat) : Int) > 40))) (gt' rfl rfl) rfl ?_
   refine rs (v := .bool (decide (((x0.length : Nat) : Int) > 40))) (pkf (v := .bool (decide (((x0.length : Nat) : Int) > 40))) rfl rfl) rfl ?_
   refine rs (v := .bool (decide (((x0.length : Nat) : Int) > 40))) (mv (v := .bool (decide (((x0.length : Nat) : Int) > 40))) rfl) rfl ?_
   cases hb13 : (decide (((x0.length : Nat) : Int) > 40))
   · replace hp := gneg hp (of_decide_eq_false hb13)
     refine rs (v := .pointer (some ⟨b5, 2, none⟩)) (fax 2 rfl Try.underlying24 rfl Try.sizeOf22 rfl rfl rfl) rfl ?_
     refine rs (v := .slice a1 x1.Prompt.length q3) (ld rfl Try.isAgg22 (Ctx.cell hc (k := 0) rfl rfl rfl)) rfl ?_
     refine rs (v := .int .i64 ((x1.Prompt.length : Nat) : Int)) (ln rfl Try.underlying22) rfl ?_
     refine rs (v := .bool (decide (((x1.Prompt.length : Nat) : Int) > 300))) (gt' rfl rfl) rfl ?_
     refine rs (v := .bool (decide (((x1.Prompt.length : Nat) : Int) > 300))) (pkf (v := .bool (decide (((x1.Prompt.length : Nat) : Int) > 300))) rfl rfl) rfl ?_
     refine rn ?_
     refine qn ?_
     cases hb14 : (decide (((x1.Prompt.length : Nat) : Int) > 300))
     · replace hp := gneg hp (of_decide_eq_false hb14)
       refine Wcf rfl ?_
       refine Wskip ?_
       refine qn ?_
       refine Wseq ?_
       refine Wreg ?_
       refine rs (v := .int .i64 x2) (mv (v := .int .i64 x2) rfl) rfl ?_
       refine rs (v := .int .i64 (Int.tmod x2 20)) (rm rfl rfl (by decide)) rfl ?_
       refine rs (v := .int .i64 (IntKind.i64.wrap ((Int.tmod x2 20) + 20))) (adw rfl rfl) rfl ?_
       refine rs (v := .int .i64 (Int.tmod (IntKind.i64.wrap ((Int.tmod x2 20) + 20)) 20)) (rm rfl rfl (by decide)) rfl ?_
       replace hp := bind_some hp; obtain ⟨e15, he15, hp⟩ := hp
       injection he15 with he15
       refine rs (v := .int .i64 e15) (av (v := .int .i64 e15) (by rw [← he15]; rfl)) rfl ?_
       refine rn ?_
       refine qn ?_
       refine Wseq ?_
       refine Wreg ?_
       replace hp := bind_some hp; obtain ⟨r16, hr16, hp⟩ := hp
       refine rc (cl Try.call8 rfl rfl) rfl ?_
       refine law21_shape_any hc hr16 ?_
       clear hc; intro w17 hc
       refine rs (v := .int .i64 e15) (mv (v := .int .i64 e15) rfl) rfl ?_
       replace hp := bind_some hp; obtain ⟨r18, hr18, hp⟩ := hp
       refine rc (cl Try.call7 rfl rfl) rfl ?_
       refine admit_New_any hc hr18 ?_
       clear hc; intro v19 w20 hc
       refine rs (v := .tuple #[v19, .int .i64 r18.2]) (mv (v := .tuple #[v19, .int .i64 r18.2]) rfl) rfl ?_
       refine rs (v := v19) (ext (v := v19) rfl rfl) rfl ?_
       refine rs (v := .int .i64 r18.2) (ext (v := .int .i64 r18.2) rfl rfl) rfl ?_
       refine rs (v := v19) (av (v := v19) rfl) rfl ?_
       refine rs (v := .int .i64 r18.2) (av (v := .int .i64 r18.2) rfl) rfl ?_
       refine rn ?_
       refine qn ?_
       refine Wseq ?_
       refine Wreg ?_
       replace hp := bind_some hp; obtain ⟨r21, hr21, hp⟩ := hp
       refine rc (cl Try.call8 rfl rfl) rfl ?_
       refine law21_shape_any hc hr21 ?_
       clear hc; intro w22 hc
       refine rs (v := .int .i64 e15) (mv (v := .int .i64 e15) rfl) rfl ?_
       replace hp := bind_some hp; obtain ⟨r23, hr23, hp⟩ := hp
       refine rc (cl Try.call7 rfl rfl) rfl ?_
       refine admit_New_any hc hr23 ?_
       clear hc; intro v24 w25 hc
       refine rs (v := .tuple #[v24, .int .i64 r23.2]) (mv (v := .tuple #[v24, .int .i64 r23.2]) rfl) rfl ?_
       refine rs (v := v24) (ext (v := v24) rfl rfl) rfl ?_
       refine rs (v := .int .i64 r23.2) (ext (v := .int .i64 r23.2) rfl rfl) rfl ?_
       refine rs (v := v24) (av (v := v24) rfl) rfl ?_
       refine rs (v := .int .i64 r23.2) (av (v := .int .i64 r23.2) rfl) rfl ?_
       refine rn ?_
       refine qn ?_
       refine Wseq ?_
       refine Wseq ?_
       refine Wreg ?_
       refine rs (v := v19) (mv (v := v19) rfl) rfl ?_
       replace hc := hc.pull 1 rfl rfl
       replace hc : Ctx w25 (PtO S_admit_Desk.hp v19 r18.1 :: PtO S_admit_Desk.hp v24 r23.1 :: B b5 [.int .i64 x1.ID, .int .i64 x1.Most, .slice a1 x1.Prompt.length q3] 24 :: P0 :: Hold (pRo (pInt .i64)) [.slice a1 x1.Prompt.length q3] x1.Prompt :: Fr) := hc
       cases hb26 : r18.1
       · replace hp := optN hp hb26
         rw [hb26] at hc
         replace hc := Ctx.ptoN hc; obtain ⟨u28, hc⟩ := hc; subst u28
         refine rs (v := .bool true) (ept Try.underlying26 rfl rfl) rfl ?_
         refine rs (v := .bool true) (mv (v := .bool true) rfl) rfl ?_
         refine r0 rfl ?_
         refine r0 rfl ?_
         refine rs (v := .bool true) (pkt (v := .bool true) rfl rfl) rfl ?_
         refine rn ?_
         refine qn ?_
         refine Wct rfl ?_
         refine Wseq ?_
         refine Wreg ?_
         refine rs (v := .bool false) (av (v := .bool false) rfl) rfl ?_
         refine rn ?_
         refine qn ?_
         refine Wret ?_
         refine qr ?_
         replace hc := hc.rem 3 rfl rfl
         replace hc := hc.rem 1 rfl rfl
         replace hc := hc.rem 0 rfl rfl
         injection hp with hp; subst hp
         refine f1 (v := .bool false) Try.results3 Try.ntmps3 rfl ?_
         exact ⟨_, rfl, k _ hc⟩
       · rename_i y27
         replace hp := optS hp hb26
         rw [hb26] at hc
         replace hc := Ctx.ptoS hc; obtain ⟨b29, u30, hc⟩ := hc; subst u30
         refine rs (v := .bool false) (epf Try.underlying26 rfl rfl) rfl ?_
         refine rs (v := .bool false) (mv (v := .bool false) rfl) rfl ?_
         refine rs (v := v24) (mv (v := v24) rfl) rfl ?_
         replace hc := hc.pull 1 rfl rfl
         replace hc : Ctx w25 (PtO S_admit_Desk.hp v24 r23.1 :: S_admit_Desk.hp b29 y27 :: B b5 [.int .i64 x1.ID, .int .i64 x1.Most, .slice a1 x1.Prompt.length q3] 24 :: P0 :: Hold (pRo (pInt .i64)) [.slice a1 x1.Prompt.length q3] x1.Prompt :: Fr) := hc
         cases hb31 : r23.1
         · replace hp := optN hp hb31
           rw [hb31] at hc
           replace hc := Ctx.ptoN hc; obtain ⟨u33, hc⟩ := hc; subst u33
           refine rs (v := .bool true) (ept Try.underlying26 rfl rfl) rfl ?_
           refine rs (v := .bool true) (pkf (v := .bool true) rfl rfl) rfl ?_
           refine rn ?_
           refine qn ?_
           refine Wct rfl ?_
           refine Wseq ?_
           refine Wreg ?_
           refine rs (v := .bool false) (av (v := .bool false) rfl) rfl ?_
           refine rn ?_
           refine qn ?_
           refine Wret ?_
           refine qr ?_
           replace hc := hc.rem 3 rfl rfl
           replace hc := hc.rem 1 rfl rfl
           replace hc := hc.rem 0 rfl rfl
           injection hp with hp; subst hp
           refine f1 (v := .bool false) Try.results3 Try.ntmps3 rfl ?_
           exact ⟨_, rfl, k _ hc⟩
         · rename_i y32
           replace hp := optS hp hb31
           rw [hb31] at hc
           replace hc := Ctx.ptoS hc; obtain ⟨b34, u35, hc⟩ := hc; subst u35
           refine rs (v := .bool false) (epf Try.underlying26 rfl rfl) rfl ?_
           refine rs (v := .bool false) (pkf (v := .bool false) rfl rfl) rfl ?_
           refine rn ?_
           refine qn ?_
           refine Wcf rfl ?_
           refine Wskip ?_
           refine qn ?_
           refine Wseq ?_
           refine Wreg ?_
           refine rs (v := .slice none 0 0) (av (v := .slice none 0 0) rfl) rfl ?_
           refine rn ?_
           refine qn ?_
           refine Wseq ?_
           refine Wseq ?_
           refine Wreg ?_
           refine rs (v := .int .i64 0) (av (v := .int .i64 0) rfl) rfl ?_
           refine rn ?_
           refine qn ?_
           refine Wblk ?_
           replace hc := hc.nilOwn (pInt .i64) 3
           replace hc := hc.pull 5 rfl rfl
           replace hc := hc.pull 5 rfl rfl
           replace hc := hc.pull 5 rfl rfl
           replace hc := hc.pull 5 rfl rfl
           replace hc := hc.pull 5 rfl rfl
           refine Wloop [6, 12, 13, 14, 15, 16, 58, 59, 60, 61, 62, 63, 64, 65, 66, 67, 68, 69, 70, 71, 72, 73, 74, 75, 76, 77, 78, 79, 80, 81, 82, 83, 84, 85, 86, 87, 88, 89, 90, 91, 92, 93, 94, 95, 96, 97, 98, 99, 100, 101, 102, 103, 104, 105, 106] [12, 13] (fun m vs w' => ∃ j36 : S_admit_Desk, ∃ j37 : S_admit_Desk, ∃ j38 : (List Int), ∃ j42 : Int, ∃ a39 : Option Addr, ∃ n40 : Nat, ∃ q41 : Nat, vs = [.slice a39 n40 q41, .int .i64 j42] ∧ law21_AdmitFair.L1 N x0 x1 m j36 j37 j38 j42 = some r ∧ Ctx w' (S_admit_Desk.hp b34 j36 :: S_admit_Desk.hp b29 j37 :: B b5 [.int .i64 x1.ID, .int .i64 x1.Most, .slice a1 x1.Prompt.length q3] 24 :: P0 :: Hold (pRo (pInt .i64)) [.slice a1 x1.Prompt.length q3] x1.Prompt :: Own (pInt .i64) 3 (.slice a39 n40 q41) j38 :: Fr)) N ?_ ?_
           · exact ⟨y32, y27, [], 0, none, 0, 0, rfl, hp, hc⟩
           · clear hp hc; intro m vs u w43 hJ
             obtain ⟨j36, j37, j38, j42, a39, n40, q41, rfl, hp, hc⟩ := hJ
             obtain ⟨u44, _⟩ := Ctx.rdLen hc (k := 5) rfl rfl reads_own; subst u44
             rcases m with _ | m1
             · cases (show none = some r from hp)
             rw [law21_AdmitFair.L1] at hp
             refine Wseq ?_
             refine Wseq ?_
             refine Wreg ?_
             refine rs (v := .int .i64 j42) (mv (v := .int .i64 j42) rfl) rfl ?_
             refine rs (v := .slice ax0 x0.length qx0) (mv (v := .slice ax0 x0.length qx0) rfl) rfl ?_
             refine rs (v := .int .i64 ((x0.length : Nat) : Int)) (ln rfl Try.underlying22) rfl ?_
             refine rs (v := .bool (decide (j42 < ((x0.length : Nat) : Int)))) (lt' rfl rfl) rfl ?_
             refine rn ?_
             refine qn ?_
             cases hb45 : (decide (j42 < ((x0.length : Nat) : Int)))
             · replace hp := gneg hp (of_decide_eq_false hb45)
               refine Wcf rfl ?_
               refine Wexit ?_
               refine qx ?_
               refine qx ?_
               refine be ?_
               refine qn ?_
               refine Wseq ?_
               refine Wseq ?_
               replace hc := hc.drew
               have hF : ∀ j, free [0, 0, 3, 0, 0, 31, 63] 0 j = true → (fun j w' => (j = 4 → ∀ j v, ([.int .i64 x1.ID, .int .i64 x1.Most, .slice a1 x1.Prompt.length q3] : List Value)[j]? = some v → w'.cell? ((⟨b5, 0, none⟩ : Addr).add j) = some v) ∧ True) j (World.drew w43) := fun j hj => ⟨fun _ => Ctx.cells hc (k := 2) rfl rfl 0 (vs := [.int .i64 x1.ID, .int .i64 x1.Most, .slice a1 x1.Prompt.length q3]) rfl, trivial⟩
               refine Wdrw (fun j w' => (j = 4 → ∀ j v, ([.int .i64 x1.ID, .int .i64 x1.Most, .slice a1 x1.Prompt.length q3] : List Value)[j]? = some v → w'.cell? ((⟨b5, 0, none⟩ : Addr).add j) = some v) ∧ True) [0, 0, 3, 0, 0, 31, 63] 0 2 rfl (by kernel_rfl) (hF) ?_
               generalize hw : World.drew w43 = w46 at *
               clear hw
               refine ds (v := .pointer (some ⟨b29, 0, none⟩)) rfl (fun w' hF => mv (v := .pointer (some ⟨b29, 0, none⟩)) rfl) rfl ?_
               refine dx (v := .agg #[.int .i64 x1.ID, .int .i64 x1.Most, .slice a1 x1.Prompt.length q3]) rfl (ldg rfl Try.isAgg24 Try.sizeOf24 rfl (Ctx.cells hc (k := 2) rfl rfl 0 (vs := [.int .i64 x1.ID, .int .i64 x1.Most, .slice a1 x1.Prompt.length q3]) rfl)) rfl rfl ?_
               replace hc := hc.dup (k := 4) rfl rfl
               replace hp := bind_some hp; obtain ⟨r47, hr47, hp⟩ := hp
               replace hc := hc.pull 2 rfl rfl
               refine dc (cl Try.call11 rfl rfl) rfl rfl ?_
               refine admit_Desk_Judge_any hc hr47 ?_
               clear hc; intro w48 hc
               refine ⟨fun j hj hb => ⟨fun _ => Ctx.cells hc (k := 2) rfl rfl 0 (vs := [.int .i64 x1.ID, .int .i64 x1.Most, .slice a1 x1.Prompt.length q3]) rfl, trivial⟩, ?_⟩
               refine ds (v := .pointer (some ⟨b34, 0, none⟩)) rfl (fun w' hF => mv (v := .pointer (some ⟨b34, 0, none⟩)) rfl) rfl ?_
               refine ds (v := .agg #[.int .i64 x1.ID, .int .i64 x1.Most, .slice a1 x1.Prompt.length q3]) rfl (fun w' hF => ldg rfl Try.isAgg24 Try.sizeOf24 rfl (hF.1 rfl)) rfl ?_
               replace hc := hc.dup (k := 4) rfl rfl
               replace hp := bind_some hp; obtain ⟨r49, hr49, hp⟩ := hp
               replace hc := hc.pull 2 rfl rfl
               refine dc (cl Try.call11 rfl rfl) rfl rfl ?_
               refine admit_Desk_Judge_any hc hr49 ?_
               clear hc; intro w50 hc
               refine ⟨fun j hj hb => ⟨fun e => (by subst e; exact absurd hj (by decide)), trivial⟩, ?_⟩
               refine ds (v := .bool (decide (r47 ≠ r49))) rfl (fun w' hF => ned rfl rfl) rfl ?_
               refine dn ?_
               refine qn ?_
               cases hb51 : (decide (r47 ≠ r49))
               · replace hp := gneg hp (of_decide_eq_false hb51)
                 refine Wcf rfl ?_
                 refine Wskip ?_
                 refine qn ?_
                 refine Wseq ?_
                 refine Wseq ?_
                 refine Wreg ?_
                 refine rs (v := .int .i64 0) (av (v := .int .i64 0) rfl) rfl ?_
                 refine rn ?_
                 refine qn ?_
                 refine Wblk ?_
                 replace hc := hc.rem 4 rfl rfl
                 replace hc := hc.rem 2 rfl rfl
                 refine Wloop [6, 17, 18, 19, 114, 115, 116, 117, 118, 119, 120, 121, 122, 123, 124, 125, 126, 127, 128, 129, 130, 131, 132, 133, 134, 135, 136, 137, 138, 139, 140, 141, 142, 143, 144, 145, 146, 147, 148, 149, 150, 151, 152, 153, 154] [17] (fun m vs w' => ∃ j52 : S_admit_Desk, ∃ j53 : Int, vs = [.int .i64 j53] ∧ law21_AdmitFair.L2 N j36 j38 m j52 j53 = some r ∧ Ctx w' (S_admit_Desk.hp b34 j36 :: S_admit_Desk.hp b29 j52 :: P0 :: Own (pInt .i64) 3 (.slice a39 j38.length q41) j38 :: Fr)) N ?_ ?_
                 · exact ⟨j37, 0, rfl, hp, hc⟩
                 · clear hp hc; intro m vs u w54 hJ
                   obtain ⟨j52, j53, rfl, hp, hc⟩ := hJ
                   rcases m with _ | m2
                   · cases (show none = some r from hp)
                   rw [law21_AdmitFair.L2] at hp
                   refine Wseq ?_
                   refine Wseq ?_
                   refine Wreg ?_
                   refine rs (v := .int .i64 j53) (mv (v := .int .i64 j53) rfl) rfl ?_
                   refine rs (v := .slice a39 j38.length q41) (mv (v := .slice a39 j38.length q41) rfl) rfl ?_
                   refine rs (v := .int .i64 ((j38.length : Nat) : Int)) (ln rfl Try.underlying22) rfl ?_
                   refine rs (v := .bool (decide (j53 < ((j38.length : Nat) : Int)))) (lt' rfl rfl) rfl ?_
                   refine rn ?_
                   refine qn ?_
                   cases hb55 : (decide (j53 < ((j38.length : Nat) : Int)))
                   · replace hp := gneg hp (of_decide_eq_false hb55)
                     refine Wcf rfl ?_
                     refine Wexit ?_
                     refine qx ?_
                     refine qx ?_
                     refine be ?_
                     refine qn ?_
                     refine Wseq ?_
                     refine Wreg ?_
                     refine rs (v := .pointer (some ⟨b29, 0, none⟩)) (mv (v := .pointer (some ⟨b29, 0, none⟩)) rfl) rfl ?_
                     replace hp := bind_some hp; obtain ⟨r56, hr56, hp⟩ := hp
                     replace hc := hc.pull 1 rfl rfl
                     refine rc (cl Try.call12 rfl rfl) rfl ?_
                     refine admit_Desk_Take_any hc hr56 ?_
                     clear hc; intro a57 n58 q59 w60 hc
                     obtain ⟨u61, _⟩ := Ctx.rdLen hc (k := 0) rfl rfl reads_ro; subst u61
                     refine rs (v := .tuple #[.agg #[.int .i64 r56.1.ID, .int .i64 r56.1.Most, .slice a57 r56.1.Prompt.length q59], .bool r56.2.1]) (mv (v := .tuple #[.agg #[.int .i64 r56.1.ID, .int .i64 r56.1.Most, .slice a57 r56.1.Prompt.length q59], .bool r56.2.1]) rfl) rfl ?_
                     refine rs (v := .agg #[.int .i64 r56.1.ID, .int .i64 r56.1.Most, .slice a57 r56.1.Prompt.length q59]) (ext (v := .agg #[.int .i64 r56.1.ID, .int .i64 r56.1.Most, .slice a57 r56.1.Prompt.length q59]) rfl rfl) rfl ?_
                     refine rs (v := .bool r56.2.1) (ext (v := .bool r56.2.1) rfl rfl) rfl ?_
                     refine rsE (Ctx.allocOp (cs := [.int .i64 0, .int .i64 0, .slice none 0 0]) hc Try.zeroValue24 rfl) rfl ?_
                     clear hc; rintro _ w64 ⟨b62, rfl, hc⟩
                     refine ruE (A := fun w' => Ctx w' (B b62 [.int .i64 r56.1.ID, .int .i64 r56.1.Most, .slice a57 r56.1.Prompt.length q59] 24 :: Hold (pRo (pInt .i64)) [.slice a57 r56.1.Prompt.length q59] r56.1.Prompt :: S_admit_Desk.hp b29 r56.2.2 :: S_admit_Desk.hp b34 j36 :: P0 :: Own (pInt .i64) 3 (.slice a39 j38.length q41) j38 :: Fr)) (Ctx.putAgg hc (k := 0) rfl rfl (vs := [.int .i64 r56.1.ID, .int .i64 r56.1.Most, .slice a57 r56.1.Prompt.length q59]) rfl rfl rfl Try.sizeOf24 rfl rfl rfl) rfl ?_
                     clear hc; rintro w65 hc
                     refine rs (v := .bool r56.2.1) (av (v := .bool r56.2.1) rfl) rfl ?_
                     refine rn ?_
                     refine qn ?_
                     refine Wseq ?_
                     refine Wreg ?_
                     refine rs (v := .bool r56.2.1) (mv (v := .bool r56.2.1) rfl) rfl ?_
                     cases hb66 : r56.2.1
                     · replace hp := gneg hp (by rw [hb66]; exact Bool.false_ne_true)
                       refine rs (v := .bool true) (ntf rfl) rfl ?_
                       refine rs (v := .bool true) (mv (v := .bool true) rfl) rfl ?_
                       refine rs (v := .pointer (some ⟨b34, 0, none⟩)) (mv (v := .pointer (some ⟨b34, 0, none⟩)) rfl) rfl ?_
                       replace hp := bind_some hp; obtain ⟨r67, hr67, hp⟩ := hp
                       replace hc := hc.pull 3 rfl rfl
                       refine rc (cl Try.call14 rfl rfl) rfl ?_
                       refine admit_Desk_Len_any hc hr67 ?_
                       clear hc; intro w68 hc
                       refine rs (v := .slice a39 j38.length q41) (mv (v := .slice a39 j38.length q41) rfl) rfl ?_
                       refine rs (v := .int .i64 ((j38.length : Nat) : Int)) (ln rfl Try.underlying22) rfl ?_
                       refine rs (v := .bool (decide (r67 = ((j38.length : Nat) : Int)))) (eqd rfl rfl) rfl ?_
                       refine rs (v := .bool (decide (r67 = ((j38.length : Nat) : Int)))) (pkt (v := .bool (decide (r67 = ((j38.length : Nat) : Int)))) rfl rfl) rfl ?_
                       refine rs (v := .bool (decide (r67 = ((j38.length : Nat) : Int)))) (av (v := .bool (decide (r67 = ((j38.length : Nat) : Int)))) rfl) rfl ?_
                       refine rn ?_
                       refine qn ?_
                       refine Wret ?_
                       replace hc := hc.rem 5 rfl rfl
                       replace hc := hc.rem 3 rfl rfl
                       replace hc := hc.rem 2 rfl rfl
                       replace hc := hc.rem 1 rfl rfl
                       replace hc := hc.rem 0 rfl rfl
                       injection hp with hp; subst hp
                       refine f1 (v := .bool (decide (r67 = ((j38.length : Nat) : Int)))) Try.results3 Try.ntmps3 rfl ?_
                       exact ⟨_, rfl, k _ hc⟩
                     · replace hp := gpos hp hb66
                       refine rs (v := .bool false) (ntt rfl) rfl ?_
                       refine rs (v := .bool false) (mv (v := .bool false) rfl) rfl ?_
                       refine r0 rfl ?_
                       refine r0 rfl ?_
                       refine r0 rfl ?_
                       refine r0 rfl ?_
                       refine r0 rfl ?_
                       refine rs (v := .bool false) (pkf (v := .bool false) rfl rfl) rfl ?_
                       refine rs (v := .bool false) (av (v := .bool false) rfl) rfl ?_
                       refine rn ?_
                       refine qn ?_
                       refine Wret ?_
                       replace hc := hc.rem 5 rfl rfl
                       replace hc := hc.rem 3 rfl rfl
                       replace hc := hc.rem 2 rfl rfl
                       replace hc := hc.rem 1 rfl rfl
                       replace hc := hc.rem 0 rfl rfl
                       injection hp with hp; subst hp
                       refine f1 (v := .bool false) Try.results3 Try.ntmps3 rfl ?_
                       exact ⟨_, rfl, k _ hc⟩
                   · replace hp := gpos hp (of_decide_eq_true hb55)
                     refine Wct rfl ?_
                     refine Wskip ?_
                     refine qn ?_
                     refine Wseq ?_
                     refine Wblk ?_
                     refine Wseq ?_
                     refine Wreg ?_
                     refine rs (v := .pointer (some ⟨b29, 0, none⟩)) (mv (v := .pointer (some ⟨b29, 0, none⟩)) rfl) rfl ?_
                     replace hp := bind_some hp; obtain ⟨r69, hr69, hp⟩ := hp
                     replace hc := hc.pull 1 rfl rfl
                     refine rc (cl Try.call12 rfl rfl) rfl ?_
                     refine admit_Desk_Take_any hc hr69 ?_
                     clear hc; intro a70 n71 q72 w73 hc
                     obtain ⟨u74, _⟩ := Ctx.rdLen hc (k := 0) rfl rfl reads_ro; subst u74
                     refine rs (v := .tuple #[.agg #[.int .i64 r69.1.ID, .int .i64 r69.1.Most, .slice a70 r69.1.Prompt.length q72], .bool r69.2.1]) (mv (v := .tuple #[.agg #[.int .i64 r69.1.ID, .int .i64 r69.1.Most, .slice a70 r69.1.Prompt.length q72], .bool r69.2.1]) rfl) rfl ?_
                     refine rs (v := .agg #[.int .i64 r69.1.ID, .int .i64 r69.1.Most, .slice a70 r69.1.Prompt.length q72]) (ext (v := .agg #[.int .i64 r69.1.ID, .int .i64 r69.1.Most, .slice a70 r69.1.Prompt.length q72]) rfl rfl) rfl ?_
                     refine rs (v := .bool r69.2.1) (ext (v := .bool r69.2.1) rfl rfl) rfl ?_
                     refine rsE (Ctx.allocOp (cs := [.int .i64 0, .int .i64 0, .slice none 0 0]) hc Try.zeroValue24 rfl) rfl ?_
                     clear hc; rintro _ w77 ⟨b75, rfl, hc⟩
                     refine ruE (A := fun w' => Ctx w' (B b75 [.int .i64 r69.1.ID, .int .i64 r69.1.Most, .slice a70 r69.1.Prompt.length q72] 24 :: Hold (pRo (pInt .i64)) [.slice a70 r69.1.Prompt.length q72] r69.1.Prompt :: S_admit_Desk.hp b29 r69.2.2 :: S_admit_Desk.hp b34 j36 :: P0 :: Own (pInt .i64) 3 (.slice a39 j38.length q41) j38 :: Fr)) (Ctx.putAgg hc (k := 0) rfl rfl (vs := [.int .i64 r69.1.ID, .int .i64 r69.1.Most, .slice a70 r69.1.Prompt.length q72]) rfl rfl rfl Try.sizeOf24 rfl rfl rfl) rfl ?_
                     clear hc; rintro w78 hc
                     refine rs (v := .bool r69.2.1) (av (v := .bool r69.2.1) rfl) rfl ?_
                     refine rn ?_
                     refine qn ?_
                     refine Wseq ?_
                     replace hc := hc.drew
                     refine Wdrw (fun j w' => True) [0, 1, 3, 7, 15, 7, 7, 103, 231, 511, 1023, 2047, 4095, 4095, 4095, 28671, 61439, 131071, 262143, 524287, 1048575, 2097151, 2097151, 2097151, 14680063, 31457279, 65011711, 134217727, 268435455, 536870911] 0 33620240 rfl (by kernel_rfl) (fun _ _ => trivial) ?_
                     generalize hw : World.drew w78 = w79 at *
                     clear hw
                     refine ds (v := .bool r69.2.1) rfl (fun w' hF => mv (v := .bool r69.2.1) rfl) rfl ?_
                     cases hb80 : r69.2.1
                     · replace hp := gneg hp (by rw [hb80]; exact Bool.false_ne_true)
                       refine ds (v := .bool true) rfl (fun w' hF => ntf rfl) rfl ?_
                       refine ds (v := .bool true) rfl (fun w' hF => mv (v := .bool true) rfl) rfl ?_
                       refine d0 rfl rfl ?_
                       refine d0 rfl rfl ?_
                       refine d0 rfl rfl ?_
                       refine d0 rfl rfl ?_
                       refine d0 rfl rfl ?_
                       refine d0 rfl rfl ?_
                       refine d0 rfl rfl ?_
                       refine ds (v := .bool true) rfl (fun w' hF => pkt (v := .bool true) rfl rfl) rfl ?_
                       refine ds (v := .bool true) rfl (fun w' hF => mv (v := .bool true) rfl) rfl ?_
                       refine d0 rfl rfl ?_
                       refine d0 rfl rfl ?_
                       refine d0 rfl rfl ?_
                       refine d0 rfl rfl ?_
                       refine d0 rfl rfl ?_
                       refine d0 rfl rfl ?_
                       refine d0 rfl rfl ?_
                       refine ds (v := .bool true) rfl (fun w' hF => pkt (v := .bool true) rfl rfl) rfl ?_
                       refine ds (v := .bool true) rfl (fun w' hF => mv (v := .bool true) rfl) rfl ?_
                       refine d0 rfl rfl ?_
                       refine d0 rfl rfl ?_
                       refine d0 rfl rfl ?_
                       refine d0 rfl rfl ?_
                       refine d0 rfl rfl ?_
                       refine d0 rfl rfl ?_
                       refine d0 rfl rfl ?_
                       refine d0 rfl rfl ?_
                       refine ds (v := .bool true) rfl (fun w' hF => pkt (v := .bool true) rfl rfl) rfl ?_
                       refine dn ?_
                       refine qn ?_
                       refine Wct rfl ?_
                       refine Wseq ?_
                       refine Wreg ?_
                       refine rs (v := .bool false) (av (v := .bool false) rfl) rfl ?_
                       refine rn ?_
                       refine qn ?_
                       refine Wret ?_
                       refine br ?_
                       refine qr ?_
                       refine qr ?_
                       refine br ?_
                       refine qr ?_
                       replace hc := hc.rem 5 rfl rfl
                       replace hc := hc.rem 3 rfl rfl
                       replace hc := hc.rem 2 rfl rfl
                       replace hc := hc.rem 1 rfl rfl
                       replace hc := hc.rem 0 rfl rfl
                       injection hp with hp; subst hp
                       refine f1 (v := .bool false) Try.results3 Try.ntmps3 rfl ?_
                       exact ⟨_, rfl, k _ hc⟩
                     · replace hp := gpos hp hb80
                       refine ds (v := .bool false) rfl (fun w' hF => ntt rfl) rfl ?_
                       refine ds (v := .bool false) rfl (fun w' hF => mv (v := .bool false) rfl) rfl ?_
                       refine ds (v := .pointer (some ⟨b75, 0, none⟩)) rfl (fun w' hF => fax 0 rfl Try.underlying24 rfl Try.sizeOf3 rfl rfl rfl) rfl ?_
                       refine dx (v := .int .i64 r69.1.ID) rfl (ld rfl Try.isAgg3 (Ctx.cell hc (k := 0) rfl rfl rfl)) rfl rfl ?_
                       refine ds (v := .slice a39 j38.length q41) rfl (fun w' hF => mv (v := .slice a39 j38.length q41) rfl) rfl ?_
                       refine ds (v := .int .i64 j53) rfl (fun w' hF => mv (v := .int .i64 j53) rfl) rfl ?_
                       replace hp := bind_some hp; obtain ⟨y81, hy81, hp⟩ := hp
                       obtain ⟨b84, o85, u86, hi82, hi83⟩ := Ctx.rdAt hc (k := 5) rfl rfl reads_own hy81
                       subst u86
                       refine ds (v := .pointer (some ⟨b84, o85 + (j53).toNat * 1, none⟩)) rfl (fun w' hF => ixx rfl rfl Try.underlying22 Try.sizeOf3 hi82 hi83 rfl) rfl ?_
                       replace hc := Ctx.rdCell hc (k := 5) rfl rfl reads_own hy81; obtain ⟨cs87, hc, hcell88⟩ := hc
                       replace hc := Ctx.holdC hc; obtain ⟨u89, hc⟩ := hc; subst u89
                       refine dx (v := .int .i64 y81) rfl (ld rfl Try.isAgg3 (hcell88 0 _ rfl)) rfl rfl ?_
                       refine ds (v := .bool (decide (r69.1.ID ≠ y81))) rfl (fun w' hF => ned rfl rfl) rfl ?_
                       refine ds (v := .bool (decide (r69.1.ID ≠ y81))) rfl (fun w' hF => pkf (v := .bool (decide (r69.1.ID ≠ y81))) rfl rfl) rfl ?_
                       refine ds (v := .bool (decide (r69.1.ID ≠ y81))) rfl (fun w' hF => mv (v := .bool (decide (r69.1.ID ≠ y81))) rfl) rfl ?_
                       cases hb90 : (decide (r69.1.ID ≠ y81))
                       · replace hp := gneg hp (of_decide_eq_false hb90)
                         refine ds (v := .pointer (some ⟨b29, 0, none⟩)) rfl (fun w' hF => mv (v := .pointer (some ⟨b29, 0, none⟩)) rfl) rfl ?_
                         refine ds (v := .slice (some ⟨b84, o85, none⟩) j38.length q41) rfl (fun w' hF => mv (v := .slice (some ⟨b84, o85, none⟩) j38.length q41) rfl) rfl ?_
                         refine ds (v := .int .i64 j53) rfl (fun w' hF => mv (v := .int .i64 j53) rfl) rfl ?_
                         replace hp := bind_some hp; obtain ⟨y91, hy91, hp⟩ := hp
                         obtain ⟨b94, o95, u96, hi92, hi93⟩ := Ctx.rdAt hc (k := 5) rfl rfl reads_own hy91
                         clear u96
                         refine ds (v := .pointer (some ⟨b84, o85 + (j53).toNat * 1, none⟩)) rfl (fun w' hF => ixx rfl rfl Try.underlying22 Try.sizeOf3 hi92 hi93 rfl) rfl ?_
                         replace hc := Ctx.rdCell hc (k := 5) rfl rfl reads_own hy91; obtain ⟨cs97, hc, hcell98⟩ := hc
                         replace hc := Ctx.holdC hc; obtain ⟨u99, hc⟩ := hc; subst u99
                         refine dx (v := .int .i64 y91) rfl (ld rfl Try.isAgg3 (hcell98 0 _ rfl)) rfl rfl ?_
                         replace hp := bind_some hp; obtain ⟨r100, hr100, hp⟩ := hp
                         replace hc := hc.pull 2 rfl rfl
                         refine dc (cl Try.call13 rfl rfl) rfl rfl ?_
                         refine admit_Desk_Took_any hc hr100 ?_
                         clear hc; intro w101 hc
                         refine ⟨fun j hj hb => trivial, ?_⟩
                         cases hb102 : r100
                         · replace hp := gneg hp (by rw [hb102]; exact Bool.false_ne_true)
                           subst hb102
                           refine ds (v := .bool true) rfl (fun w' hF => ntf rfl) rfl ?_
                           refine ds (v := .bool true) rfl (fun w' hF => pkf (v := .bool true) rfl rfl) rfl ?_
                           refine ds (v := .bool true) rfl (fun w' hF => mv (v := .bool true) rfl) rfl ?_
                           refine d0 rfl rfl ?_
                           refine d0 rfl rfl ?_
                           refine d0 rfl rfl ?_
                           refine d0 rfl rfl ?_
                           refine d0 rfl rfl ?_
                           refine d0 rfl rfl ?_
                           refine d0 rfl rfl ?_
                           refine d0 rfl rfl ?_
                           refine ds (v := .bool true) rfl (fun w' hF => pkt (v := .bool true) rfl rfl) rfl ?_
                           refine dn ?_
                           refine qn ?_
                           refine Wct rfl ?_
                           refine Wseq ?_
                           refine Wreg ?_
                           refine rs (v := .bool false) (av (v := .bool false) rfl) rfl ?_
                           refine rn ?_
                           refine qn ?_
                           refine Wret ?_
                           refine br ?_
                           refine qr ?_
                           refine qr ?_
                           refine br ?_
                           refine qr ?_
                           replace hc := hc.rem 5 rfl rfl
                           replace hc := hc.rem 3 rfl rfl
                           replace hc := hc.rem 2 rfl rfl
                           replace hc := hc.rem 1 rfl rfl
                           replace hc := hc.rem 0 rfl rfl
                           injection hp with hp; subst hp
                           refine f1 (v := .bool false) Try.results3 Try.ntmps3 rfl ?_
                           exact ⟨_, rfl, k _ hc⟩
                         · replace hp := gpos hp hb102
                           subst hb102
                           refine ds (v := .bool false) rfl (fun w' hF => ntt rfl) rfl ?_
                           refine ds (v := .bool false) rfl (fun w' hF => pkf (v := .bool false) rfl rfl) rfl ?_
                           refine ds (v := .bool false) rfl (fun w' hF => mv (v := .bool false) rfl) rfl ?_
                           refine ds (v := .pointer (some ⟨b29, 0, none⟩)) rfl (fun w' hF => mv (v := .pointer (some ⟨b29, 0, none⟩)) rfl) rfl ?_
                           refine ds (v := .slice (some ⟨b84, o85, none⟩) j38.length q41) rfl (fun w' hF => mv (v := .slice (some ⟨b84, o85, none⟩) j38.length q41) rfl) rfl ?_
                           refine ds (v := .int .i64 j53) rfl (fun w' hF => mv (v := .int .i64 j53) rfl) rfl ?_
                           replace hp := bind_some hp; obtain ⟨y103, hy103, hp⟩ := hp
                           obtain ⟨b106, o107, u108, hi104, hi105⟩ := Ctx.rdAt hc (k := 5) rfl rfl reads_own hy103
                           clear u108
                           refine ds (v := .pointer (some ⟨b84, o85 + (j53).toNat * 1, none⟩)) rfl (fun w' hF => ixx rfl rfl Try.underlying22 Try.sizeOf3 hi104 hi105 rfl) rfl ?_
                           replace hc := Ctx.rdCell hc (k := 5) rfl rfl reads_own hy103; obtain ⟨cs109, hc, hcell110⟩ := hc
                           replace hc := Ctx.holdC hc; obtain ⟨u111, hc⟩ := hc; subst u111
                           refine dx (v := .int .i64 y103) rfl (ld rfl Try.isAgg3 (hcell110 0 _ rfl)) rfl rfl ?_
                           replace hp := bind_some hp; obtain ⟨r112, hr112, hp⟩ := hp
                           refine dc (cl Try.call10 rfl rfl) rfl rfl ?_
                           refine law21_asks_any hc hr112 ?_
                           clear hc; intro a113 n114 q115 w116 hc
                           obtain ⟨u117, _⟩ := Ctx.rdLen hc (k := 0) rfl rfl reads_ro; subst u117
                           refine ⟨fun j hj hb => trivial, ?_⟩
                           replace hc := hc.dup (k := 0) rfl rfl
                           replace hp := bind_some hp; obtain ⟨r118, hr118, hp⟩ := hp
                           replace hc := hc.pull 2 rfl rfl
                           refine dc (cl Try.call11 rfl rfl) rfl rfl ?_
                           refine admit_Desk_Judge_any hc hr118 ?_
                           clear hc; intro w119 hc
                           refine ⟨fun j hj hb => trivial, ?_⟩
                           refine ds (v := .bool (decide (r118 ≠ 210))) rfl (fun w' hF => ned rfl rfl) rfl ?_
                           refine ds (v := .bool (decide (r118 ≠ 210))) rfl (fun w' hF => pkf (v := .bool (decide (r118 ≠ 210))) rfl rfl) rfl ?_
                           refine dn ?_
                           refine qn ?_
                           cases hb120 : (decide (r118 ≠ 210))
                           · replace hp := gneg hp (of_decide_eq_false hb120)
                             refine Wcf rfl ?_
                             refine Wskip ?_
                             refine bn ?_
                             refine qn ?_
                             refine Wreg ?_
                             refine rs (v := .int .i64 j53) (mv (v := .int .i64 j53) rfl) rfl ?_
                             refine rs (v := .int .i64 (IntKind.i64.wrap (j53 + 1))) (adw rfl rfl) rfl ?_
                             refine rs (v := .int .i64 (IntKind.i64.wrap (j53 + 1))) (av (v := .int .i64 (IntKind.i64.wrap (j53 + 1))) rfl) rfl ?_
                             refine rn ?_
                             refine qn ?_
                             replace hc := hc.rem 3 rfl rfl
                             replace hc := hc.rem 2 rfl rfl
                             replace hc := hc.rem 1 rfl rfl
                             replace hc := hc.pull 3 rfl rfl
                             replace hc := hc.pull 3 rfl rfl
                             replace hc := hc.pull 2 rfl rfl
                             replace hc := hc.pull 3 rfl rfl
                             exact ⟨m2, Nat.lt_succ_self _, ⟨r69.2.2, (IntKind.i64.wrap (j53 + 1)), rfl, hp, hc⟩, (kl rfl k0)⟩
                           · replace hp := gpos hp (of_decide_eq_true hb120)
                             refine Wct rfl ?_
                             refine Wseq ?_
                             refine Wreg ?_
                             refine rs (v := .bool false) (av (v := .bool false) rfl) rfl ?_
                             refine rn ?_
                             refine qn ?_
                             refine Wret ?_
                             refine br ?_
                             refine qr ?_
                             refine qr ?_
                             refine br ?_
                             refine qr ?_
                             replace hc := hc.rem 6 rfl rfl
                             replace hc := hc.rem 4 rfl rfl
                             replace hc := hc.rem 3 rfl rfl
                             replace hc := hc.rem 2 rfl rfl
                             replace hc := hc.rem 1 rfl rfl
                             replace hc := hc.rem 0 rfl rfl
                             injection hp with hp; subst hp
                             refine f1 (v := .bool false) Try.results3 Try.ntmps3 rfl ?_
                             exact ⟨_, rfl, k _ hc⟩
                       · replace hp := gpos hp (of_decide_eq_true hb90)
                         refine d0 rfl rfl ?_
                         refine d0 rfl rfl ?_
                         refine d0 rfl rfl ?_
                         refine d0 rfl rfl ?_
                         refine d0 rfl rfl ?_
                         refine d0 rfl rfl ?_
                         refine d0 rfl rfl ?_
                         refine ds (v := .bool true) rfl (fun w' hF => pkt (v := .bool true) rfl rfl) rfl ?_
                         refine ds (v := .bool true) rfl (fun w' hF => mv (v := .bool true) rfl) rfl ?_
                         refine d0 rfl rfl ?_
                         refine d0 rfl rfl ?_
                         refine d0 rfl rfl ?_
                         refine d0 rfl rfl ?_
                         refine d0 rfl rfl ?_
                         refine d0 rfl rfl ?_
                         refine d0 rfl rfl ?_
                         refine d0 rfl rfl ?_
                         refine ds (v := .bool true) rfl (fun w' hF => pkt (v := .bool true) rfl rfl) rfl ?_
                         refine dn ?_
                         refine qn ?_
                         refine Wct rfl ?_
                         refine Wseq ?_
                         refine Wreg ?_
                         refine rs (v := .bool false) (av (v := .bool false) rfl) rfl ?_
                         refine rn ?_
                         refine qn ?_
                         refine Wret ?_
                         refine br ?_
                         refine qr ?_
                         refine qr ?_
                         refine br ?_
                         refine qr ?_
                         replace hc := hc.rem 5 rfl rfl
                         replace hc := hc.rem 3 rfl rfl
                         replace hc := hc.rem 2 rfl rfl
                         replace hc := hc.rem 1 rfl rfl
                         replace hc := hc.rem 0 rfl rfl
                         injection hp with hp; subst hp
                         refine f1 (v := .bool false) Try.results3 Try.ntmps3 rfl ?_
                         exact ⟨_, rfl, k _ hc⟩
               · replace hp := gpos hp (of_decide_eq_true hb51)
                 refine Wct rfl ?_
                 refine Wseq ?_
                 refine Wreg ?_
                 refine rs (v := .bool false) (av (v := .bool false) rfl) rfl ?_
                 refine rn ?_
                 refine qn ?_
                 refine Wret ?_
                 refine qr ?_
                 replace hc := hc.rem 5 rfl rfl
                 replace hc := hc.rem 4 rfl rfl
                 replace hc := hc.rem 2 rfl rfl
                 replace hc := hc.rem 1 rfl rfl
                 replace hc := hc.rem 0 rfl rfl
                 injection hp with hp; subst hp
                 refine f1 (v := .bool false) Try.results3 Try.ntmps3 rfl ?_
                 exact ⟨_, rfl, k _ hc⟩
             · replace hp := gpos hp (of_decide_eq_true hb45)
               refine Wct rfl ?_
               refine Wskip ?_
               refine qn ?_
               refine Wseqm [6, 12, 14, 15, 16, 64, 65, 66, 67, 68, 69, 70, 71, 72, 73, 74, 75, 76, 77, 78, 79, 80, 81, 82, 83, 84, 85, 86, 87, 88, 89, 90, 91, 92, 93, 94, 95, 96, 97, 98, 99, 100, 101, 102, 103, 104, 105, 106] [12] (fun vs w' => ∃ j121 : S_admit_Desk, ∃ j122 : S_admit_Desk, ∃ j123 : (List Int), ∃ a124 : Option Addr, ∃ n125 : Nat, ∃ q126 : Nat, vs = [.slice a124 n125 q126] ∧ law21_AdmitFair.J3 j42 (law21_AdmitFair.L1 N x0 x1 m1) j121 j122 j123 = some r ∧ Ctx w' (S_admit_Desk.hp b34 j121 :: S_admit_Desk.hp b29 j122 :: B b5 [.int .i64 x1.ID, .int .i64 x1.Most, .slice a1 x1.Prompt.length q3] 24 :: P0 :: Hold (pRo (pInt .i64)) [.slice a1 x1.Prompt.length q3] x1.Prompt :: Own (pInt .i64) 3 (.slice a124 n125 q126) j123 :: Fr)) ?_ ?_
               · refine Wblk ?_
                 refine Wseq ?_
                 refine Wreg ?_
                 refine rs (v := .slice ax0 x0.length qx0) (mv (v := .slice ax0 x0.length qx0) rfl) rfl ?_
                 refine rs (v := .int .i64 j42) (mv (v := .int .i64 j42) rfl) rfl ?_
                 replace hp := bind_some hp; obtain ⟨y127, hy127, hp⟩ := hp
                 obtain ⟨b130, o131, u132, hi128, hi129⟩ := Ctx.rdAt hc (k := 3) rfl rfl hrd0 hy127
                 subst u132
                 refine rs (v := .pointer (some ⟨b130, o131 + (j42).toNat * 1, none⟩)) (ixx rfl rfl Try.underlying22 Try.sizeOf3 hi128 hi129 rfl) rfl ?_
                 replace hc := Ctx.rdCell hc (k := 3) rfl rfl hrd0 hy127; obtain ⟨cs133, hc, hcell134⟩ := hc
                 replace hc := Ctx.holdC hc; obtain ⟨u135, hc⟩ := hc; subst u135
                 refine rs (v := .int .i64 y127) (ld rfl Try.isAgg3 (hcell134 0 _ rfl)) rfl ?_
                 refine rs (v := .int .i64 (Int.tmod y127 30)) (rm rfl rfl (by decide)) rfl ?_
                 refine rs (v := .int .i64 (IntKind.i64.wrap ((Int.tmod y127 30) + 30))) (adw rfl rfl) rfl ?_
                 refine rs (v := .int .i64 (Int.tmod (IntKind.i64.wrap ((Int.tmod y127 30) + 30)) 30)) (rm rfl rfl (by decide)) rfl ?_
                 replace hp := bind_some hp; obtain ⟨e136, he136, hp⟩ := hp
                 injection he136 with he136
                 refine rs (v := .int .i64 e136) (av (v := .int .i64 e136) (by rw [← he136]; rfl)) rfl ?_
                 refine rn ?_
                 refine qn ?_
                 refine Wseq ?_
                 refine Wreg ?_
                 refine rs (v := .pointer (some ⟨b29, 0, none⟩)) (mv (v := .pointer (some ⟨b29, 0, none⟩)) rfl) rfl ?_
                 refine rs (v := .int .i64 e136) (mv (v := .int .i64 e136) rfl) rfl ?_
                 replace hp := bind_some hp; obtain ⟨r137, hr137, hp⟩ := hp
                 refine rc (cl Try.call10 rfl rfl) rfl ?_
                 refine law21_asks_any hc hr137 ?_
                 clear hc; intro a138 n139 q140 w141 hc
                 obtain ⟨u142, _⟩ := Ctx.rdLen hc (k := 0) rfl rfl reads_ro; subst u142
                 replace hc := hc.dup (k := 0) rfl rfl
                 replace hc : Ctx w141 (Hold S_api_Request.pr [.int .i64 r137.ID, .int .i64 r137.Most, .slice a138 r137.Prompt.length q140] r137 :: Hold (pRo (pInt .i64)) [.slice a138 r137.Prompt.length q140] r137.Prompt :: S_admit_Desk.hp b34 j36 :: S_admit_Desk.hp b29 j37 :: B b5 [.int .i64 x1.ID, .int .i64 x1.Most, .slice a1 x1.Prompt.length q3] 24 :: P0 :: Hold (pRo (pInt .i64)) [.slice a1 x1.Prompt.length q3] x1.Prompt :: Own (pInt .i64) 3 (.slice a39 j38.length q41) j38 :: Fr) := S_api_Request.cl hc
                 refine rsE (Ctx.builtOp (css := [[.int .i64 r137.ID, .int .i64 r137.Most, .slice a138 r137.Prompt.length q140]]) (xs := ([r137] : List S_api_Request)) (E := S_api_Request.pr) hc Try.underlying45 Try.sizeOf24 Try.zeroValue24 rfl rfl rfl rfl rfl rfl rfl rfl) rfl ?_
                 clear hc; rintro _ w144 ⟨a143, rfl, hc⟩
                 replace hp := bind_some hp; obtain ⟨r145, hr145, hp⟩ := hp
                 replace hc := hc.pull 3 rfl rfl
                 refine rc (cl Try.call9 rfl rfl) rfl ?_
                 refine admit_Desk_Submit_any reads_own hc hr145 ?_
                 clear hc; intro a146 n147 q148 w149 hc
                 obtain ⟨u150, _⟩ := Ctx.rdLen hc (k := 0) rfl rfl reads_own; subst u150
                 refine rs (v := .slice a146 r145.1.length q148) (av (v := .slice a146 r145.1.length q148) rfl) rfl ?_
                 refine rn ?_
                 refine qn ?_
                 refine Wseq ?_
                 refine Wreg ?_
                 refine rs (v := .pointer (some ⟨b34, 0, none⟩)) (mv (v := .pointer (some ⟨b34, 0, none⟩)) rfl) rfl ?_
                 refine rs (v := .int .i64 e136) (mv (v := .int .i64 e136) rfl) rfl ?_
                 replace hc : Ctx w149 (Hold (pInt .i64) [.int .i64 3] 3 :: Own (pInt .i64) 27 (.slice a146 r145.1.length q148) r145.1 :: S_admit_Desk.hp b29 r145.2 :: Own S_api_Request.pr 24 (.slice a143 1 1) ([r137]) :: Hold (pRo (pInt .i64)) [.slice a138 r137.Prompt.length q140] r137.Prompt :: S_admit_Desk.hp b34 j36 :: B b5 [.int .i64 x1.ID, .int .i64 x1.Most, .slice a1 x1.Prompt.length q3] 24 :: P0 :: Hold (pRo (pInt .i64)) [.slice a1 x1.Prompt.length q3] x1.Prompt :: Own (pInt .i64) 3 (.slice a39 j38.length q41) j38 :: Fr) := hc.add _ fun _ _ _ => ⟨rfl, rfl⟩
                 replace hc : Ctx w149 (Hold (pInt .i64) [.int .i64 2] 2 :: Hold (pInt .i64) [.int .i64 3] 3 :: Own (pInt .i64) 27 (.slice a146 r145.1.length q148) r145.1 :: S_admit_Desk.hp b29 r145.2 :: Own S_api_Request.pr 24 (.slice a143 1 1) ([r137]) :: Hold (pRo (pInt .i64)) [.slice a138 r137.Prompt.length q140] r137.Prompt :: S_admit_Desk.hp b34 j36 :: B b5 [.int .i64 x1.ID, .int .i64 x1.Most, .slice a1 x1.Prompt.length q3] 24 :: P0 :: Hold (pRo (pInt .i64)) [.slice a1 x1.Prompt.length q3] x1.Prompt :: Own (pInt .i64) 3 (.slice a39 j38.length q41) j38 :: Fr) := hc.add _ fun _ _ _ => ⟨rfl, rfl⟩
                 refine rsE (Ctx.builtOp (css := [[.int .i64 2], [.int .i64 3]]) (xs := ([2, 3] : List Int)) (E := (pInt .i64)) hc Try.underlying22 Try.sizeOf3 Try.zeroValue3 rfl rfl rfl rfl rfl rfl rfl rfl) rfl ?_
                 clear hc; rintro _ w152 ⟨a151, rfl, hc⟩
                 refine rs (v := .agg #[.int .i64 e136, .int .i64 1, .slice a151 2 2]) (bd_24_0_1_2 rfl rfl rfl) rfl ?_
                 replace hc := hc.freeze (k := 0) rfl rfl rfl
                 replace hc := hc.dup (k := 0) rfl rfl
                 replace hc : Ctx w152 (Hold S_api_Request.pr [.int .i64 e136, .int .i64 1, .slice a151 2 2] (⟨e136, 1, [2, 3]⟩ : S_api_Request) :: Hold (pRo (pInt .i64)) [.slice a151 2 2] ([2, 3]) :: Own (pInt .i64) 27 (.slice a146 r145.1.length q148) r145.1 :: S_admit_Desk.hp b29 r145.2 :: Own S_api_Request.pr 24 (.slice a143 1 1) ([r137]) :: Hold (pRo (pInt .i64)) [.slice a138 r137.Prompt.length q140] r137.Prompt :: S_admit_Desk.hp b34 j36 :: B b5 [.int .i64 x1.ID, .int .i64 x1.Most, .slice a1 x1.Prompt.length q3] 24 :: P0 :: Hold (pRo (pInt .i64)) [.slice a1 x1.Prompt.length q3] x1.Prompt :: Own (pInt .i64) 3 (.slice a39 j38.length q41) j38 :: Fr) := S_api_Request.cl hc
                 refine rsE (Ctx.builtOp (css := [[.int .i64 e136, .int .i64 1, .slice a151 2 2]]) (xs := ([(⟨e136, 1, [2, 3]⟩ : S_api_Request)] : List S_api_Request)) (E := S_api_Request.pr) hc Try.underlying45 Try.sizeOf24 Try.zeroValue24 rfl rfl rfl rfl rfl rfl rfl rfl) rfl ?_
                 clear hc; rintro _ w154 ⟨a153, rfl, hc⟩
                 replace hp := bind_some hp; obtain ⟨r155, hr155, hp⟩ := hp
                 replace hc := hc.pull 6 rfl rfl
                 refine rc (cl Try.call9 rfl rfl) rfl ?_
                 refine admit_Desk_Submit_any reads_own hc hr155 ?_
                 clear hc; intro a156 n157 q158 w159 hc
                 obtain ⟨u160, _⟩ := Ctx.rdLen hc (k := 0) rfl rfl reads_own; subst u160
                 refine rs (v := .slice a156 r155.1.length q158) (av (v := .slice a156 r155.1.length q158) rfl) rfl ?_
                 refine rn ?_
                 refine qn ?_
                 refine Wseq ?_
                 refine Wseq ?_
                 replace hc := hc.drew
                 refine Wdrw (fun _ w' => Ctx w' (Own (pInt .i64) 27 (.slice a156 r155.1.length q158) r155.1 :: S_admit_Desk.hp b34 r155.2 :: Own S_api_Request.pr 24 (.slice a153 1 1) ([(⟨e136, 1, [2, 3]⟩ : S_api_Request)]) :: Hold (pRo (pInt .i64)) [.slice a151 2 2] ([2, 3]) :: Own (pInt .i64) 27 (.slice a146 r145.1.length q148) r145.1 :: S_admit_Desk.hp b29 r145.2 :: Own S_api_Request.pr 24 (.slice a143 1 1) ([r137]) :: Hold (pRo (pInt .i64)) [.slice a138 r137.Prompt.length q140] r137.Prompt :: B b5 [.int .i64 x1.ID, .int .i64 x1.Most, .slice a1 x1.Prompt.length q3] 24 :: P0 :: Hold (pRo (pInt .i64)) [.slice a1 x1.Prompt.length q3] x1.Prompt :: Own (pInt .i64) 3 (.slice a39 j38.length q41) j38 :: Fr)) [0, 1, 3, 7, 15, 31, 63, 127, 255, 511, 1023, 2047, 511, 4607, 12799, 32767, 65535] 0 0 rfl (by kernel_rfl) (fun _ _ => hc) ?_
                 generalize hw : World.drew w159 = w161 at *
                 clear hw
                 refine ds (v := .slice a146 r145.1.length q148) rfl (fun w' hF => mv (v := .slice a146 r145.1.length q148) rfl) rfl ?_
                 refine ds (v := .int .i64 ((r145.1.length : Nat) : Int)) rfl (fun w' hF => ln rfl Try.underlying33) rfl ?_
                 refine ds (v := .bool (decide (((r145.1.length : Nat) : Int) ≠ 1))) rfl (fun w' hF => ned rfl rfl) rfl ?_
                 refine ds (v := .bool (decide (((r145.1.length : Nat) : Int) ≠ 1))) rfl (fun w' hF => mv (v := .bool (decide (((r145.1.length : Nat) : Int) ≠ 1))) rfl) rfl ?_
                 cases hb162 : (decide (((r145.1.length : Nat) : Int) ≠ 1))
                 · replace hp := gneg hp (of_decide_eq_false hb162)
                   refine ds (v := .slice a156 r155.1.length q158) rfl (fun w' hF => mv (v := .slice a156 r155.1.length q158) rfl) rfl ?_
                   refine ds (v := .int .i64 ((r155.1.length : Nat) : Int)) rfl (fun w' hF => ln rfl Try.underlying33) rfl ?_
                   refine ds (v := .bool (decide (((r155.1.length : Nat) : Int) ≠ 1))) rfl (fun w' hF => ned rfl rfl) rfl ?_
                   refine ds (v := .bool (decide (((r155.1.length : Nat) : Int) ≠ 1))) rfl (fun w' hF => pkf (v := .bool (decide (((r155.1.length : Nat) : Int) ≠ 1))) rfl rfl) rfl ?_
                   refine ds (v := .bool (decide (((r155.1.length : Nat) : Int) ≠ 1))) rfl (fun w' hF => mv (v := .bool (decide (((r155.1.length : Nat) : Int) ≠ 1))) rfl) rfl ?_
                   cases hb163 : (decide (((r155.1.length : Nat) : Int) ≠ 1))
                   · replace hp := gneg hp (of_decide_eq_false hb163)
                     refine ds (v := .slice a146 r145.1.length q148) rfl (fun w' hF => mv (v := .slice a146 r145.1.length q148) rfl) rfl ?_
                     replace hp := bind_some hp; obtain ⟨y164, hy164, hp⟩ := hp
                     obtain ⟨b167, o168, u169, hi165, hi166⟩ := Ctx.rdAt hc (k := 4) rfl rfl reads_own hy164
                     subst u169
                     refine ds (v := .pointer (some ⟨b167, o168 + ((0 : Int)).toNat * 1, none⟩)) rfl (fun w' hF => ixx rfl rfl Try.underlying33 Try.sizeOf27 hi165 hi166 rfl) rfl ?_
                     replace hc := Ctx.rdCell hc (k := 4) rfl rfl reads_own hy164; obtain ⟨cs170, hc, hcell171⟩ := hc
                     replace hc := Ctx.holdC hc; obtain ⟨u172, hc⟩ := hc; subst u172
                     refine ds (v := .int .i64 y164) rfl (fun w' hF => ld rfl Try.isAgg27 ((by obtain ⟨cs, hc, hcell⟩ := Ctx.rdCell hF (k := 4) rfl rfl reads_own hy164; obtain ⟨u, hc⟩ := Ctx.holdC hc; subst u; exact hcell 0 _ rfl))) rfl ?_
                     refine ds (v := .slice a156 r155.1.length q158) rfl (fun w' hF => mv (v := .slice a156 r155.1.length q158) rfl) rfl ?_
                     replace hp := bind_some hp; obtain ⟨y173, hy173, hp⟩ := hp
                     obtain ⟨b176, o177, u178, hi174, hi175⟩ := Ctx.rdAt hc (k := 0) rfl rfl reads_own hy173
                     subst u178
                     refine ds (v := .pointer (some ⟨b176, o177 + ((0 : Int)).toNat * 1, none⟩)) rfl (fun w' hF => ixx rfl rfl Try.underlying33 Try.sizeOf27 hi174 hi175 rfl) rfl ?_
                     replace hc := Ctx.rdCell hc (k := 0) rfl rfl reads_own hy173; obtain ⟨cs179, hc, hcell180⟩ := hc
                     replace hc := Ctx.holdC hc; obtain ⟨u181, hc⟩ := hc; subst u181
                     refine ds (v := .int .i64 y173) rfl (fun w' hF => ld rfl Try.isAgg27 ((by obtain ⟨cs, hc, hcell⟩ := Ctx.rdCell hF (k := 0) rfl rfl reads_own hy173; obtain ⟨u, hc⟩ := Ctx.holdC hc; subst u; exact hcell 0 _ rfl))) rfl ?_
                     refine ds (v := .bool (decide (y164 ≠ y173))) rfl (fun w' hF => ned rfl rfl) rfl ?_
                     refine ds (v := .bool (decide (y164 ≠ y173))) rfl (fun w' hF => pkf (v := .bool (decide (y164 ≠ y173))) rfl rfl) rfl ?_
                     refine dn ?_
                     refine qn ?_
                     cases hb182 : (decide (y164 ≠ y173))
                     · replace hp := gneg hp (of_decide_eq_false hb182)
                       refine Wcf rfl ?_
                       refine Wskip ?_
                       refine qn ?_
                       refine Wseq ?_
                       refine Wreg ?_
                       refine rs (v := .slice (some ⟨b167, o168, none⟩) r145.1.length q148) (mv (v := .slice (some ⟨b167, o168, none⟩) r145.1.length q148) rfl) rfl ?_
                       replace hp := bind_some hp; obtain ⟨y183, hy183, hp⟩ := hp
                       obtain ⟨b186, o187, u188, hi184, hi185⟩ := Ctx.rdAt hc (k := 4) rfl rfl reads_own hy183
                       clear u188
                       refine rs (v := .pointer (some ⟨b167, o168 + ((0 : Int)).toNat * 1, none⟩)) (ixx rfl rfl Try.underlying33 Try.sizeOf27 hi184 hi185 rfl) rfl ?_
                       replace hc := Ctx.rdCell hc (k := 4) rfl rfl reads_own hy183; obtain ⟨cs189, hc, hcell190⟩ := hc
                       replace hc := Ctx.holdC hc; obtain ⟨u191, hc⟩ := hc; subst u191
                       refine rs (v := .int .i64 y183) (ld rfl Try.isAgg27 (hcell190 0 _ rfl)) rfl ?_
                       refine rs (v := .bool (decide (y183 = 0))) (eqd rfl rfl) rfl ?_
                       refine rn ?_
                       refine qn ?_
                       cases hb192 : (decide (y183 = 0))
                       · replace hp := gneg hp (of_decide_eq_false hb192)
                         refine Wcf rfl ?_
                         refine Wskip ?_
                         refine bn ?_
                         refine qn ?_
                         replace hc := hc.rem 7 rfl rfl
                         replace hc := hc.rem 6 rfl rfl
                         replace hc := hc.rem 4 rfl rfl
                         replace hc := hc.rem 3 rfl rfl
                         replace hc := hc.rem 2 rfl rfl
                         replace hc := hc.rem 0 rfl rfl
                         exact ⟨⟨r155.2, r145.2, j38, a39, j38.length, q41, rfl, hp, hc⟩, (kl rfl kb)⟩
                       · replace hp := gpos hp (of_decide_eq_true hb192)
                         refine Wct rfl ?_
                         refine Wreg ?_
                         refine rs (v := .slice a39 j38.length q41) (mv (v := .slice a39 j38.length q41) rfl) rfl ?_
                         refine rs (v := .int .i64 e136) (mv (v := .int .i64 e136) rfl) rfl ?_
                         replace hc : Ctx w161 (Hold (pInt .i64) [.int .i64 e136] e136 :: Own (pInt .i64) 27 (.slice (some ⟨b176, o177, none⟩) r155.1.length q158) r155.1 :: S_admit_Desk.hp b34 r155.2 :: Own S_api_Request.pr 24 (.slice a153 1 1) ([(⟨e136, 1, [2, 3]⟩ : S_api_Request)]) :: Hold (pRo (pInt .i64)) [.slice a151 2 2] ([2, 3]) :: Own (pInt .i64) 27 (.slice (some ⟨b167, o168, none⟩) r145.1.length q148) r145.1 :: S_admit_Desk.hp b29 r145.2 :: Own S_api_Request.pr 24 (.slice a143 1 1) ([r137]) :: Hold (pRo (pInt .i64)) [.slice a138 r137.Prompt.length q140] r137.Prompt :: B b5 [.int .i64 x1.ID, .int .i64 x1.Most, .slice a1 x1.Prompt.length q3] 24 :: P0 :: Hold (pRo (pInt .i64)) [.slice a1 x1.Prompt.length q3] x1.Prompt :: Own (pInt .i64) 3 (.slice a39 j38.length q41) j38 :: Fr) := hc.add _ fun _ _ _ => ⟨rfl, rfl⟩
                         refine rsE (Ctx.builtOp (css := [[.int .i64 e136]]) (xs := ([e136] : List Int)) (E := (pInt .i64)) hc Try.underlying22 Try.sizeOf3 Try.zeroValue3 rfl rfl rfl rfl rfl rfl rfl rfl) rfl ?_
                         clear hc; rintro _ w194 ⟨a193, rfl, hc⟩
                         replace hp := bind_some hp; obtain ⟨z195, hz195, hp⟩ := hp
                         obtain ⟨hg196, e197⟩ := app_some hz195
                         refine rsE (Ctx.append hc (k := 12) rfl rfl (k2 := 0) rfl rfl reads_own Try.underlying22 (i := Try.t3) rfl rfl rfl rfl rfl rfl rfl rfl hg196) rfl ?_
                         clear hc; rintro _ w200 ⟨a198, q199, rfl, hc⟩
                         rw [← e197] at hc ⊢
                         refine rs (v := .slice a198 z195.length q199) (av (v := .slice a198 z195.length q199) rfl) rfl ?_
                         refine rn ?_
                         refine bn ?_
                         refine qn ?_
                         replace hc := hc.rem 8 rfl rfl
                         replace hc := hc.rem 7 rfl rfl
                         replace hc := hc.rem 5 rfl rfl
                         replace hc := hc.rem 4 rfl rfl
                         replace hc := hc.rem 3 rfl rfl
                         replace hc := hc.rem 1 rfl rfl
                         replace hc := hc.rem 0 rfl rfl
                         exact ⟨⟨r155.2, r145.2, z195, a198, z195.length, q199, rfl, hp, hc⟩, (kl rfl kb)⟩
                     · replace hp := gpos hp (of_decide_eq_true hb182)
                       refine Wct rfl ?_
                       refine Wseq ?_
                       refine Wreg ?_
                       refine rs (v := .bool false) (av (v := .bool false) rfl) rfl ?_
                       refine rn ?_
                       refine qn ?_
                       refine Wret ?_
                       refine qr ?_
                       refine br ?_
                       refine qr ?_
                       refine qr ?_
                       refine br ?_
                       refine qr ?_
                       replace hc := hc.rem 11 rfl rfl
                       replace hc := hc.rem 10 rfl rfl
                       replace hc := hc.rem 8 rfl rfl
                       replace hc := hc.rem 7 rfl rfl
                       replace hc := hc.rem 6 rfl rfl
                       replace hc := hc.rem 5 rfl rfl
                       replace hc := hc.rem 4 rfl rfl
                       replace hc := hc.rem 3 rfl rfl
                       replace hc := hc.rem 2 rfl rfl
                       replace hc := hc.rem 1 rfl rfl
                       replace hc := hc.rem 0 rfl rfl
                       injection hp with hp; subst hp
                       refine f1 (v := .bool false) Try.results3 Try.ntmps3 rfl ?_
                       exact ⟨_, rfl, k _ hc⟩
                   · replace hp := gpos hp (of_decide_eq_true hb163)
                     refine d0 rfl rfl ?_
                     refine d0 rfl rfl ?_
                     refine d0 rfl rfl ?_
                     refine d0 rfl rfl ?_
                     refine d0 rfl rfl ?_
                     refine d0 rfl rfl ?_
                     refine d0 rfl rfl ?_
                     refine ds (v := .bool true) rfl (fun w' hF => pkt (v := .bool true) rfl rfl) rfl ?_
                     refine dn ?_
                     refine qn ?_
                     refine Wct rfl ?_
                     refine Wseq ?_
                     refine Wreg ?_
                     refine rs (v := .bool false) (av (v := .bool false) rfl) rfl ?_
                     refine rn ?_
                     refine qn ?_
                     refine Wret ?_
                     refine qr ?_
                     refine br ?_
                     refine qr ?_
                     refine qr ?_
                     refine br ?_
                     refine qr ?_
                     replace hc := hc.rem 11 rfl rfl
                     replace hc := hc.rem 10 rfl rfl
                     replace hc := hc.rem 8 rfl rfl
                     replace hc := hc.rem 7 rfl rfl
                     replace hc := hc.rem 6 rfl rfl
                     replace hc := hc.rem 5 rfl rfl
                     replace hc := hc.rem 4 rfl rfl
                     replace hc := hc.rem 3 rfl rfl
                     replace hc := hc.rem 2 rfl rfl
                     replace hc := hc.rem 1 rfl rfl
                     replace hc := hc.rem 0 rfl rfl
                     injection hp with hp; subst hp
                     refine f1 (v := .bool false) Try.results3 Try.ntmps3 rfl ?_
                     exact ⟨_, rfl, k _ hc⟩
                 · replace hp := gpos hp (of_decide_eq_true hb162)
                   refine d0 rfl rfl ?_
                   refine d0 rfl rfl ?_
                   refine d0 rfl rfl ?_
                   refine ds (v := .bool true) rfl (fun w' hF => pkt (v := .bool true) rfl rfl) rfl ?_
                   refine ds (v := .bool true) rfl (fun w' hF => mv (v := .bool true) rfl) rfl ?_
                   refine d0 rfl rfl ?_
                   refine d0 rfl rfl ?_
                   refine d0 rfl rfl ?_
                   refine d0 rfl rfl ?_
                   refine d0 rfl rfl ?_
                   refine d0 rfl rfl ?_
                   refine d0 rfl rfl ?_
                   refine ds (v := .bool true) rfl (fun w' hF => pkt (v := .bool true) rfl rfl) rfl ?_
                   refine dn ?_
                   refine qn ?_
                   refine Wct rfl ?_
                   refine Wseq ?_
                   refine Wreg ?_
                   refine rs (v := .bool false) (av (v := .bool false) rfl) rfl ?_
                   refine rn ?_
                   refine qn ?_
                   refine Wret ?_
                   refine qr ?_
                   refine br ?_
                   refine qr ?_
                   refine qr ?_
                   refine br ?_
                   refine qr ?_
                   replace hc := hc.rem 11 rfl rfl
                   replace hc := hc.rem 10 rfl rfl
                   replace hc := hc.rem 8 rfl rfl
                   replace hc := hc.rem 7 rfl rfl
                   replace hc := hc.rem 6 rfl rfl
                   replace hc := hc.rem 5 rfl rfl
                   replace hc := hc.rem 4 rfl rfl
                   replace hc := hc.rem 3 rfl rfl
                   replace hc := hc.rem 2 rfl rfl
                   replace hc := hc.rem 1 rfl rfl
                   replace hc := hc.rem 0 rfl rfl
                   injection hp with hp; subst hp
                   refine f1 (v := .bool false) Try.results3 Try.ntmps3 rfl ?_
                   exact ⟨_, rfl, k _ hc⟩
               · clear hp hc; intro vs u w201 hJ
                 obtain ⟨j121, j122, j123, a124, n125, q126, rfl, hp, hc⟩ := hJ
                 obtain ⟨u202, _⟩ := Ctx.rdLen hc (k := 5) rfl rfl reads_own; subst u202
                 unfold law21_AdmitFair.J3 at hp
                 refine Wreg ?_
                 refine rs (v := .int .i64 j42) (mv (v := .int .i64 j42) rfl) rfl ?_
                 refine rs (v := .int .i64 (IntKind.i64.wrap (j42 + 1))) (adw rfl rfl) rfl ?_
                 refine rs (v := .int .i64 (IntKind.i64.wrap (j42 + 1))) (av (v := .int .i64 (IntKind.i64.wrap (j42 + 1))) rfl) rfl ?_
                 refine rn ?_
                 refine qn ?_
                 exact ⟨m1, Nat.lt_succ_self _, ⟨j121, j122, j123, (IntKind.i64.wrap (j42 + 1)), a124, j123.length, q126, rfl, hp, hc⟩, (kl rfl (km rfl (kl rfl k0)))⟩
     · replace hp := gpos hp (of_decide_eq_true hb14)
       refine Wct rfl ?_
       refine Wseq ?_
       refine Wreg ?_
       replace hp := bind_some hp; obtain ⟨r203, hr203, hp⟩ := hp
       refine rc (cl Try.call6 rfl rfl) rfl ?_
       refine law21_awake_any hc hr203 ?_
       clear hc; intro w204 hc
       refine rs (v := .bool r203) (av (v := .bool r203) rfl) rfl ?_
       refine rn ?_
       refine qn ?_
       refine Wret ?_
       refine qr ?_
       replace hc := hc.rem 2 rfl rfl
       replace hc := hc.rem 0 rfl rfl
       injection hp with hp; subst hp
       refine f1 (v := .bool r203) Try.results3 Try.ntmps3 rfl ?_
       exact ⟨_, rfl, k _ hc⟩
   · replace hp := gpos hp (of_decide_eq_true hb13)
     refine r0 rfl ?_
     refine r0 rfl ?_
     refine r0 rfl ?_
     refine r0 rfl ?_
     refine rs (v := .bool true) (pkt (v := .bool true) rfl rfl) rfl ?_
     refine rn ?_
     refine qn ?_
     refine Wct rfl ?_
     refine Wseq ?_
     refine Wreg ?_
     replace hp := bind_some hp; obtain ⟨r205, hr205, hp⟩ := hp
     refine rc (cl Try.call6 rfl rfl) rfl ?_
     refine law21_awake_any hc hr205 ?_
     clear hc; intro w206 hc
     refine rs (v := .bool r205) (av (v := .bool r205) rfl) rfl ?_
     refine rn ?_
     refine qn ?_
     refine Wret ?_
     refine qr ?_
     replace hc := hc.rem 2 rfl rfl
     replace hc := hc.rem 0 rfl rfl
     injection hp with hp; subst hp
     refine f1 (v := .bool r205) Try.results3 Try.ntmps3 rfl ?_
     exact ⟨_, rfl, k _ hc⟩

-- FN peloton/pelotonlaw21.AdmitKeeps
theorem bd_47_0_1 {ρ : Operand → Value} {w : World} {dst : Option Nat} {ty : TypeId} {pos : String} {after : Array Edge} {g : Option (Nat × Bool)} {x0 x1 : Operand} {c0_0 c0_1 c0_2 c0_3 c0_4 c0_5 : Value} {k1 : IntKind} {a1 : Int} (h0 : ρ x0 = .agg #[c0_0, c0_1, c0_2, c0_3, c0_4, c0_5]) (h1 : ρ x1 = (.int k1 a1)) :
    (execOp ρ ⟨dst, .build 47 #[(0, x0), (1, x1)], ty, pos, after, g⟩).run Try.prog w = .ok (.value (.agg #[c0_0, c0_1, c0_2, c0_3, c0_4, c0_5, (.int k1 a1), (.slice none 0 0), (.slice none 0 0)])) w := by
  simp [execOp, Instr.build, Instr.fill, Try.zeroValue47, Try.runUnderlying47, Try.sizeOf22, Try.sizeOf3, Try.sizeOf31, Try.sizeOf45, h0, h1, Value.cells]

def law21_AdmitKeeps.L2 (N : Nat) (x0 : S_api_Request) (x1 : (List Int)) : Nat → S_admit_Desk → S_ref21_Desk → Int → Option (Bool)
  | 0, _, _, _ => none
  | m2 + 1, j109, j110, j111 =>
    if j111 < ((x1.length : Nat) : Int) then
      (idx x1 j111).bind fun y173 =>
      (admit_Desk_Cancel N j109 ([y173])).bind fun r184 =>
      (idx x1 j111).bind fun y186 =>
      (ref21_Desk_Cancel N j110 y186).bind fun r195 =>
      if r184.1 ≠ r195.1 then
        some false
      else
        (law21_AdmitKeeps.L2 N x0 x1 m2) r184.2 r195.2 (IntKind.i64.wrap (j111 + 1))
    else
      (admit_Desk_Cancel N j109 ([100])).bind fun r116 =>
      (ref21_Desk_Cancel N j110 100).bind fun r118 =>
      (admit_Desk_Submit N r116.2 ([(⟨x0.ID, x0.Most, x0.Prompt⟩ : S_api_Request)])).bind fun r122 =>
      if ((r122.1.length : Nat) : Int) = 1 then
        (idx r122.1 (0 : Int)).bind fun y138 =>
        (ref21_Desk_Submit N r118.2 (⟨x0.ID, x0.Most, x0.Prompt⟩ : S_api_Request)).bind fun r147 =>
        if y138 = r147.1 then
          (admit_Desk_Took r122.2 100).bind fun r150 =>
          if r150 = true then
            (law21_asks 100).bind fun r153 =>
            (admit_Desk_Judge N r122.2 r153).bind fun r159 =>
            if r159 = 210 then
              (admit_Desk_Len r122.2).bind fun r170 =>
              some (decide (r170 = ((r147.2.L.length : Nat) : Int)))
            else
              some false
          else
            some false
        else
          some false
      else
        some false

def law21_AdmitKeeps.J1 (N : Nat) (x0 : S_api_Request) (x1 : (List Int)) (r69 : ((List Int) × S_admit_Desk)) (j75 : S_ref21_Desk) (j76 : Bool) : Option (Bool) :=
  if j76 = true then
    some false
  else
    law21_AdmitKeeps.L2 N x0 x1 N r69.2 j75 0

def law21_AdmitKeeps (N : Nat) (x0 : S_api_Request) (x1 : (List Int)) : Option (Bool) :=
  (law21_awake N).bind fun r8 =>
  if r8 = true then
    if ((x0.Prompt.length : Nat) : Int) > 300 then
      (law21_awake N).bind fun r200 =>
      some r200
    else
      if ((x1.length : Nat) : Int) > 30 then
        (law21_awake N).bind fun r198 =>
        some r198
      else
        (law21_shape).bind fun r15 =>
        (admit_New r15 2).bind fun r17 =>
        optc r17.1 (
          some false) fun y21 =>
        if r17.2 ≠ 0 then
          some false
        else
          (law21_shape).bind fun r26 =>
          (law21_asks 100).bind fun r31 =>
          (law21_asks 101).bind fun r37 =>
          (admit_Desk_Submit N y21 ([r31, r37])).bind fun r45 =>
          (law21_asks 100).bind fun r51 =>
          (ref21_Desk_Submit N (⟨(⟨r26.Layers, r26.Width, r26.Heads, r26.Inner, r26.Vocab, r26.Places⟩ : S_api_Shape), 2, [], []⟩ : S_ref21_Desk) r51).bind fun r57 =>
          (law21_asks 101).bind fun r59 =>
          (ref21_Desk_Submit N r57.2 r59).bind fun r65 =>
          (admit_Desk_Submit N r45.2 ([(⟨x0.ID, x0.Most, x0.Prompt⟩ : S_api_Request)])).bind fun r69 =>
          if ((r69.1.length : Nat) : Int) ≠ 1 then
            law21_AdmitKeeps.J1 N x0 x1 r69 r65.2 true
          else
            (idx r69.1 (0 : Int)).bind fun y79 =>
            (ref21_Desk_Submit N r65.2 (⟨x0.ID, x0.Most, x0.Prompt⟩ : S_api_Request)).bind fun r88 =>
            if y79 ≠ r88.1 then
              law21_AdmitKeeps.J1 N x0 x1 r69 r88.2 true
            else
              (idx r69.1 (0 : Int)).bind fun y91 =>
              if y91 = 0 then
                law21_AdmitKeeps.J1 N x0 x1 r69 r88.2 true
              else
                (admit_Desk_Len r69.2).bind fun r101 =>
                if r101 ≠ 2 then
                  law21_AdmitKeeps.J1 N x0 x1 r69 r88.2 true
                else
                  (admit_Desk_Took r69.2 x0.ID).bind fun r104 =>
                  if x0.ID = 100 then
                    law21_AdmitKeeps.J1 N x0 x1 r69 r88.2 (!(r104 == true))
                  else
                    law21_AdmitKeeps.J1 N x0 x1 r69 r88.2 (!(r104 == (decide (x0.ID = 101))))
  else
    (law21_awake N).bind fun r11 =>
    some r11

set_option maxHeartbeats 2000000 in
theorem law21_AdmitKeeps_any {N : Nat} {x0 : S_api_Request} {a1 : Option Addr} {n2 : Nat} {q3 : Nat} {x1 : (List Int)} {ax1 : Option Addr} {nx1 : Nat} {qx1 : Nat} {P1 : HP} {Fr : List HP} {w : World} {r : Bool} {K : Value → World → Prop} (hrd1 : Reads P1 (pInt .i64) (.slice ax1 nx1 qx1) x1) (hc : Ctx w (Hold (pRo (pInt .i64)) [.slice a1 n2 q3] x0.Prompt :: P1 :: Fr)) (hp : law21_AdmitKeeps N x0 x1 = some r)
    (k : ∀ w', Ctx w' (P1 :: Fr) → K (.bool r) w') : Calls Try.prog 5 #[.agg #[.int .i64 x0.ID, .int .i64 x0.Most, .slice a1 n2 q3], .slice ax1 nx1 qx1] w (Ret K) := by
 unfold law21_AdmitKeeps at hp
 refine Center (args := [.agg #[.int .i64 x0.ID, .int .i64 x0.Most, .slice a1 n2 q3], .slice ax1 nx1 qx1]) (l := [(0, .agg #[.int .i64 x0.ID, .int .i64 x0.Most, .slice a1 n2 q3]), (1, .slice ax1 nx1 qx1)]) Try.func5 Try.ntmps5 rfl rfl rfl ?_
 obtain ⟨hn1, _⟩ := Ctx.rdLen hc (k := 1) rfl rfl hrd1; subst hn1
 obtain ⟨u4, _⟩ := Ctx.rdLen hc (k := 0) rfl rfl reads_ro; subst u4
 refine Wseq ?_
 refine Wreg ?_
 refine rsE (Ctx.boxOp (cs := [.int .i64 x0.ID, .int .i64 x0.Most, .slice a1 x0.Prompt.length q3]) (v := .agg #[.int .i64 x0.ID, .int .i64 x0.Most, .slice a1 x0.Prompt.length q3]) hc rfl rfl) rfl ?_
 clear hc; rintro _ w7 ⟨b5, rfl, hc⟩
 refine rs (v := .bool false) (av (v := .bool false) rfl) rfl ?_
 refine rn ?_
 refine qn ?_
 refine Wseq ?_
 refine Wseq ?_
 refine Wreg ?_
 replace hp := bind_some hp; obtain ⟨r8, hr8, hp⟩ := hp
 refine rc (cl Try.call6 rfl rfl) rfl ?_
 refine law21_awake_any hc hr8 ?_
 clear hc; intro w9 hc
 cases hb10 : r8
 · replace hp := gneg hp (by rw [hb10]; exact Bool.false_ne_true)
   subst hb10
   refine rs (v := .bool true) (ntf rfl) rfl ?_
   refine rs (v := .bool true) (mv (v := .bool true) rfl) rfl ?_
   refine r0 rfl ?_
   refine r0 rfl ?_
   refine r0 rfl ?_
   refine r0 rfl ?_
   refine rs (v := .bool true) (pkt (v := .bool true) rfl rfl) rfl ?_
   refine rs (v := .bool true) (mv (v := .bool true) rfl) rfl ?_
   refine r0 rfl ?_
   refine r0 rfl ?_
   refine r0 rfl ?_
   refine rs (v := .bool true) (pkt (v := .bool true) rfl rfl) rfl ?_
   refine rn ?_
   refine qn ?_
   refine Wct rfl ?_
   refine Wseq ?_
   refine Wreg ?_
   replace hp := bind_some hp; obtain ⟨r11, hr11, hp⟩ := hp
   refine rc (cl Try.call6 rfl rfl) rfl ?_
   refine law21_awake_any hc hr11 ?_
   clear hc; intro w12 hc
   refine rs (v := .bool r11) (av (v := .bool r11) rfl) rfl ?_
   refine rn ?_
   refine qn ?_
   refine Wret ?_
   refine qr ?_
   replace hc := hc.rem 1 rfl rfl
   replace hc := hc.rem 0 rfl rfl
   injection hp with hp; subst hp
   refine f1 (v := .bool r11) Try.results5 Try.ntmps5 rfl ?_
   exact ⟨_, rfl, k _ hc⟩
 · replace hp := gpos hp hb10
   subst hb10
   refine rs (v := .bool false) (ntt rfl) rfl ?_
   refine rs (v := .bool false) (mv (v := .bool false) rfl) rfl ?_
   refine rs (v := .pointer (some ⟨b5, 2, none⟩)) (fax 2 rfl Try.underlying24 rfl Try.sizeOf22 rfl rfl rfl) rfl ?_
   refine rs (v := .slice a1 x0.Prompt.length q3) (ld rfl Try.isAgg22 (Ctx.cell hc (k := 0) rfl rfl rfl)) rfl ?_
   refine rs (v := .int .i64 ((x0.Prompt.length : Nat) : Int)) (ln rfl Try.underlying22) rfl ?_
   refine rs (v := .bool (decide (((x0.Prompt.length : Nat) : Int) > 300))) (gt' rfl rfl) rfl ?_
   refine rs (v := .bool (decide (((x0.Prompt.length : Nat) : Int) > 300))) (pkf (v := .bool (decide (((x0.Prompt.length : Nat) : Int) > 300))) rfl rfl) rfl ?_
   refine rs (v := .bool (decide (((x0.Prompt.length : Nat) : Int) > 300))) (mv (v := .bool (decide (((x0.Prompt.length : Nat) : Int) > 300))) rfl) rfl ?_
   cases hb13 : (decide (((x0.Prompt.length : Nat) : Int) > 300))
   · replace hp := gneg hp (of_decide_eq_false hb13)
     refine rs (v := .slice ax1 x1.length qx1) (mv (v := .slice ax1 x1.length qx1) rfl) rfl ?_
     refine rs (v := .int .i64 ((x1.length : Nat) : Int)) (ln rfl Try.underlying22) rfl ?_
     refine rs (v := .bool (decide (((x1.length : Nat) : Int) > 30))) (gt' rfl rfl) rfl ?_
     refine rs (v := .bool (decide (((x1.length : Nat) : Int) > 30))) (pkf (v := .bool (decide (((x1.length : Nat) : Int) > 30))) rfl rfl) rfl ?_
     refine rn ?_
     refine qn ?_
     cases hb14 : (decide (((x1.length : Nat) : Int) > 30))
     · replace hp := gneg hp (of_decide_eq_false hb14)
       refine Wcf rfl ?_
       refine Wskip ?_
       refine qn ?_
       refine Wseq ?_
       refine Wreg ?_
       replace hp := bind_some hp; obtain ⟨r15, hr15, hp⟩ := hp
       refine rc (cl Try.call8 rfl rfl) rfl ?_
       refine law21_shape_any hc hr15 ?_
       clear hc; intro w16 hc
       replace hp := bind_some hp; obtain ⟨r17, hr17, hp⟩ := hp
       refine rc (cl Try.call7 rfl rfl) rfl ?_
       refine admit_New_any hc hr17 ?_
       clear hc; intro v18 w19 hc
       refine rs (v := .tuple #[v18, .int .i64 r17.2]) (mv (v := .tuple #[v18, .int .i64 r17.2]) rfl) rfl ?_
       refine rs (v := v18) (ext (v := v18) rfl rfl) rfl ?_
       refine rs (v := .int .i64 r17.2) (ext (v := .int .i64 r17.2) rfl rfl) rfl ?_
       refine rs (v := v18) (av (v := v18) rfl) rfl ?_
       refine rs (v := .int .i64 r17.2) (av (v := .int .i64 r17.2) rfl) rfl ?_
       refine rn ?_
       refine qn ?_
       refine Wseq ?_
       refine Wseq ?_
       refine Wreg ?_
       refine rs (v := v18) (mv (v := v18) rfl) rfl ?_
       cases hb20 : r17.1
       · replace hp := optN hp hb20
         rw [hb20] at hc
         replace hc := Ctx.ptoN hc; obtain ⟨u22, hc⟩ := hc; subst u22
         refine rs (v := .bool true) (ept Try.underlying26 rfl rfl) rfl ?_
         refine rs (v := .bool true) (mv (v := .bool true) rfl) rfl ?_
         refine r0 rfl ?_
         refine r0 rfl ?_
         refine rs (v := .bool true) (pkt (v := .bool true) rfl rfl) rfl ?_
         refine rn ?_
         refine qn ?_
         refine Wct rfl ?_
         refine Wseq ?_
         refine Wreg ?_
         refine rs (v := .bool false) (av (v := .bool false) rfl) rfl ?_
         refine rn ?_
         refine qn ?_
         refine Wret ?_
         refine qr ?_
         replace hc := hc.rem 1 rfl rfl
         replace hc := hc.rem 0 rfl rfl
         injection hp with hp; subst hp
         refine f1 (v := .bool false) Try.results5 Try.ntmps5 rfl ?_
         exact ⟨_, rfl, k _ hc⟩
       · rename_i y21
         replace hp := optS hp hb20
         rw [hb20] at hc
         replace hc := Ctx.ptoS hc; obtain ⟨b23, u24, hc⟩ := hc; subst u24
         refine rs (v := .bool false) (epf Try.underlying26 rfl rfl) rfl ?_
         refine rs (v := .bool false) (mv (v := .bool false) rfl) rfl ?_
         refine rs (v := .int .i64 r17.2) (mv (v := .int .i64 r17.2) rfl) rfl ?_
         refine rs (v := .bool (decide (r17.2 ≠ 0))) (ned rfl rfl) rfl ?_
         refine rs (v := .bool (decide (r17.2 ≠ 0))) (pkf (v := .bool (decide (r17.2 ≠ 0))) rfl rfl) rfl ?_
         refine rn ?_
         refine qn ?_
         cases hb25 : (decide (r17.2 ≠ 0))
         · replace hp := gneg hp (of_decide_eq_false hb25)
           refine Wcf rfl ?_
           refine Wskip ?_
           refine qn ?_
           refine Wseq ?_
           refine Wreg ?_
           replace hp := bind_some hp; obtain ⟨r26, hr26, hp⟩ := hp
           refine rc (cl Try.call8 rfl rfl) rfl ?_
           refine law21_shape_any hc hr26 ?_
           clear hc; intro w27 hc
           refine rs (v := .agg #[.int .i64 r26.Layers, .int .i64 r26.Width, .int .i64 r26.Heads, .int .i64 r26.Inner, .int .i64 r26.Vocab, .int .i64 r26.Places, .int .i64 2, .slice none 0 0, .slice none 0 0]) (bd_47_0_1 rfl rfl) rfl ?_
           refine rsE (Ctx.boxOp (cs := [.int .i64 r26.Layers, .int .i64 r26.Width, .int .i64 r26.Heads, .int .i64 r26.Inner, .int .i64 r26.Vocab, .int .i64 r26.Places, .int .i64 2, .slice none 0 0, .slice none 0 0]) (v := .agg #[.int .i64 r26.Layers, .int .i64 r26.Width, .int .i64 r26.Heads, .int .i64 r26.Inner, .int .i64 r26.Vocab, .int .i64 r26.Places, .int .i64 2, .slice none 0 0, .slice none 0 0]) hc rfl rfl) rfl ?_
           clear hc; rintro _ w30 ⟨b28, rfl, hc⟩
           refine rs (v := .pointer (some ⟨b28, 0, none⟩)) (av (v := .pointer (some ⟨b28, 0, none⟩)) rfl) rfl ?_
           refine rn ?_
           refine qn ?_
           refine Wseq ?_
           refine Wreg ?_
           refine rs (v := .pointer (some ⟨b23, 0, none⟩)) (mv (v := .pointer (some ⟨b23, 0, none⟩)) rfl) rfl ?_
           replace hp := bind_some hp; obtain ⟨r31, hr31, hp⟩ := hp
           refine rc (cl Try.call10 rfl rfl) rfl ?_
           refine law21_asks_any hc hr31 ?_
           clear hc; intro a32 n33 q34 w35 hc
           obtain ⟨u36, _⟩ := Ctx.rdLen hc (k := 0) rfl rfl reads_ro; subst u36
           replace hp := bind_some hp; obtain ⟨r37, hr37, hp⟩ := hp
           refine rc (cl Try.call10 rfl rfl) rfl ?_
           refine law21_asks_any hc hr37 ?_
           clear hc; intro a38 n39 q40 w41 hc
           obtain ⟨u42, _⟩ := Ctx.rdLen hc (k := 0) rfl rfl reads_ro; subst u42
           replace hc := hc.dup (k := 0) rfl rfl
           replace hc : Ctx w41 (Hold S_api_Request.pr [.int .i64 r37.ID, .int .i64 r37.Most, .slice a38 r37.Prompt.length q40] r37 :: Hold (pRo (pInt .i64)) [.slice a38 r37.Prompt.length q40] r37.Prompt :: Hold (pRo (pInt .i64)) [.slice a32 r31.Prompt.length q34] r31.Prompt :: B b28 [.int .i64 r26.Layers, .int .i64 r26.Width, .int .i64 r26.Heads, .int .i64 r26.Inner, .int .i64 r26.Vocab, .int .i64 r26.Places, .int .i64 2, .slice none 0 0, .slice none 0 0] 47 :: S_admit_Desk.hp b23 y21 :: B b5 [.int .i64 x0.ID, .int .i64 x0.Most, .slice a1 x0.Prompt.length q3] 24 :: Hold (pRo (pInt .i64)) [.slice a1 x0.Prompt.length q3] x0.Prompt :: P1 :: Fr) := S_api_Request.cl hc
           replace hc := hc.dup (k := 2) rfl rfl
           replace hc : Ctx w41 (Hold S_api_Request.pr [.int .i64 r31.ID, .int .i64 r31.Most, .slice a32 r31.Prompt.length q34] r31 :: Hold S_api_Request.pr [.int .i64 r37.ID, .int .i64 r37.Most, .slice a38 r37.Prompt.length q40] r37 :: Hold (pRo (pInt .i64)) [.slice a38 r37.Prompt.length q40] r37.Prompt :: Hold (pRo (pInt .i64)) [.slice a32 r31.Prompt.length q34] r31.Prompt :: B b28 [.int .i64 r26.Layers, .int .i64 r26.Width, .int .i64 r26.Heads, .int .i64 r26.Inner, .int .i64 r26.Vocab, .int .i64 r26.Places, .int .i64 2, .slice none 0 0, .slice none 0 0] 47 :: S_admit_Desk.hp b23 y21 :: B b5 [.int .i64 x0.ID, .int .i64 x0.Most, .slice a1 x0.Prompt.length q3] 24 :: Hold (pRo (pInt .i64)) [.slice a1 x0.Prompt.length q3] x0.Prompt :: P1 :: Fr) := S_api_Request.cl hc
           refine rsE (Ctx.builtOp (css := [[.int .i64 r31.ID, .int .i64 r31.Most, .slice a32 r31.Prompt.length q34], [.int .i64 r37.ID, .int .i64 r37.Most, .slice a38 r37.Prompt.length q40]]) (xs := ([r31, r37] : List S_api_Request)) (E := S_api_Request.pr) hc Try.underlying45 Try.sizeOf24 Try.zeroValue24 rfl rfl rfl rfl rfl rfl rfl rfl) rfl ?_
           clear hc; rintro _ w44 ⟨a43, rfl, hc⟩
           replace hp := bind_some hp; obtain ⟨r45, hr45, hp⟩ := hp
           replace hc := hc.pull 4 rfl rfl
           refine rc (cl Try.call9 rfl rfl) rfl ?_
           refine admit_Desk_Submit_any reads_own hc hr45 ?_
           clear hc; intro a46 n47 q48 w49 hc
           obtain ⟨u50, _⟩ := Ctx.rdLen hc (k := 0) rfl rfl reads_own; subst u50
           refine rn ?_
           refine qn ?_
           refine Wseq ?_
           refine Wreg ?_
           refine rs (v := .pointer (some ⟨b28, 0, none⟩)) (mv (v := .pointer (some ⟨b28, 0, none⟩)) rfl) rfl ?_
           replace hp := bind_some hp; obtain ⟨r51, hr51, hp⟩ := hp
           refine rc (cl Try.call10 rfl rfl) rfl ?_
           refine law21_asks_any hc hr51 ?_
           clear hc; intro a52 n53 q54 w55 hc
           obtain ⟨u56, _⟩ := Ctx.rdLen hc (k := 0) rfl rfl reads_ro; subst u56
           replace hc := hc.nilOwn S_api_Request.pr 24
           replace hc := hc.nilOwn (pInt .i64) 3
           replace hc := hc.pull 1 rfl rfl
           replace hc := hc.pull 8 rfl rfl
           replace hc : Ctx w55 (S_ref21_Desk.hp b28 (⟨(⟨r26.Layers, r26.Width, r26.Heads, r26.Inner, r26.Vocab, r26.Places⟩ : S_api_Shape), 2, [], []⟩ : S_ref21_Desk) :: Hold (pRo (pInt .i64)) [.slice a52 r51.Prompt.length q54] r51.Prompt :: Own (pInt .i64) 27 (.slice a46 r45.1.length q48) r45.1 :: S_admit_Desk.hp b23 r45.2 :: Own S_api_Request.pr 24 (.slice a43 2 2) ([r31, r37]) :: Hold (pRo (pInt .i64)) [.slice a38 r37.Prompt.length q40] r37.Prompt :: Hold (pRo (pInt .i64)) [.slice a32 r31.Prompt.length q34] r31.Prompt :: B b5 [.int .i64 x0.ID, .int .i64 x0.Most, .slice a1 x0.Prompt.length q3] 24 :: Hold (pRo (pInt .i64)) [.slice a1 x0.Prompt.length q3] x0.Prompt :: P1 :: Fr) := Ctx.exB _ _ (Ctx.exB _ _ (Ctx.sepB (Ctx.sepB hc)))
           replace hc := hc.dup (k := 1) rfl rfl
           replace hp := bind_some hp; obtain ⟨r57, hr57, hp⟩ := hp
           replace hc := hc.pull 1 rfl rfl
           refine rc (cl Try.call16 rfl rfl) rfl ?_
           refine ref21_Desk_Submit_any hc hr57 ?_
           clear hc; intro w58 hc
           refine rn ?_
           refine qn ?_
           refine Wseq ?_
           refine Wreg ?_
           refine rs (v := .pointer (some ⟨b28, 0, none⟩)) (mv (v := .pointer (some ⟨b28, 0, none⟩)) rfl) rfl ?_
           replace hp := bind_some hp; obtain ⟨r59, hr59, hp⟩ := hp
           refine rc (cl Try.call10 rfl rfl) rfl ?_
           refine law21_asks_any hc hr59 ?_
           clear hc; intro a60 n61 q62 w63 hc
           obtain ⟨u64, _⟩ := Ctx.rdLen hc (k := 0) rfl rfl reads_ro; subst u64
           replace hc := hc.dup (k := 0) rfl rfl
           replace hp := bind_some hp; obtain ⟨r65, hr65, hp⟩ := hp
           replace hc := hc.pull 2 rfl rfl
           refine rc (cl Try.call16 rfl rfl) rfl ?_
           refine ref21_Desk_Submit_any hc hr65 ?_
           clear hc; intro w66 hc
           refine rn ?_
           refine qn ?_
           refine Wseq ?_
           refine Wreg ?_
           refine rs (v := .pointer (some ⟨b23, 0, none⟩)) (mv (v := .pointer (some ⟨b23, 0, none⟩)) rfl) rfl ?_
           refine rs (v := .agg #[.int .i64 x0.ID, .int .i64 x0.Most, .slice a1 x0.Prompt.length q3]) (ldg rfl Try.isAgg24 Try.sizeOf24 rfl (Ctx.cells hc (k := 8) rfl rfl 0 (vs := [.int .i64 x0.ID, .int .i64 x0.Most, .slice a1 x0.Prompt.length q3]) rfl)) rfl ?_
           replace hc := hc.dup (k := 9) rfl rfl
           replace hc : Ctx w66 (Hold S_api_Request.pr [.int .i64 x0.ID, .int .i64 x0.Most, .slice a1 x0.Prompt.length q3] (⟨x0.ID, x0.Most, x0.Prompt⟩ : S_api_Request) :: S_ref21_Desk.hp b28 r65.2 :: Hold (pRo (pInt .i64)) [.slice a60 r59.Prompt.length q62] r59.Prompt :: Hold (pRo (pInt .i64)) [.slice a52 r51.Prompt.length q54] r51.Prompt :: Own (pInt .i64) 27 (.slice a46 r45.1.length q48) r45.1 :: S_admit_Desk.hp b23 r45.2 :: Own S_api_Request.pr 24 (.slice a43 2 2) ([r31, r37]) :: Hold (pRo (pInt .i64)) [.slice a38 r37.Prompt.length q40] r37.Prompt :: Hold (pRo (pInt .i64)) [.slice a32 r31.Prompt.length q34] r31.Prompt :: B b5 [.int .i64 x0.ID, .int .i64 x0.Most, .slice a1 x0.Prompt.length q3] 24 :: Hold (pRo (pInt .i64)) [.slice a1 x0.Prompt.length q3] x0.Prompt :: P1 :: Fr) := S_api_Request.cl hc
           refine rsE (Ctx.builtOp (css := [[.int .i64 x0.ID, .int .i64 x0.Most, .slice a1 x0.Prompt.length q3]]) (xs := ([(⟨x0.ID, x0.Most, x0.Prompt⟩ : S_api_Request)] : List S_api_Request)) (E := S_api_Request.pr) hc Try.underlying45 Try.sizeOf24 Try.zeroValue24 rfl rfl rfl rfl rfl rfl rfl rfl) rfl ?_
           clear hc; rintro _ w68 ⟨a67, rfl, hc⟩
           replace hp := bind_some hp; obtain ⟨r69, hr69, hp⟩ := hp
           replace hc := hc.pull 5 rfl rfl
           refine rc (cl Try.call9 rfl rfl) rfl ?_
           refine admit_Desk_Submit_any reads_own hc hr69 ?_
           clear hc; intro a70 n71 q72 w73 hc
           obtain ⟨u74, _⟩ := Ctx.rdLen hc (k := 0) rfl rfl reads_own; subst u74
           refine rs (v := .slice a70 r69.1.length q72) (av (v := .slice a70 r69.1.length q72) rfl) rfl ?_
           refine rn ?_
           refine qn ?_
           refine Wseq ?_
           refine Wseqm [54, 55, 56, 57, 58, 59, 60, 61, 62, 63, 64, 65, 66, 67, 68, 69, 70, 71, 72, 73, 74, 75, 76, 77, 78, 79, 80, 81, 82, 83, 84, 85, 86, 87, 88, 89, 90, 91] [91] (fun vs w' => ∃ j75 : S_ref21_Desk, ∃ j76 : Bool, vs = [.bool j76] ∧ law21_AdmitKeeps.J1 N x0 x1 r69 j75 j76 = some r ∧ Ctx w' (S_admit_Desk.hp b23 r69.2 :: S_ref21_Desk.hp b28 j75 :: B b5 [.int .i64 x0.ID, .int .i64 x0.Most, .slice a1 x0.Prompt.length q3] 24 :: Hold (pRo (pInt .i64)) [.slice a1 x0.Prompt.length q3] x0.Prompt :: P1 :: Fr)) ?_ ?_
           · replace hc := hc.drew
             have hF : ∀ j, free [0, 1, 3, 7, 15, 31, 63, 15, 15, 399, 1023, 2047, 4095, 8191, 16383, 32767, 65535, 131071, 262143, 524287, 1048575, 2097151, 4194303, 8388607, 16777215, 16777215, 50331647, 134217727, 16777215, 285212671, 822083583, 2147483647, 4294967295, 8589934591, 17179869183, 34359738367, 68719476735, 137438953471] 1049088 j = true → (fun j w' => (j = 6 → PinRow (pInt .i64) a70 r69.1 w') ∧ (j = 29 → w'.cell? ⟨b5, 0, none⟩ = some (.int .i64 x0.ID)) ∧ True) j (World.drew w73) := fun j hj => ⟨fun _ => PinRow.of hc (k := 0) rfl rfl reads_own (fun _ _ _ _ _ _ _ h1 h2 => h1.trans h2.symm), fun e => (by subst e; exact absurd hj (by decide)), trivial⟩
             refine Wdrw (fun j w' => (j = 6 → PinRow (pInt .i64) a70 r69.1 w') ∧ (j = 29 → w'.cell? ⟨b5, 0, none⟩ = some (.int .i64 x0.ID)) ∧ True) [0, 1, 3, 7, 15, 31, 63, 15, 15, 399, 1023, 2047, 4095, 8191, 16383, 32767, 65535, 131071, 262143, 524287, 1048575, 2097151, 4194303, 8388607, 16777215, 16777215, 50331647, 134217727, 16777215, 285212671, 822083583, 2147483647, 4294967295, 8589934591, 17179869183, 34359738367, 68719476735, 137438953471] 1049088 8657076482 rfl (by kernel_rfl) (hF) ?_
             generalize hw : World.drew w73 = w77 at *
             clear hw
             refine ds (v := .slice a70 r69.1.length q72) rfl (fun w' hF => mv (v := .slice a70 r69.1.length q72) rfl) rfl ?_
             refine dx (v := .int .i64 ((r69.1.length : Nat) : Int)) rfl (ln rfl Try.underlying33) rfl rfl ?_
             refine ds (v := .bool (decide (((r69.1.length : Nat) : Int) ≠ 1))) rfl (fun w' hF => ned rfl rfl) rfl ?_
             refine ds (v := .bool (decide (((r69.1.length : Nat) : Int) ≠ 1))) rfl (fun w' hF => mv (v := .bool (decide (((r69.1.length : Nat) : Int) ≠ 1))) rfl) rfl ?_
             cases hb78 : (decide (((r69.1.length : Nat) : Int) ≠ 1))
             · replace hp := gneg hp (of_decide_eq_false hb78)
               refine ds (v := .slice a70 r69.1.length q72) rfl (fun w' hF => mv (v := .slice a70 r69.1.length q72) rfl) rfl ?_
               replace hp := bind_some hp; obtain ⟨y79, hy79, hp⟩ := hp
               obtain ⟨b82, o83, u84, hi80, hi81⟩ := Ctx.rdAt hc (k := 0) rfl rfl reads_own hy79
               subst u84
               refine ds (v := .pointer (some ⟨b82, o83 + ((0 : Int)).toNat * 1, none⟩)) rfl (fun w' hF => ixx rfl rfl Try.underlying33 Try.sizeOf27 hi80 hi81 rfl) rfl ?_
               replace hc := Ctx.rdCell hc (k := 0) rfl rfl reads_own hy79; obtain ⟨cs85, hc, hcell86⟩ := hc
               replace hc := Ctx.holdC hc; obtain ⟨u87, hc⟩ := hc; subst u87
               refine ds (v := .int .i64 y79) rfl (fun w' hF => ld rfl Try.isAgg27 ((hF.1 rfl) _ _ _ _ hy79 rfl w' (fun _ => True) _ rfl 0 _ rfl)) rfl ?_
               refine ds (v := .pointer (some ⟨b28, 0, none⟩)) rfl (fun w' hF => mv (v := .pointer (some ⟨b28, 0, none⟩)) rfl) rfl ?_
               refine dx (v := .agg #[.int .i64 x0.ID, .int .i64 x0.Most, .slice a1 x0.Prompt.length q3]) rfl (ldg rfl Try.isAgg24 Try.sizeOf24 rfl (Ctx.cells hc (k := 10) rfl rfl 0 (vs := [.int .i64 x0.ID, .int .i64 x0.Most, .slice a1 x0.Prompt.length q3]) rfl)) rfl rfl ?_
               replace hc := hc.dup (k := 11) rfl rfl
               replace hp := bind_some hp; obtain ⟨r88, hr88, hp⟩ := hp
               replace hc := hc.pull 4 rfl rfl
               refine dc (cl Try.call16 rfl rfl) rfl rfl ?_
               refine ref21_Desk_Submit_any hc hr88 ?_
               clear hc; intro w89 hc
               refine ⟨fun j hj hb => ⟨fun _ => PinRow.of hc (k := 1) rfl rfl reads_own (fun _ _ _ _ _ _ _ h1 h2 => h1.trans h2.symm), fun e => (by subst e; exact absurd hb (by decide)), trivial⟩, ?_⟩
               refine ds (v := .bool (decide (y79 ≠ r88.1))) rfl (fun w' hF => ned rfl rfl) rfl ?_
               refine ds (v := .bool (decide (y79 ≠ r88.1))) rfl (fun w' hF => pkf (v := .bool (decide (y79 ≠ r88.1))) rfl rfl) rfl ?_
               refine ds (v := .bool (decide (y79 ≠ r88.1))) rfl (fun w' hF => mv (v := .bool (decide (y79 ≠ r88.1))) rfl) rfl ?_
               cases hb90 : (decide (y79 ≠ r88.1))
               · replace hp := gneg hp (of_decide_eq_false hb90)
                 refine ds (v := .slice (some ⟨b82, o83, none⟩) r69.1.length q72) rfl (fun w' hF => mv (v := .slice (some ⟨b82, o83, none⟩) r69.1.length q72) rfl) rfl ?_
                 replace hp := bind_some hp; obtain ⟨y91, hy91, hp⟩ := hp
                 obtain ⟨b94, o95, u96, hi92, hi93⟩ := Ctx.rdAt hc (k := 1) rfl rfl reads_own hy91
                 clear u96
                 refine ds (v := .pointer (some ⟨b82, o83 + ((0 : Int)).toNat * 1, none⟩)) rfl (fun w' hF => ixx rfl rfl Try.underlying33 Try.sizeOf27 hi92 hi93 rfl) rfl ?_
                 replace hc := Ctx.rdCell hc (k := 1) rfl rfl reads_own hy91; obtain ⟨cs97, hc, hcell98⟩ := hc
                 replace hc := Ctx.holdC hc; obtain ⟨u99, hc⟩ := hc; subst u99
                 refine dx (v := .int .i64 y91) rfl (ld rfl Try.isAgg27 (hcell98 0 _ rfl)) rfl rfl ?_
                 refine ds (v := .bool (decide (y91 = 0))) rfl (fun w' hF => eqd rfl rfl) rfl ?_
                 refine ds (v := .bool (decide (y91 = 0))) rfl (fun w' hF => pkf (v := .bool (decide (y91 = 0))) rfl rfl) rfl ?_
                 refine ds (v := .bool (decide (y91 = 0))) rfl (fun w' hF => mv (v := .bool (decide (y91 = 0))) rfl) rfl ?_
                 cases hb100 : (decide (y91 = 0))
                 · replace hp := gneg hp (of_decide_eq_false hb100)
                   refine ds (v := .pointer (some ⟨b23, 0, none⟩)) rfl (fun w' hF => mv (v := .pointer (some ⟨b23, 0, none⟩)) rfl) rfl ?_
                   replace hp := bind_some hp; obtain ⟨r101, hr101, hp⟩ := hp
                   replace hc := hc.pull 2 rfl rfl
                   refine dc (cl Try.call14 rfl rfl) rfl rfl ?_
                   refine admit_Desk_Len_any hc hr101 ?_
                   clear hc; intro w102 hc
                   refine ⟨fun j hj hb => ⟨fun e => (by subst e; exact absurd hj (by decide)), fun _ => hc.cell (k := 10) rfl rfl rfl, trivial⟩, ?_⟩
                   refine ds (v := .bool (decide (r101 ≠ 2))) rfl (fun w' hF => ned rfl rfl) rfl ?_
                   refine ds (v := .bool (decide (r101 ≠ 2))) rfl (fun w' hF => pkf (v := .bool (decide (r101 ≠ 2))) rfl rfl) rfl ?_
                   refine ds (v := .bool (decide (r101 ≠ 2))) rfl (fun w' hF => mv (v := .bool (decide (r101 ≠ 2))) rfl) rfl ?_
                   cases hb103 : (decide (r101 ≠ 2))
                   · replace hp := gneg hp (of_decide_eq_false hb103)
                     refine ds (v := .pointer (some ⟨b23, 0, none⟩)) rfl (fun w' hF => mv (v := .pointer (some ⟨b23, 0, none⟩)) rfl) rfl ?_
                     refine ds (v := .pointer (some ⟨b5, 0, none⟩)) rfl (fun w' hF => fax 0 rfl Try.underlying24 rfl Try.sizeOf3 rfl rfl rfl) rfl ?_
                     refine dx (v := .int .i64 x0.ID) rfl (ld rfl Try.isAgg3 (Ctx.cell hc (k := 10) rfl rfl rfl)) rfl rfl ?_
                     replace hp := bind_some hp; obtain ⟨r104, hr104, hp⟩ := hp
                     refine dc (cl Try.call13 rfl rfl) rfl rfl ?_
                     refine admit_Desk_Took_any hc hr104 ?_
                     clear hc; intro w105 hc
                     refine ⟨fun j hj hb => ⟨fun e => (by subst e; exact absurd hj (by decide)), fun _ => hc.cell (k := 10) rfl rfl rfl, trivial⟩, ?_⟩
                     refine ds (v := .pointer (some ⟨b5, 0, none⟩)) rfl (fun w' hF => fax 0 rfl Try.underlying24 rfl Try.sizeOf3 rfl rfl rfl) rfl ?_
                     refine ds (v := .int .i64 x0.ID) rfl (fun w' hF => ld rfl Try.isAgg3 ((hF.2.1 rfl))) rfl ?_
                     refine ds (v := .bool (decide (x0.ID = 100))) rfl (fun w' hF => eqd rfl rfl) rfl ?_
                     refine ds (v := .bool (decide (x0.ID = 100))) rfl (fun w' hF => mv (v := .bool (decide (x0.ID = 100))) rfl) rfl ?_
                     cases hb106 : (decide (x0.ID = 100))
                     · replace hp := gneg hp (of_decide_eq_false hb106)
                       refine ds (v := .pointer (some ⟨b5, 0, none⟩)) rfl (fun w' hF => fax 0 rfl Try.underlying24 rfl Try.sizeOf3 rfl rfl rfl) rfl ?_
                       refine dx (v := .int .i64 x0.ID) rfl (ld rfl Try.isAgg3 (Ctx.cell hc (k := 10) rfl rfl rfl)) rfl rfl ?_
                       refine ds (v := .bool (decide (x0.ID = 101))) rfl (fun w' hF => eqd rfl rfl) rfl ?_
                       refine ds (v := .bool (decide (x0.ID = 101))) rfl (fun w' hF => pkf (v := .bool (decide (x0.ID = 101))) rfl rfl) rfl ?_
                       refine ds (v := .bool (!(r104 == (decide (x0.ID = 101))))) rfl (fun w' hF => neb Try.underlying4 rfl rfl) rfl ?_
                       refine ds (v := .bool (!(r104 == (decide (x0.ID = 101))))) rfl (fun w' hF => pkf (v := .bool (!(r104 == (decide (x0.ID = 101))))) rfl rfl) rfl ?_
                       refine dn ?_
                       refine qn ?_
                       replace hc := hc.rem 9 rfl rfl
                       replace hc := hc.rem 8 rfl rfl
                       replace hc := hc.rem 7 rfl rfl
                       replace hc := hc.rem 6 rfl rfl
                       replace hc := hc.rem 5 rfl rfl
                       replace hc := hc.rem 4 rfl rfl
                       replace hc := hc.rem 3 rfl rfl
                       replace hc := hc.rem 2 rfl rfl
                       exact ⟨⟨r88.2, (!(r104 == (decide (x0.ID = 101)))), rfl, hp, hc⟩, (kl rfl kb)⟩
                     · replace hp := gpos hp (of_decide_eq_true hb106)
                       refine d0 rfl rfl ?_
                       refine d0 rfl rfl ?_
                       refine d0 rfl rfl ?_
                       refine ds (v := .bool true) rfl (fun w' hF => pkt (v := .bool true) rfl rfl) rfl ?_
                       refine ds (v := .bool (!(r104 == true))) rfl (fun w' hF => neb Try.underlying4 rfl rfl) rfl ?_
                       refine ds (v := .bool (!(r104 == true))) rfl (fun w' hF => pkf (v := .bool (!(r104 == true))) rfl rfl) rfl ?_
                       refine dn ?_
                       refine qn ?_
                       replace hc := hc.rem 9 rfl rfl
                       replace hc := hc.rem 8 rfl rfl
                       replace hc := hc.rem 7 rfl rfl
                       replace hc := hc.rem 6 rfl rfl
                       replace hc := hc.rem 5 rfl rfl
                       replace hc := hc.rem 4 rfl rfl
                       replace hc := hc.rem 3 rfl rfl
                       replace hc := hc.rem 2 rfl rfl
                       exact ⟨⟨r88.2, (!(r104 == true)), rfl, hp, hc⟩, (kl rfl kb)⟩
                   · replace hp := gpos hp (of_decide_eq_true hb103)
                     refine d0 rfl rfl ?_
                     refine d0 rfl rfl ?_
                     refine d0 rfl rfl ?_
                     refine d0 rfl rfl ?_
                     refine d0 rfl rfl ?_
                     refine d0 rfl rfl ?_
                     refine d0 rfl rfl ?_
                     refine d0 rfl rfl ?_
                     refine d0 rfl rfl ?_
                     refine d0 rfl rfl ?_
                     refine d0 rfl rfl ?_
                     refine d0 rfl rfl ?_
                     refine d0 rfl rfl ?_
                     refine ds (v := .bool true) rfl (fun w' hF => pkt (v := .bool true) rfl rfl) rfl ?_
                     refine dn ?_
                     refine qn ?_
                     replace hc := hc.rem 9 rfl rfl
                     replace hc := hc.rem 8 rfl rfl
                     replace hc := hc.rem 7 rfl rfl
                     replace hc := hc.rem 6 rfl rfl
                     replace hc := hc.rem 5 rfl rfl
                     replace hc := hc.rem 4 rfl rfl
                     replace hc := hc.rem 3 rfl rfl
                     replace hc := hc.rem 2 rfl rfl
                     exact ⟨⟨r88.2, true, rfl, hp, hc⟩, (kl rfl kb)⟩
                 · replace hp := gpos hp (of_decide_eq_true hb100)
                   refine d0 rfl rfl ?_
                   refine d0e rfl (fun j hj hb => ⟨fun e => (by subst e; exact absurd hj (by decide)), fun _ => hc.cell (k := 10) rfl rfl rfl, trivial⟩) rfl ?_
                   refine d0 rfl rfl ?_
                   refine ds (v := .bool true) rfl (fun w' hF => pkt (v := .bool true) rfl rfl) rfl ?_
                   refine ds (v := .bool true) rfl (fun w' hF => mv (v := .bool true) rfl) rfl ?_
                   refine d0 rfl rfl ?_
                   refine d0 rfl rfl ?_
                   refine d0 rfl rfl ?_
                   refine d0 rfl rfl ?_
                   refine d0 rfl rfl ?_
                   refine d0 rfl rfl ?_
                   refine d0 rfl rfl ?_
                   refine d0 rfl rfl ?_
                   refine d0 rfl rfl ?_
                   refine d0 rfl rfl ?_
                   refine d0 rfl rfl ?_
                   refine d0 rfl rfl ?_
                   refine d0 rfl rfl ?_
                   refine ds (v := .bool true) rfl (fun w' hF => pkt (v := .bool true) rfl rfl) rfl ?_
                   refine dn ?_
                   refine qn ?_
                   replace hc := hc.rem 9 rfl rfl
                   replace hc := hc.rem 8 rfl rfl
                   replace hc := hc.rem 7 rfl rfl
                   replace hc := hc.rem 6 rfl rfl
                   replace hc := hc.rem 5 rfl rfl
                   replace hc := hc.rem 4 rfl rfl
                   replace hc := hc.rem 3 rfl rfl
                   replace hc := hc.rem 1 rfl rfl
                   replace hc := hc.pull 4 rfl rfl
                   replace hc := hc.pull 4 rfl rfl
                   replace hc := hc.pull 4 rfl rfl
                   replace hc := hc.pull 3 rfl rfl
                   replace hc := hc.pull 4 rfl rfl
                   exact ⟨⟨r88.2, true, rfl, hp, hc⟩, (kl rfl kb)⟩
               · replace hp := gpos hp (of_decide_eq_true hb90)
                 refine d0 rfl rfl ?_
                 refine d0 rfl rfl ?_
                 refine d0 rfl rfl ?_
                 refine d0 rfl rfl ?_
                 refine ds (v := .bool true) rfl (fun w' hF => pkt (v := .bool true) rfl rfl) rfl ?_
                 refine ds (v := .bool true) rfl (fun w' hF => mv (v := .bool true) rfl) rfl ?_
                 refine d0 rfl rfl ?_
                 refine d0e rfl (fun j hj hb => ⟨fun e => (by subst e; exact absurd hj (by decide)), fun _ => hc.cell (k := 10) rfl rfl rfl, trivial⟩) rfl ?_
                 refine d0 rfl rfl ?_
                 refine ds (v := .bool true) rfl (fun w' hF => pkt (v := .bool true) rfl rfl) rfl ?_
                 refine ds (v := .bool true) rfl (fun w' hF => mv (v := .bool true) rfl) rfl ?_
                 refine d0 rfl rfl ?_
                 refine d0 rfl rfl ?_
                 refine d0 rfl rfl ?_
                 refine d0 rfl rfl ?_
                 refine d0 rfl rfl ?_
                 refine d0 rfl rfl ?_
                 refine d0 rfl rfl ?_
                 refine d0 rfl rfl ?_
                 refine d0 rfl rfl ?_
                 refine d0 rfl rfl ?_
                 refine d0 rfl rfl ?_
                 refine d0 rfl rfl ?_
                 refine d0 rfl rfl ?_
                 refine ds (v := .bool true) rfl (fun w' hF => pkt (v := .bool true) rfl rfl) rfl ?_
                 refine dn ?_
                 refine qn ?_
                 replace hc := hc.rem 9 rfl rfl
                 replace hc := hc.rem 8 rfl rfl
                 replace hc := hc.rem 7 rfl rfl
                 replace hc := hc.rem 6 rfl rfl
                 replace hc := hc.rem 5 rfl rfl
                 replace hc := hc.rem 4 rfl rfl
                 replace hc := hc.rem 3 rfl rfl
                 replace hc := hc.rem 1 rfl rfl
                 replace hc := hc.pull 4 rfl rfl
                 replace hc := hc.pull 4 rfl rfl
                 replace hc := hc.pull 4 rfl rfl
                 replace hc := hc.pull 3 rfl rfl
                 replace hc := hc.pull 4 rfl rfl
                 exact ⟨⟨r88.2, true, rfl, hp, hc⟩, (kl rfl kb)⟩
             · replace hp := gpos hp (of_decide_eq_true hb78)
               refine d0 rfl rfl ?_
               refine d0 rfl rfl ?_
               refine d0 rfl rfl ?_
               refine d0 rfl rfl ?_
               refine d0 rfl rfl ?_
               refine d0e rfl (fun j hj hb => ⟨fun _ => PinRow.of hc (k := 0) rfl rfl reads_own (fun _ _ _ _ _ _ _ h1 h2 => h1.trans h2.symm), fun e => (by subst e; exact absurd hb (by decide)), trivial⟩) rfl ?_
               refine d0 rfl rfl ?_
               refine ds (v := .bool true) rfl (fun w' hF => pkt (v := .bool true) rfl rfl) rfl ?_
               refine ds (v := .bool true) rfl (fun w' hF => mv (v := .bool true) rfl) rfl ?_
               refine d0 rfl rfl ?_
               refine d0 rfl rfl ?_
               refine d0 rfl rfl ?_
               refine d0 rfl rfl ?_
               refine ds (v := .bool true) rfl (fun w' hF => pkt (v := .bool true) rfl rfl) rfl ?_
               refine ds (v := .bool true) rfl (fun w' hF => mv (v := .bool true) rfl) rfl ?_
               refine d0 rfl rfl ?_
               refine d0e rfl (fun j hj hb => ⟨fun e => (by subst e; exact absurd hj (by decide)), fun _ => hc.cell (k := 10) rfl rfl rfl, trivial⟩) rfl ?_
               refine d0 rfl rfl ?_
               refine ds (v := .bool true) rfl (fun w' hF => pkt (v := .bool true) rfl rfl) rfl ?_
               refine ds (v := .bool true) rfl (fun w' hF => mv (v := .bool true) rfl) rfl ?_
               refine d0 rfl rfl ?_
               refine d0 rfl rfl ?_
               refine d0 rfl rfl ?_
               refine d0 rfl rfl ?_
               refine d0 rfl rfl ?_
               refine d0 rfl rfl ?_
               refine d0 rfl rfl ?_
               refine d0 rfl rfl ?_
               refine d0 rfl rfl ?_
               refine d0 rfl rfl ?_
               refine d0 rfl rfl ?_
               refine d0 rfl rfl ?_
               refine d0 rfl rfl ?_
               refine ds (v := .bool true) rfl (fun w' hF => pkt (v := .bool true) rfl rfl) rfl ?_
               refine dn ?_
               refine qn ?_
               replace hc := hc.rem 9 rfl rfl
               replace hc := hc.rem 8 rfl rfl
               replace hc := hc.rem 7 rfl rfl
               replace hc := hc.rem 6 rfl rfl
               replace hc := hc.rem 5 rfl rfl
               replace hc := hc.rem 4 rfl rfl
               replace hc := hc.rem 2 rfl rfl
               replace hc := hc.rem 0 rfl rfl
               exact ⟨⟨r65.2, true, rfl, hp, hc⟩, (kl rfl kb)⟩
           · clear hp hc; intro vs u w107 hJ
             obtain ⟨j75, j76, rfl, hp, hc⟩ := hJ
             unfold law21_AdmitKeeps.J1 at hp
             cases hb108 : j76
             · replace hp := gneg hp (by rw [hb108]; exact Bool.false_ne_true)
               subst hb108
               refine Wcf rfl ?_
               refine Wskip ?_
               refine qn ?_
               refine Wseq ?_
               refine Wseq ?_
               refine Wreg ?_
               refine rs (v := .int .i64 0) (av (v := .int .i64 0) rfl) rfl ?_
               refine rn ?_
               refine qn ?_
               refine Wblk ?_
               refine Wloop [4, 9, 92, 93, 94, 95, 96, 97, 98, 99, 100, 101, 102, 103, 104, 105, 106, 107, 108, 109, 110, 111] [9] (fun m vs w' => ∃ j109 : S_admit_Desk, ∃ j110 : S_ref21_Desk, ∃ j111 : Int, vs = [.int .i64 j111] ∧ law21_AdmitKeeps.L2 N x0 x1 m j109 j110 j111 = some r ∧ Ctx w' (S_admit_Desk.hp b23 j109 :: S_ref21_Desk.hp b28 j110 :: B b5 [.int .i64 x0.ID, .int .i64 x0.Most, .slice a1 x0.Prompt.length q3] 24 :: Hold (pRo (pInt .i64)) [.slice a1 x0.Prompt.length q3] x0.Prompt :: P1 :: Fr)) N ?_ ?_
               · exact ⟨r69.2, j75, 0, rfl, hp, hc⟩
               · clear hp hc; intro m vs u w112 hJ
                 obtain ⟨j109, j110, j111, rfl, hp, hc⟩ := hJ
                 rcases m with _ | m2
                 · cases (show none = some r from hp)
                 rw [law21_AdmitKeeps.L2] at hp
                 refine Wseq ?_
                 refine Wseq ?_
                 refine Wreg ?_
                 refine rs (v := .int .i64 j111) (mv (v := .int .i64 j111) rfl) rfl ?_
                 refine rs (v := .slice ax1 x1.length qx1) (mv (v := .slice ax1 x1.length qx1) rfl) rfl ?_
                 refine rs (v := .int .i64 ((x1.length : Nat) : Int)) (ln rfl Try.underlying22) rfl ?_
                 refine rs (v := .bool (decide (j111 < ((x1.length : Nat) : Int)))) (lt' rfl rfl) rfl ?_
                 refine rn ?_
                 refine qn ?_
                 cases hb113 : (decide (j111 < ((x1.length : Nat) : Int)))
                 · replace hp := gneg hp (of_decide_eq_false hb113)
                   refine Wcf rfl ?_
                   refine Wexit ?_
                   refine qx ?_
                   refine qx ?_
                   refine be ?_
                   refine qn ?_
                   refine Wseq ?_
                   refine Wreg ?_
                   refine rs (v := .pointer (some ⟨b23, 0, none⟩)) (mv (v := .pointer (some ⟨b23, 0, none⟩)) rfl) rfl ?_
                   replace hc : Ctx w112 (Hold (pInt .i64) [.int .i64 100] 100 :: S_admit_Desk.hp b23 j109 :: S_ref21_Desk.hp b28 j110 :: B b5 [.int .i64 x0.ID, .int .i64 x0.Most, .slice a1 x0.Prompt.length q3] 24 :: Hold (pRo (pInt .i64)) [.slice a1 x0.Prompt.length q3] x0.Prompt :: P1 :: Fr) := hc.add _ fun _ _ _ => ⟨rfl, rfl⟩
                   refine rsE (Ctx.builtOp (css := [[.int .i64 100]]) (xs := ([100] : List Int)) (E := (pInt .i64)) hc Try.underlying22 Try.sizeOf3 Try.zeroValue3 rfl rfl rfl rfl rfl rfl rfl rfl) rfl ?_
                   clear hc; rintro _ w115 ⟨a114, rfl, hc⟩
                   replace hp := bind_some hp; obtain ⟨r116, hr116, hp⟩ := hp
                   replace hc := hc.pull 1 rfl rfl
                   refine rc (cl Try.call19 rfl rfl) rfl ?_
                   refine admit_Desk_Cancel_any reads_own hc hr116 ?_
                   clear hc; intro w117 hc
                   refine rn ?_
                   refine qn ?_
                   refine Wseq ?_
                   refine Wreg ?_
                   refine rs (v := .pointer (some ⟨b28, 0, none⟩)) (mv (v := .pointer (some ⟨b28, 0, none⟩)) rfl) rfl ?_
                   replace hp := bind_some hp; obtain ⟨r118, hr118, hp⟩ := hp
                   replace hc := hc.pull 2 rfl rfl
                   refine rc (cl Try.call20 rfl rfl) rfl ?_
                   refine ref21_Desk_Cancel_any hc hr118 ?_
                   clear hc; intro w119 hc
                   refine rn ?_
                   refine qn ?_
                   refine Wseq ?_
                   refine Wreg ?_
                   refine rs (v := .pointer (some ⟨b23, 0, none⟩)) (mv (v := .pointer (some ⟨b23, 0, none⟩)) rfl) rfl ?_
                   refine rs (v := .agg #[.int .i64 x0.ID, .int .i64 x0.Most, .slice a1 x0.Prompt.length q3]) (ldg rfl Try.isAgg24 Try.sizeOf24 rfl (Ctx.cells hc (k := 3) rfl rfl 0 (vs := [.int .i64 x0.ID, .int .i64 x0.Most, .slice a1 x0.Prompt.length q3]) rfl)) rfl ?_
                   replace hc := hc.dup (k := 4) rfl rfl
                   replace hc : Ctx w119 (Hold S_api_Request.pr [.int .i64 x0.ID, .int .i64 x0.Most, .slice a1 x0.Prompt.length q3] (⟨x0.ID, x0.Most, x0.Prompt⟩ : S_api_Request) :: S_ref21_Desk.hp b28 r118.2 :: S_admit_Desk.hp b23 r116.2 :: Own (pInt .i64) 3 (.slice a114 1 1) ([100]) :: B b5 [.int .i64 x0.ID, .int .i64 x0.Most, .slice a1 x0.Prompt.length q3] 24 :: Hold (pRo (pInt .i64)) [.slice a1 x0.Prompt.length q3] x0.Prompt :: P1 :: Fr) := S_api_Request.cl hc
                   refine rsE (Ctx.builtOp (css := [[.int .i64 x0.ID, .int .i64 x0.Most, .slice a1 x0.Prompt.length q3]]) (xs := ([(⟨x0.ID, x0.Most, x0.Prompt⟩ : S_api_Request)] : List S_api_Request)) (E := S_api_Request.pr) hc Try.underlying45 Try.sizeOf24 Try.zeroValue24 rfl rfl rfl rfl rfl rfl rfl rfl) rfl ?_
                   clear hc; rintro _ w121 ⟨a120, rfl, hc⟩
                   replace hp := bind_some hp; obtain ⟨r122, hr122, hp⟩ := hp
                   replace hc := hc.pull 2 rfl rfl
                   refine rc (cl Try.call9 rfl rfl) rfl ?_
                   refine admit_Desk_Submit_any reads_own hc hr122 ?_
                   clear hc; intro a123 n124 q125 w126 hc
                   obtain ⟨u127, _⟩ := Ctx.rdLen hc (k := 0) rfl rfl reads_own; subst u127
                   refine rs (v := .slice a123 r122.1.length q125) (av (v := .slice a123 r122.1.length q125) rfl) rfl ?_
                   refine rn ?_
                   refine qn ?_
                   refine Wseq ?_
                   replace hc := hc.pull 3 rfl rfl
                   replace hc := Ctx.exF hc; obtain ⟨v128, hc⟩ := hc
                   replace hc := Ctx.exF hc; obtain ⟨v129, hc⟩ := hc
                   replace hc := Ctx.sepF hc
                   replace hc := Ctx.sepF hc
                   obtain ⟨a130, q131, u132⟩ := hc.rd (k := 1) rfl rfl reads_own; subst u132
                   obtain ⟨a133, q134, u135⟩ := hc.rd (k := 2) rfl rfl reads_own; subst u135
                   replace hc := hc.drew
                   have hF : ∀ j, free [0, 1, 3, 7, 15, 31, 63, 15, 15, 399, 1023, 2047, 4095, 8191, 16383, 32767, 65535, 131071, 131071, 524287, 1048575, 2097151, 4194303, 8388607, 16777215, 8388607, 41943039, 109051903, 243269631, 511705087, 1073741823, 2147483647, 4294967295] 0 j = true → (fun j w' => (j = 6 → PinRow (pInt .i64) a123 r122.1 w') ∧ True) j (World.drew w126) := fun j hj => ⟨fun _ => PinRow.of hc (k := 3) rfl rfl reads_own (fun _ _ _ _ _ _ _ h1 h2 => h1.trans h2.symm), trivial⟩
                   refine Wdrw (fun j w' => (j = 6 → PinRow (pInt .i64) a123 r122.1 w') ∧ True) [0, 1, 3, 7, 15, 31, 63, 15, 15, 399, 1023, 2047, 4095, 8191, 16383, 32767, 65535, 131071, 131071, 524287, 1048575, 2097151, 4194303, 8388607, 16777215, 8388607, 41943039, 109051903, 243269631, 511705087, 1073741823, 2147483647, 4294967295] 0 258 rfl (by kernel_rfl) (hF) ?_
                   generalize hw : World.drew w126 = w136 at *
                   clear hw
                   refine ds (v := .slice a123 r122.1.length q125) rfl (fun w' hF => mv (v := .slice a123 r122.1.length q125) rfl) rfl ?_
                   refine dx (v := .int .i64 ((r122.1.length : Nat) : Int)) rfl (ln rfl Try.underlying33) rfl rfl ?_
                   refine ds (v := .bool (decide (((r122.1.length : Nat) : Int) = 1))) rfl (fun w' hF => eqd rfl rfl) rfl ?_
                   refine ds (v := .bool (decide (((r122.1.length : Nat) : Int) = 1))) rfl (fun w' hF => mv (v := .bool (decide (((r122.1.length : Nat) : Int) = 1))) rfl) rfl ?_
                   cases hb137 : (decide (((r122.1.length : Nat) : Int) = 1))
                   · replace hp := gneg hp (of_decide_eq_false hb137)
                     refine d0 rfl rfl ?_
                     refine d0 rfl rfl ?_
                     refine d0 rfl rfl ?_
                     refine d0 rfl rfl ?_
                     refine d0 rfl rfl ?_
                     refine d0 rfl rfl ?_
                     refine d0 rfl rfl ?_
                     refine ds (v := .bool false) rfl (fun w' hF => pkf (v := .bool false) rfl rfl) rfl ?_
                     refine ds (v := .bool false) rfl (fun w' hF => mv (v := .bool false) rfl) rfl ?_
                     refine d0 rfl rfl ?_
                     refine d0 rfl rfl ?_
                     refine ds (v := .bool false) rfl (fun w' hF => pkf (v := .bool false) rfl rfl) rfl ?_
                     refine ds (v := .bool false) rfl (fun w' hF => mv (v := .bool false) rfl) rfl ?_
                     refine d0 rfl rfl ?_
                     refine d0 rfl rfl ?_
                     refine d0 rfl rfl ?_
                     refine d0 rfl rfl ?_
                     refine ds (v := .bool false) rfl (fun w' hF => pkf (v := .bool false) rfl rfl) rfl ?_
                     refine ds (v := .bool false) rfl (fun w' hF => mv (v := .bool false) rfl) rfl ?_
                     refine d0 rfl rfl ?_
                     refine d0 rfl rfl ?_
                     refine d0 rfl rfl ?_
                     refine d0 rfl rfl ?_
                     refine d0 rfl rfl ?_
                     refine d0 rfl rfl ?_
                     refine d0 rfl rfl ?_
                     refine d0 rfl rfl ?_
                     refine ds (v := .bool false) rfl (fun w' hF => pkf (v := .bool false) rfl rfl) rfl ?_
                     refine ds (v := .bool false) rfl (fun w' hF => av (v := .bool false) rfl) rfl ?_
                     refine dn ?_
                     refine qn ?_
                     refine Wret ?_
                     replace hc := hc.rem 8 rfl rfl
                     replace hc := hc.rem 7 rfl rfl
                     replace hc := hc.rem 6 rfl rfl
                     replace hc := hc.rem 5 rfl rfl
                     replace hc := hc.rem 4 rfl rfl
                     replace hc := hc.rem 3 rfl rfl
                     replace hc := hc.rem 2 rfl rfl
                     replace hc := hc.rem 1 rfl rfl
                     replace hc := hc.rem 0 rfl rfl
                     injection hp with hp; subst hp
                     refine f1 (v := .bool false) Try.results5 Try.ntmps5 rfl ?_
                     exact ⟨_, rfl, k _ hc⟩
                   · replace hp := gpos hp (of_decide_eq_true hb137)
                     refine ds (v := .slice a123 r122.1.length q125) rfl (fun w' hF => mv (v := .slice a123 r122.1.length q125) rfl) rfl ?_
                     replace hp := bind_some hp; obtain ⟨y138, hy138, hp⟩ := hp
                     obtain ⟨b141, o142, u143, hi139, hi140⟩ := Ctx.rdAt hc (k := 3) rfl rfl reads_own hy138
                     subst u143
                     refine ds (v := .pointer (some ⟨b141, o142 + ((0 : Int)).toNat * 1, none⟩)) rfl (fun w' hF => ixx rfl rfl Try.underlying33 Try.sizeOf27 hi139 hi140 rfl) rfl ?_
                     replace hc := Ctx.rdCell hc (k := 3) rfl rfl reads_own hy138; obtain ⟨cs144, hc, hcell145⟩ := hc
                     replace hc := Ctx.holdC hc; obtain ⟨u146, hc⟩ := hc; subst u146
                     refine ds (v := .int .i64 y138) rfl (fun w' hF => ld rfl Try.isAgg27 ((hF.1 rfl) _ _ _ _ hy138 rfl w' (fun _ => True) _ rfl 0 _ rfl)) rfl ?_
                     refine ds (v := .pointer (some ⟨b28, 0, none⟩)) rfl (fun w' hF => mv (v := .pointer (some ⟨b28, 0, none⟩)) rfl) rfl ?_
                     refine dx (v := .agg #[.int .i64 x0.ID, .int .i64 x0.Most, .slice a1 x0.Prompt.length q3]) rfl (ldg rfl Try.isAgg24 Try.sizeOf24 rfl (Ctx.cells hc (k := 7) rfl rfl 0 (vs := [.int .i64 x0.ID, .int .i64 x0.Most, .slice a1 x0.Prompt.length q3]) rfl)) rfl rfl ?_
                     replace hc := hc.pull 2 rfl rfl
                     replace hc := hc.pull 2 rfl rfl
                     replace hc := hc.pull 2 rfl rfl
                     replace hc : Ctx w136 (S_ref21_Desk.hp b28 r118.2 :: Own (pInt .i64) 27 (.slice (some ⟨b141, o142, none⟩) r122.1.length q125) r122.1 :: S_admit_Desk.hp b23 r122.2 :: Own S_api_Request.pr 24 (.slice a120 1 1) ([(⟨x0.ID, x0.Most, x0.Prompt⟩ : S_api_Request)]) :: Own (pInt .i64) 3 (.slice a114 1 1) ([100]) :: B b5 [.int .i64 x0.ID, .int .i64 x0.Most, .slice a1 x0.Prompt.length q3] 24 :: Hold (pRo (pInt .i64)) [.slice a1 x0.Prompt.length q3] x0.Prompt :: P1 :: Fr) := Ctx.exB _ _ (Ctx.exB _ _ (Ctx.sepB (Ctx.sepB hc)))
                     replace hc := hc.dup (k := 6) rfl rfl
                     replace hp := bind_some hp; obtain ⟨r147, hr147, hp⟩ := hp
                     replace hc := hc.pull 1 rfl rfl
                     refine dc (cl Try.call16 rfl rfl) rfl rfl ?_
                     refine ref21_Desk_Submit_any hc hr147 ?_
                     clear hc; intro w148 hc
                     refine ⟨fun j hj hb => ⟨fun _ => PinRow.of hc (k := 1) rfl rfl reads_own (fun _ _ _ _ _ _ _ h1 h2 => h1.trans h2.symm), trivial⟩, ?_⟩
                     refine ds (v := .bool (decide (y138 = r147.1))) rfl (fun w' hF => eqd rfl rfl) rfl ?_
                     refine ds (v := .bool (decide (y138 = r147.1))) rfl (fun w' hF => pkt (v := .bool (decide (y138 = r147.1))) rfl rfl) rfl ?_
                     refine ds (v := .bool (decide (y138 = r147.1))) rfl (fun w' hF => mv (v := .bool (decide (y138 = r147.1))) rfl) rfl ?_
                     cases hb149 : (decide (y138 = r147.1))
                     · replace hp := gneg hp (of_decide_eq_false hb149)
                       refine d0 rfl rfl ?_
                       refine d0 rfl rfl ?_
                       refine ds (v := .bool false) rfl (fun w' hF => pkf (v := .bool false) rfl rfl) rfl ?_
                       refine ds (v := .bool false) rfl (fun w' hF => mv (v := .bool false) rfl) rfl ?_
                       refine d0 rfl rfl ?_
                       refine d0 rfl rfl ?_
                       refine d0 rfl rfl ?_
                       refine d0 rfl rfl ?_
                       refine ds (v := .bool false) rfl (fun w' hF => pkf (v := .bool false) rfl rfl) rfl ?_
                       refine ds (v := .bool false) rfl (fun w' hF => mv (v := .bool false) rfl) rfl ?_
                       refine d0 rfl rfl ?_
                       refine d0 rfl rfl ?_
                       refine d0 rfl rfl ?_
                       refine d0 rfl rfl ?_
                       refine d0 rfl rfl ?_
                       refine d0 rfl rfl ?_
                       refine d0 rfl rfl ?_
                       refine d0 rfl rfl ?_
                       refine ds (v := .bool false) rfl (fun w' hF => pkf (v := .bool false) rfl rfl) rfl ?_
                       refine ds (v := .bool false) rfl (fun w' hF => av (v := .bool false) rfl) rfl ?_
                       refine dn ?_
                       refine qn ?_
                       refine Wret ?_
                       replace hc := hc.rem 6 rfl rfl
                       replace hc := hc.rem 5 rfl rfl
                       replace hc := hc.rem 4 rfl rfl
                       replace hc := hc.rem 3 rfl rfl
                       replace hc := hc.rem 2 rfl rfl
                       replace hc := hc.rem 1 rfl rfl
                       replace hc := hc.rem 0 rfl rfl
                       injection hp with hp; subst hp
                       refine f1 (v := .bool false) Try.results5 Try.ntmps5 rfl ?_
                       exact ⟨_, rfl, k _ hc⟩
                     · replace hp := gpos hp (of_decide_eq_true hb149)
                       refine ds (v := .pointer (some ⟨b23, 0, none⟩)) rfl (fun w' hF => mv (v := .pointer (some ⟨b23, 0, none⟩)) rfl) rfl ?_
                       replace hp := bind_some hp; obtain ⟨r150, hr150, hp⟩ := hp
                       replace hc := hc.pull 2 rfl rfl
                       refine dc (cl Try.call13 rfl rfl) rfl rfl ?_
                       refine admit_Desk_Took_any hc hr150 ?_
                       clear hc; intro w151 hc
                       refine ⟨fun j hj hb => ⟨fun e => (by subst e; exact absurd hj (by decide)), trivial⟩, ?_⟩
                       refine ds (v := .bool r150) rfl (fun w' hF => pkt (v := .bool r150) rfl rfl) rfl ?_
                       refine ds (v := .bool r150) rfl (fun w' hF => mv (v := .bool r150) rfl) rfl ?_
                       cases hb152 : r150
                       · replace hp := gneg hp (by rw [hb152]; exact Bool.false_ne_true)
                         subst hb152
                         refine d0 rfl rfl ?_
                         refine d0 rfl rfl ?_
                         refine d0 rfl rfl ?_
                         refine d0 rfl rfl ?_
                         refine ds (v := .bool false) rfl (fun w' hF => pkf (v := .bool false) rfl rfl) rfl ?_
                         refine ds (v := .bool false) rfl (fun w' hF => mv (v := .bool false) rfl) rfl ?_
                         refine d0 rfl rfl ?_
                         refine d0 rfl rfl ?_
                         refine d0 rfl rfl ?_
                         refine d0 rfl rfl ?_
                         refine d0 rfl rfl ?_
                         refine d0 rfl rfl ?_
                         refine d0 rfl rfl ?_
                         refine d0 rfl rfl ?_
                         refine ds (v := .bool false) rfl (fun w' hF => pkf (v := .bool false) rfl rfl) rfl ?_
                         refine ds (v := .bool false) rfl (fun w' hF => av (v := .bool false) rfl) rfl ?_
                         refine dn ?_
                         refine qn ?_
                         refine Wret ?_
                         replace hc := hc.rem 6 rfl rfl
                         replace hc := hc.rem 5 rfl rfl
                         replace hc := hc.rem 4 rfl rfl
                         replace hc := hc.rem 3 rfl rfl
                         replace hc := hc.rem 2 rfl rfl
                         replace hc := hc.rem 1 rfl rfl
                         replace hc := hc.rem 0 rfl rfl
                         injection hp with hp; subst hp
                         refine f1 (v := .bool false) Try.results5 Try.ntmps5 rfl ?_
                         exact ⟨_, rfl, k _ hc⟩
                       · replace hp := gpos hp hb152
                         subst hb152
                         refine ds (v := .pointer (some ⟨b23, 0, none⟩)) rfl (fun w' hF => mv (v := .pointer (some ⟨b23, 0, none⟩)) rfl) rfl ?_
                         replace hp := bind_some hp; obtain ⟨r153, hr153, hp⟩ := hp
                         refine dc (cl Try.call10 rfl rfl) rfl rfl ?_
                         refine law21_asks_any hc hr153 ?_
                         clear hc; intro a154 n155 q156 w157 hc
                         obtain ⟨u158, _⟩ := Ctx.rdLen hc (k := 0) rfl rfl reads_ro; subst u158
                         refine ⟨fun j hj hb => ⟨fun e => (by subst e; exact absurd hj (by decide)), trivial⟩, ?_⟩
                         replace hc := hc.dup (k := 0) rfl rfl
                         replace hp := bind_some hp; obtain ⟨r159, hr159, hp⟩ := hp
                         replace hc := hc.pull 2 rfl rfl
                         refine dcG (cl Try.call11 rfl rfl) rfl rfl ?_
                         refine admit_Desk_Judge_any hc hr159 ?_
                         clear hc; intro w160 hc
                         replace hc := hc.pull 2 rfl rfl
                         replace hc := Ctx.exF hc; obtain ⟨v161, hc⟩ := hc
                         replace hc := Ctx.exF hc; obtain ⟨v162, hc⟩ := hc
                         replace hc := Ctx.sepF hc
                         replace hc := Ctx.sepF hc
                         obtain ⟨a163, q164, u165⟩ := hc.rd (k := 1) rfl rfl reads_own; subst u165
                         obtain ⟨a166, q167, u168⟩ := hc.rd (k := 2) rfl rfl reads_own; subst u168
                         refine ⟨upd _ 28 (fun w' => w'.cell? ⟨b28, 7, none⟩ = some (.slice a163 r147.2.L.length q164)), upd_agree Agree.rfl' rfl, fun j hj hb => upd_of (fun e => (hc.cell (k := 0) rfl rfl rfl)) (⟨fun e => (by subst e; exact absurd hj (by decide)), trivial⟩), ?_⟩
                         refine ds (v := .bool (decide (r159 = 210))) rfl (fun w' hF => eqd rfl rfl) rfl ?_
                         refine ds (v := .bool (decide (r159 = 210))) rfl (fun w' hF => pkt (v := .bool (decide (r159 = 210))) rfl rfl) rfl ?_
                         refine ds (v := .bool (decide (r159 = 210))) rfl (fun w' hF => mv (v := .bool (decide (r159 = 210))) rfl) rfl ?_
                         cases hb169 : (decide (r159 = 210))
                         · replace hp := gneg hp (of_decide_eq_false hb169)
                           refine d0 rfl rfl ?_
                           refine d0 rfl rfl ?_
                           refine d0 rfl rfl ?_
                           refine d0 rfl rfl ?_
                           refine d0 rfl rfl ?_
                           refine d0 rfl rfl ?_
                           refine d0 rfl rfl ?_
                           refine d0 rfl rfl ?_
                           refine ds (v := .bool false) rfl (fun w' hF => pkf (v := .bool false) rfl rfl) rfl ?_
                           refine ds (v := .bool false) rfl (fun w' hF => av (v := .bool false) rfl) rfl ?_
                           refine dn ?_
                           refine qn ?_
                           refine Wret ?_
                           replace hc := hc.rem 9 rfl rfl
                           replace hc := hc.rem 8 rfl rfl
                           replace hc := hc.rem 7 rfl rfl
                           replace hc := hc.rem 6 rfl rfl
                           replace hc := hc.rem 5 rfl rfl
                           replace hc := hc.rem 4 rfl rfl
                           replace hc := hc.rem 3 rfl rfl
                           replace hc := hc.rem 2 rfl rfl
                           replace hc := hc.rem 1 rfl rfl
                           replace hc := hc.rem 0 rfl rfl
                           injection hp with hp; subst hp
                           refine f1 (v := .bool false) Try.results5 Try.ntmps5 rfl ?_
                           exact ⟨_, rfl, k _ hc⟩
                         · replace hp := gpos hp (of_decide_eq_true hb169)
                           refine ds (v := .pointer (some ⟨b23, 0, none⟩)) rfl (fun w' hF => mv (v := .pointer (some ⟨b23, 0, none⟩)) rfl) rfl ?_
                           replace hp := bind_some hp; obtain ⟨r170, hr170, hp⟩ := hp
                           replace hc := hc.pull 3 rfl rfl
                           refine dc (cl Try.call14 rfl rfl) rfl rfl ?_
                           refine admit_Desk_Len_any hc hr170 ?_
                           clear hc; intro w171 hc
                           refine ⟨fun j hj hb => upd_of (fun e => (hc.cell (k := 1) rfl rfl rfl)) (⟨fun e => (by subst e; exact absurd hj (by decide)), trivial⟩), ?_⟩
                           refine ds (v := .pointer (some ⟨b28, 0, none⟩)) rfl (fun w' hF => mv (v := .pointer (some ⟨b28, 0, none⟩)) rfl) rfl ?_
                           refine ds (v := .pointer (some ⟨b28, 0, none⟩)) rfl (fun w' hF => nl rfl) rfl ?_
                           refine ds (v := .pointer (some ⟨b28, 7, none⟩)) rfl (fun w' hF => fax 7 rfl Try.underlying47 rfl Try.sizeOf45 rfl rfl rfl) rfl ?_
                           refine ds (v := .slice a163 r147.2.L.length q164) rfl (fun w' hF => ld rfl Try.isAgg45 (upd_at hF)) rfl ?_
                           refine ds (v := .int .i64 ((r147.2.L.length : Nat) : Int)) rfl (fun w' hF => ln rfl Try.underlying45) rfl ?_
                           refine ds (v := .bool (decide (r170 = ((r147.2.L.length : Nat) : Int)))) rfl (fun w' hF => eqd rfl rfl) rfl ?_
                           refine ds (v := .bool (decide (r170 = ((r147.2.L.length : Nat) : Int)))) rfl (fun w' hF => pkt (v := .bool (decide (r170 = ((r147.2.L.length : Nat) : Int)))) rfl rfl) rfl ?_
                           refine ds (v := .bool (decide (r170 = ((r147.2.L.length : Nat) : Int)))) rfl (fun w' hF => av (v := .bool (decide (r170 = ((r147.2.L.length : Nat) : Int)))) rfl) rfl ?_
                           refine dn ?_
                           refine qn ?_
                           refine Wret ?_
                           replace hc := hc.rem 9 rfl rfl
                           replace hc := hc.rem 8 rfl rfl
                           replace hc := hc.rem 7 rfl rfl
                           replace hc := hc.rem 6 rfl rfl
                           replace hc := hc.rem 5 rfl rfl
                           replace hc := hc.rem 4 rfl rfl
                           replace hc := hc.rem 3 rfl rfl
                           replace hc := hc.rem 2 rfl rfl
                           replace hc := hc.rem 1 rfl rfl
                           replace hc := hc.rem 0 rfl rfl
                           injection hp with hp; subst hp
                           refine f1 (v := .bool (decide (r170 = ((r147.2.L.length : Nat) : Int)))) Try.results5 Try.ntmps5 rfl ?_
                           exact ⟨_, rfl, k _ hc⟩
                 · replace hp := gpos hp (of_decide_eq_true hb113)
                   refine Wct rfl ?_
                   refine Wskip ?_
                   refine qn ?_
                   refine Wseq ?_
                   refine Wblk ?_
                   refine Wseq ?_
                   replace hc := hc.drew
                   have hF : ∀ j, free [0, 0, 0, 6, 14, 30, 63, 0, 0, 0, 768, 1792, 4095, 8191] 0 j = true → (fun j w' => (j = 11 → PinRow (pInt .i64) ax1 x1 w') ∧ True) j (World.drew w112) := fun j hj => ⟨fun _ => PinRow.of hc (k := 4) rfl rfl hrd1 (fun _ _ _ _ _ _ _ h1 h2 => h1.trans h2.symm), trivial⟩
                   refine Wdrw (fun j w' => (j = 11 → PinRow (pInt .i64) ax1 x1 w') ∧ True) [0, 0, 0, 6, 14, 30, 63, 0, 0, 0, 768, 1792, 4095, 8191] 0 16 rfl (by kernel_rfl) (hF) ?_
                   generalize hw : World.drew w112 = w172 at *
                   clear hw
                   refine ds (v := .pointer (some ⟨b23, 0, none⟩)) rfl (fun w' hF => mv (v := .pointer (some ⟨b23, 0, none⟩)) rfl) rfl ?_
                   refine ds (v := .slice ax1 x1.length qx1) rfl (fun w' hF => mv (v := .slice ax1 x1.length qx1) rfl) rfl ?_
                   refine ds (v := .int .i64 j111) rfl (fun w' hF => mv (v := .int .i64 j111) rfl) rfl ?_
                   replace hp := bind_some hp; obtain ⟨y173, hy173, hp⟩ := hp
                   obtain ⟨b176, o177, u178, hi174, hi175⟩ := Ctx.rdAt hc (k := 4) rfl rfl hrd1 hy173
                   subst u178
                   refine ds (v := .pointer (some ⟨b176, o177 + (j111).toNat * 1, none⟩)) rfl (fun w' hF => ixx rfl rfl Try.underlying22 Try.sizeOf3 hi174 hi175 rfl) rfl ?_
                   replace hc := Ctx.rdCell hc (k := 4) rfl rfl hrd1 hy173; obtain ⟨cs179, hc, hcell180⟩ := hc
                   replace hc := Ctx.holdC hc; obtain ⟨u181, hc⟩ := hc; subst u181
                   refine dx (v := .int .i64 y173) rfl (ld rfl Try.isAgg3 (hcell180 0 _ rfl)) rfl rfl ?_
                   replace hc : Ctx w172 (Hold (pInt .i64) [.int .i64 y173] y173 :: S_admit_Desk.hp b23 j109 :: S_ref21_Desk.hp b28 j110 :: B b5 [.int .i64 x0.ID, .int .i64 x0.Most, .slice a1 x0.Prompt.length q3] 24 :: Hold (pRo (pInt .i64)) [.slice a1 x0.Prompt.length q3] x0.Prompt :: P1 :: Fr) := hc.add _ fun _ _ _ => ⟨rfl, rfl⟩
                   refine deE (Ctx.builtOp (css := [[.int .i64 y173]]) (xs := ([y173] : List Int)) (E := (pInt .i64)) hc Try.underlying22 Try.sizeOf3 Try.zeroValue3 rfl rfl rfl rfl rfl rfl rfl rfl) rfl rfl ?_
                   clear hc; rintro _ w183 ⟨a182, rfl, hc⟩
                   refine ⟨fun j hj hb => ⟨fun _ => PinRow.of hc (k := 5) rfl rfl hrd1 (fun _ _ _ _ _ _ _ h1 h2 => h1.trans h2.symm), trivial⟩, ?_⟩
                   replace hp := bind_some hp; obtain ⟨r184, hr184, hp⟩ := hp
                   replace hc := hc.pull 1 rfl rfl
                   refine dc (cl Try.call19 rfl rfl) rfl rfl ?_
                   refine admit_Desk_Cancel_any reads_own hc hr184 ?_
                   clear hc; intro w185 hc
                   refine ⟨fun j hj hb => ⟨fun _ => PinRow.of hc (k := 5) rfl rfl hrd1 (fun _ _ _ _ _ _ _ h1 h2 => h1.trans h2.symm), trivial⟩, ?_⟩
                   refine ds (v := .pointer (some ⟨b28, 0, none⟩)) rfl (fun w' hF => mv (v := .pointer (some ⟨b28, 0, none⟩)) rfl) rfl ?_
                   refine ds (v := .slice (some ⟨b176, o177, none⟩) x1.length qx1) rfl (fun w' hF => mv (v := .slice (some ⟨b176, o177, none⟩) x1.length qx1) rfl) rfl ?_
                   refine ds (v := .int .i64 j111) rfl (fun w' hF => mv (v := .int .i64 j111) rfl) rfl ?_
                   replace hp := bind_some hp; obtain ⟨y186, hy186, hp⟩ := hp
                   obtain ⟨b189, o190, u191, hi187, hi188⟩ := Ctx.rdAt hc (k := 5) rfl rfl hrd1 hy186
                   clear u191
                   refine ds (v := .pointer (some ⟨b176, o177 + (j111).toNat * 1, none⟩)) rfl (fun w' hF => ixx rfl rfl Try.underlying22 Try.sizeOf3 hi187 hi188 rfl) rfl ?_
                   replace hc := Ctx.rdCell hc (k := 5) rfl rfl hrd1 hy186; obtain ⟨cs192, hc, hcell193⟩ := hc
                   replace hc := Ctx.holdC hc; obtain ⟨u194, hc⟩ := hc; subst u194
                   refine ds (v := .int .i64 y186) rfl (fun w' hF => ld rfl Try.isAgg3 ((hF.1 rfl) _ _ _ _ hy186 rfl w' (fun _ => True) _ rfl 0 _ rfl)) rfl ?_
                   replace hp := bind_some hp; obtain ⟨r195, hr195, hp⟩ := hp
                   replace hc := hc.pull 2 rfl rfl
                   refine dc (cl Try.call20 rfl rfl) rfl rfl ?_
                   refine ref21_Desk_Cancel_any hc hr195 ?_
                   clear hc; intro w196 hc
                   refine ⟨fun j hj hb => ⟨fun e => (by subst e; exact absurd hj (by decide)), trivial⟩, ?_⟩
                   refine ds (v := .bool (decide (r184.1 ≠ r195.1))) rfl (fun w' hF => ned rfl rfl) rfl ?_
                   refine dn ?_
                   refine qn ?_
                   cases hb197 : (decide (r184.1 ≠ r195.1))
                   · replace hp := gneg hp (of_decide_eq_false hb197)
                     refine Wcf rfl ?_
                     refine Wskip ?_
                     refine bn ?_
                     refine qn ?_
                     refine Wreg ?_
                     refine rs (v := .int .i64 j111) (mv (v := .int .i64 j111) rfl) rfl ?_
                     refine rs (v := .int .i64 (IntKind.i64.wrap (j111 + 1))) (adw rfl rfl) rfl ?_
                     refine rs (v := .int .i64 (IntKind.i64.wrap (j111 + 1))) (av (v := .int .i64 (IntKind.i64.wrap (j111 + 1))) rfl) rfl ?_
                     refine rn ?_
                     refine qn ?_
                     replace hc := hc.rem 2 rfl rfl
                     replace hc := hc.pull 4 rfl rfl
                     replace hc := hc.pull 4 rfl rfl
                     replace hc := hc.pull 4 rfl rfl
                     replace hc := hc.pull 3 rfl rfl
                     replace hc := hc.pull 4 rfl rfl
                     exact ⟨m2, Nat.lt_succ_self _, ⟨r184.2, r195.2, (IntKind.i64.wrap (j111 + 1)), rfl, hp, hc⟩, (kl rfl k0)⟩
                   · replace hp := gpos hp (of_decide_eq_true hb197)
                     refine Wct rfl ?_
                     refine Wseq ?_
                     refine Wreg ?_
                     refine rs (v := .bool false) (av (v := .bool false) rfl) rfl ?_
                     refine rn ?_
                     refine qn ?_
                     refine Wret ?_
                     refine br ?_
                     refine qr ?_
                     refine qr ?_
                     refine br ?_
                     refine qr ?_
                     replace hc := hc.rem 4 rfl rfl
                     replace hc := hc.rem 3 rfl rfl
                     replace hc := hc.rem 2 rfl rfl
                     replace hc := hc.rem 1 rfl rfl
                     replace hc := hc.rem 0 rfl rfl
                     injection hp with hp; subst hp
                     refine f1 (v := .bool false) Try.results5 Try.ntmps5 rfl ?_
                     exact ⟨_, rfl, k _ hc⟩
             · replace hp := gpos hp hb108
               subst hb108
               refine Wct rfl ?_
               refine Wseq ?_
               refine Wreg ?_
               refine rs (v := .bool false) (av (v := .bool false) rfl) rfl ?_
               refine rn ?_
               refine qn ?_
               refine Wret ?_
               refine qr ?_
               replace hc := hc.rem 3 rfl rfl
               replace hc := hc.rem 2 rfl rfl
               replace hc := hc.rem 1 rfl rfl
               replace hc := hc.rem 0 rfl rfl
               injection hp with hp; subst hp
               refine f1 (v := .bool false) Try.results5 Try.ntmps5 rfl ?_
               exact ⟨_, rfl, k _ hc⟩
         · replace hp := gpos hp (of_decide_eq_true hb25)
           refine Wct rfl ?_
           refine Wseq ?_
           refine Wreg ?_
           refine rs (v := .bool false) (av (v := .bool false) rfl) rfl ?_
           refine rn ?_
           refine qn ?_
           refine Wret ?_
           refine qr ?_
           replace hc := hc.rem 2 rfl rfl
           replace hc := hc.rem 1 rfl rfl
           replace hc := hc.rem 0 rfl rfl
           injection hp with hp; subst hp
           refine f1 (v := .bool false) Try.results5 Try.ntmps5 rfl ?_
           exact ⟨_, rfl, k _ hc⟩
     · replace hp := gpos hp (of_decide_eq_true hb14)
       refine Wct rfl ?_
       refine Wseq ?_
       refine Wreg ?_
       replace hp := bind_some hp; obtain ⟨r198, hr198, hp⟩ := hp
       refine rc (cl Try.call6 rfl rfl) rfl ?_
       refine law21_awake_any hc hr198 ?_
       clear hc; intro w199 hc
       refine rs (v := .bool r198) (av (v := .bool r198) rfl) rfl ?_
       refine rn ?_
       refine qn ?_
       refine Wret ?_
       refine qr ?_
       replace hc := hc.rem 1 rfl rfl
       replace hc := hc.rem 0 rfl rfl
       injection hp with hp; subst hp
       refine f1 (v := .bool r198) Try.results5 Try.ntmps5 rfl ?_
       exact ⟨_, rfl, k _ hc⟩
   · replace hp := gpos hp (of_decide_eq_true hb13)
     refine r0 rfl ?_
     refine r0 rfl ?_
     refine r0 rfl ?_
     refine rs (v := .bool true) (pkt (v := .bool true) rfl rfl) rfl ?_
     refine rn ?_
     refine qn ?_
     refine Wct rfl ?_
     refine Wseq ?_
     refine Wreg ?_
     replace hp := bind_some hp; obtain ⟨r200, hr200, hp⟩ := hp
     refine rc (cl Try.call6 rfl rfl) rfl ?_
     refine law21_awake_any hc hr200 ?_
     clear hc; intro w201 hc
     refine rs (v := .bool r200) (av (v := .bool r200) rfl) rfl ?_
     refine rn ?_
     refine qn ?_
     refine Wret ?_
     refine qr ?_
     replace hc := hc.rem 1 rfl rfl
     replace hc := hc.rem 0 rfl rfl
     injection hp with hp; subst hp
     refine f1 (v := .bool r200) Try.results5 Try.ntmps5 rfl ?_
     exact ⟨_, rfl, k _ hc⟩

end Go.Proofs.Ytglllajndogcmaa
