/- Functions of the program as plain functions, and the proofs that walks compute them. Printed by a program of this session. -/
import Derived.Test.YtmphbmocpiolfaaSl5
import Derived.Test.YtmphbmocpiolfaaProg
namespace Go.Proofs.Ytmphbmocpiolfaa
open Go Go.RowKit Go.Hp
set_option linter.unusedVariables false
set_option linter.unusedSimpArgs false
set_option maxRecDepth 100000

structure S_beat_one where
  ready : Bool
  life : Int
  since : Int
  deriving DecidableEq

def S_beat_one.pr : PR S_beat_one 3 := pC (fun x => [.bool x.ready, .int .i64 x.life, .int .i64 x.since]) (fun _ => rfl) (fun _ => rfl)

structure S_beat_Watch where
  patience : Int
  epoch : Int
  l : (List S_beat_one)
  deriving DecidableEq

def S_beat_Watch.hp (b : Nat) (x : S_beat_Watch) : HP := Ex fun v2 : Value => Sep (B b [.int .i64 x.patience, .int .i64 x.epoch, v2] 50) (Own S_beat_one.pr 52 v2 x.l)

structure S_ref24_Watch where
  Patience : Int
  Epoch : Int
  Ready : (List Bool)
  Life : (List Int)
  Since : (List Int)
  deriving DecidableEq

def S_ref24_Watch.hp (b : Nat) (x : S_ref24_Watch) : HP := Ex fun v2 : Value => Ex fun v3 : Value => Ex fun v4 : Value => Sep (Sep (Sep (B b [.int .i64 x.Patience, .int .i64 x.Epoch, v2, v3, v4] 38) (Own pBool 4 v2 x.Ready)) (Own (pInt .i64) 3 v3 x.Life)) (Own (pInt .i64) 3 v4 x.Since)

structure S_law24_Stay where
  Rounds : Int
  Who : Int
  Life : Bool
  deriving DecidableEq

def S_law24_Stay.pr : PR S_law24_Stay 3 := pC (fun x => [.int .i64 x.Rounds, .int .i64 x.Who, .bool x.Life]) (fun _ => rfl) (fun _ => rfl)

structure S_law24_Act where
  Kind : Int
  Worker : Int
  Epoch : Int
  Life : Int
  deriving DecidableEq

def S_law24_Act.pr : PR S_law24_Act 4 := pC (fun x => [.int .i64 x.Kind, .int .i64 x.Worker, .int .i64 x.Epoch, .int .i64 x.Life]) (fun _ => rfl) (fun _ => rfl)

-- FN (*peloton/beat.Watch).Epoch
def beat_Watch_Epoch (x0 : S_beat_Watch) : Option (Int) :=
  some x0.epoch

set_option maxHeartbeats 2000000 in
theorem beat_Watch_Epoch_any {b0 : Nat} {x0 : S_beat_Watch} {Fr : List HP} {w : World} {r : Int} {K : Value → World → Prop}  (hc : Ctx w (S_beat_Watch.hp b0 x0 :: Fr)) (hp : beat_Watch_Epoch x0 = some r)
    (k : ∀ w', Ctx w' (S_beat_Watch.hp b0 x0 :: Fr) → K (.int .i64 r) w') : Calls Try.prog 17 #[.pointer (some ⟨b0, 0, none⟩)] w (Ret K) := by
 unfold beat_Watch_Epoch at hp
 refine Center (args := [.pointer (some ⟨b0, 0, none⟩)]) (l := [(0, .pointer (some ⟨b0, 0, none⟩))]) Try.func17 Try.ntmps17 rfl rfl rfl ?_
 refine Wseq ?_
 refine Wreg ?_
 refine rs (v := .int .i64 0) (av (v := .int .i64 0) rfl) rfl ?_
 refine rn ?_
 refine qn ?_
 refine Wseq ?_
 refine Wreg ?_
 refine rs (v := .pointer (some ⟨b0, 0, none⟩)) (mv (v := .pointer (some ⟨b0, 0, none⟩)) rfl) rfl ?_
 refine rs (v := .pointer (some ⟨b0, 0, none⟩)) (nl rfl) rfl ?_
 refine rs (v := .pointer (some ⟨b0, 1, none⟩)) (fax 1 rfl Try.underlying50 rfl Try.sizeOf3 rfl rfl rfl) rfl ?_
 replace hc := Ctx.exF hc; obtain ⟨v1, hc⟩ := hc
 replace hc := Ctx.sepF hc
 obtain ⟨a2, q3, u4⟩ := hc.rd (k := 1) rfl rfl reads_own; subst u4
 refine rs (v := .int .i64 x0.epoch) (ld rfl Try.isAgg3 (Ctx.cell hc (k := 0) rfl rfl rfl)) rfl ?_
 refine rs (v := .int .i64 x0.epoch) (av (v := .int .i64 x0.epoch) rfl) rfl ?_
 refine rn ?_
 refine qn ?_
 refine Wret ?_
 replace hc := hc.pull 1 rfl rfl
 replace hc := hc.pull 1 rfl rfl
 replace hc : Ctx w (S_beat_Watch.hp b0 x0 :: Fr) := Ctx.exB _ _ (Ctx.sepB hc)
 injection hp with hp; subst hp
 refine f1 (v := .int .i64 x0.epoch) Try.results17 Try.ntmps17 rfl ?_
 exact ⟨_, rfl, k _ hc⟩

-- FN (*peloton/beat.Watch).there
def beat_Watch_there (x0 : S_beat_Watch) (x1 : Int) : Option (Bool) :=
  if x1 ≥ 0 then
    some (decide (x1 < ((x0.l.length : Nat) : Int)))
  else
    some false

set_option maxHeartbeats 2000000 in
theorem beat_Watch_there_any {b0 : Nat} {x0 : S_beat_Watch} {x1 : Int} {Fr : List HP} {w : World} {r : Bool} {K : Value → World → Prop}  (hc : Ctx w (S_beat_Watch.hp b0 x0 :: Fr)) (hp : beat_Watch_there x0 x1 = some r)
    (k : ∀ w', Ctx w' (S_beat_Watch.hp b0 x0 :: Fr) → K (.bool r) w') : Calls Try.prog 22 #[.pointer (some ⟨b0, 0, none⟩), .int .i64 x1] w (Ret K) := by
 unfold beat_Watch_there at hp
 refine Center (args := [.pointer (some ⟨b0, 0, none⟩), .int .i64 x1]) (l := [(0, .pointer (some ⟨b0, 0, none⟩)), (1, .int .i64 x1)]) Try.func22 Try.ntmps22 rfl rfl rfl ?_
 refine Wseq ?_
 refine Wreg ?_
 refine rs (v := .bool false) (av (v := .bool false) rfl) rfl ?_
 refine rn ?_
 refine qn ?_
 refine Wseq ?_
 refine Wreg ?_
 refine rs (v := .int .i64 x1) (mv (v := .int .i64 x1) rfl) rfl ?_
 refine rs (v := .bool (decide (x1 ≥ 0))) (ge' rfl rfl) rfl ?_
 refine rs (v := .bool (decide (x1 ≥ 0))) (mv (v := .bool (decide (x1 ≥ 0))) rfl) rfl ?_
 cases hb1 : (decide (x1 ≥ 0))
 · replace hp := gneg hp (of_decide_eq_false hb1)
   refine r0 rfl ?_
   refine r0 rfl ?_
   refine r0 rfl ?_
   refine r0 rfl ?_
   refine r0 rfl ?_
   refine r0 rfl ?_
   refine r0 rfl ?_
   refine rs (v := .bool false) (pkf (v := .bool false) rfl rfl) rfl ?_
   refine rs (v := .bool false) (av (v := .bool false) rfl) rfl ?_
   refine rn ?_
   refine qn ?_
   refine Wret ?_
   injection hp with hp; subst hp
   refine f1 (v := .bool false) Try.results22 Try.ntmps22 rfl ?_
   exact ⟨_, rfl, k _ hc⟩
 · replace hp := gpos hp (of_decide_eq_true hb1)
   refine rs (v := .int .i64 x1) (mv (v := .int .i64 x1) rfl) rfl ?_
   refine rs (v := .pointer (some ⟨b0, 0, none⟩)) (mv (v := .pointer (some ⟨b0, 0, none⟩)) rfl) rfl ?_
   refine rs (v := .pointer (some ⟨b0, 0, none⟩)) (nl rfl) rfl ?_
   refine rs (v := .pointer (some ⟨b0, 2, none⟩)) (fax 2 rfl Try.underlying50 rfl Try.sizeOf48 rfl rfl rfl) rfl ?_
   replace hc := Ctx.exF hc; obtain ⟨v2, hc⟩ := hc
   replace hc := Ctx.sepF hc
   obtain ⟨a3, q4, u5⟩ := hc.rd (k := 1) rfl rfl reads_own; subst u5
   refine rs (v := .slice a3 x0.l.length q4) (ld rfl Try.isAgg48 (Ctx.cell hc (k := 0) rfl rfl rfl)) rfl ?_
   refine rs (v := .int .i64 ((x0.l.length : Nat) : Int)) (ln rfl Try.underlying48) rfl ?_
   refine rs (v := .bool (decide (x1 < ((x0.l.length : Nat) : Int)))) (lt' rfl rfl) rfl ?_
   refine rs (v := .bool (decide (x1 < ((x0.l.length : Nat) : Int)))) (pkt (v := .bool (decide (x1 < ((x0.l.length : Nat) : Int)))) rfl rfl) rfl ?_
   refine rs (v := .bool (decide (x1 < ((x0.l.length : Nat) : Int)))) (av (v := .bool (decide (x1 < ((x0.l.length : Nat) : Int)))) rfl) rfl ?_
   refine rn ?_
   refine qn ?_
   refine Wret ?_
   replace hc := hc.pull 1 rfl rfl
   replace hc := hc.pull 1 rfl rfl
   replace hc : Ctx w (S_beat_Watch.hp b0 x0 :: Fr) := Ctx.exB _ _ (Ctx.sepB hc)
   injection hp with hp; subst hp
   refine f1 (v := .bool (decide (x1 < ((x0.l.length : Nat) : Int)))) Try.results22 Try.ntmps22 rfl ?_
   exact ⟨_, rfl, k _ hc⟩

-- FN (*peloton/beat.Watch).Bump
def beat_Watch_Bump (x0 : S_beat_Watch) : Option (Int × S_beat_Watch) :=
  (some (IntKind.i64.wrap (x0.epoch + 1))).bind fun e7 =>
  some (e7, (⟨x0.patience, (IntKind.i64.wrap (x0.epoch + 1)), (List.replicate x0.l.length (⟨false, 0, 0⟩ : S_beat_one))⟩ : S_beat_Watch))

set_option maxHeartbeats 2000000 in
theorem beat_Watch_Bump_any {b0 : Nat} {x0 : S_beat_Watch} {Fr : List HP} {w : World} {r : Int × S_beat_Watch} {K : Value → World → Prop}  (hc : Ctx w (S_beat_Watch.hp b0 x0 :: Fr)) (hp : beat_Watch_Bump x0 = some r)
    (k : ∀ w', Ctx w' (S_beat_Watch.hp b0 r.2 :: Fr) → K (.int .i64 r.1) w') : Calls Try.prog 15 #[.pointer (some ⟨b0, 0, none⟩)] w (Ret K) := by
 unfold beat_Watch_Bump at hp
 refine Center (args := [.pointer (some ⟨b0, 0, none⟩)]) (l := [(0, .pointer (some ⟨b0, 0, none⟩))]) Try.func15 Try.ntmps15 rfl rfl rfl ?_
 refine Wseq ?_
 refine Wreg ?_
 refine rs (v := .int .i64 0) (av (v := .int .i64 0) rfl) rfl ?_
 refine rn ?_
 refine qn ?_
 refine Wseq ?_
 refine Wreg ?_
 refine rs (v := .pointer (some ⟨b0, 0, none⟩)) (mv (v := .pointer (some ⟨b0, 0, none⟩)) rfl) rfl ?_
 refine rs (v := .pointer (some ⟨b0, 0, none⟩)) (nl rfl) rfl ?_
 refine rs (v := .pointer (some ⟨b0, 1, none⟩)) (fax 1 rfl Try.underlying50 rfl Try.sizeOf3 rfl rfl rfl) rfl ?_
 replace hc := Ctx.exF hc; obtain ⟨v1, hc⟩ := hc
 replace hc := Ctx.sepF hc
 obtain ⟨a2, q3, u4⟩ := hc.rd (k := 1) rfl rfl reads_own; subst u4
 refine rs (v := .int .i64 x0.epoch) (ld rfl Try.isAgg3 (Ctx.cell hc (k := 0) rfl rfl rfl)) rfl ?_
 refine rs (v := .int .i64 (IntKind.i64.wrap (x0.epoch + 1))) (adw rfl rfl) rfl ?_
 refine rs (v := .pointer (some ⟨b0, 0, none⟩)) (nl rfl) rfl ?_
 refine rs (v := .pointer (some ⟨b0, 1, none⟩)) (fax 1 rfl Try.underlying50 rfl Try.sizeOf3 rfl rfl rfl) rfl ?_
 refine ruE (A := fun w' => Ctx w' (B b0 [.int .i64 x0.patience, .int .i64 (IntKind.i64.wrap (x0.epoch + 1)), .slice a2 x0.l.length q3] 50 :: Own S_beat_one.pr 52 (.slice a2 x0.l.length q3) x0.l :: Fr)) (Ctx.putOp hc (k := 0) rfl rfl (v := .int .i64 (IntKind.i64.wrap (x0.epoch + 1))) rfl rfl rfl Try.sizeOf3 rfl rfl rfl) rfl ?_
 clear hc; rintro w5 hc
 refine rn ?_
 refine qn ?_
 refine Wseq ?_
 refine Wreg ?_
 refine rs (v := .pointer (some ⟨b0, 0, none⟩)) (mv (v := .pointer (some ⟨b0, 0, none⟩)) rfl) rfl ?_
 refine rs (v := .pointer (some ⟨b0, 0, none⟩)) (nl rfl) rfl ?_
 refine rs (v := .pointer (some ⟨b0, 2, none⟩)) (fax 2 rfl Try.underlying50 rfl Try.sizeOf48 rfl rfl rfl) rfl ?_
 refine rs (v := .slice a2 x0.l.length q3) (ld rfl Try.isAgg48 (Ctx.cell hc (k := 0) rfl rfl rfl)) rfl ?_
 refine rvE (Ctx.clear (x0 := (⟨false, 0, 0⟩ : S_beat_one)) hc (k := 1) rfl rfl Try.underlying48 Try.zeroValue52 rfl rfl (fun _ _ => rfl) rfl) rfl ?_
 clear hc; intro w6 hc
 refine rn ?_
 refine qn ?_
 refine Wseq ?_
 refine Wreg ?_
 refine rs (v := .pointer (some ⟨b0, 0, none⟩)) (mv (v := .pointer (some ⟨b0, 0, none⟩)) rfl) rfl ?_
 refine rs (v := .pointer (some ⟨b0, 0, none⟩)) (nl rfl) rfl ?_
 refine rs (v := .pointer (some ⟨b0, 1, none⟩)) (fax 1 rfl Try.underlying50 rfl Try.sizeOf3 rfl rfl rfl) rfl ?_
 refine rs (v := .int .i64 (IntKind.i64.wrap (x0.epoch + 1))) (ld rfl Try.isAgg3 (Ctx.cell hc (k := 0) rfl rfl rfl)) rfl ?_
 replace hp := bind_some hp; obtain ⟨e7, he7, hp⟩ := hp
 injection he7 with he7
 refine rs (v := .int .i64 e7) (av (v := .int .i64 e7) (by rw [← he7]; rfl)) rfl ?_
 refine rn ?_
 refine qn ?_
 refine Wret ?_
 replace hc := hc.pull 1 rfl rfl
 replace hc := hc.pull 1 rfl rfl
 replace hc : Ctx w6 (S_beat_Watch.hp b0 (⟨x0.patience, (IntKind.i64.wrap (x0.epoch + 1)), (List.replicate x0.l.length (⟨false, 0, 0⟩ : S_beat_one))⟩ : S_beat_Watch) :: Fr) := Ctx.exB _ _ (Ctx.sepB hc)
 injection hp with hp; subst hp
 refine f1 (v := .int .i64 e7) Try.results15 Try.ntmps15 rfl ?_
 exact ⟨_, rfl, k _ hc⟩

-- FN (*peloton/beat.Watch).heard
def beat_Watch_heard.J1 (x0 : S_beat_Watch) (x1 : Int) (y5 : S_beat_one) (j15 : Bool) : Option (Bool × S_beat_Watch) :=
  if j15 = true then
    some (false, (⟨x0.patience, x0.epoch, (x0.l.set (x1).toNat ({ y5 with since := 0 }))⟩ : S_beat_Watch))
  else
    some (false, x0)

def beat_Watch_heard (x0 : S_beat_Watch) (x1 : Int) (x2 : Int) (x3 : Bool) : Option (Bool × S_beat_Watch) :=
  (idx x0.l x1).bind fun y5 =>
  if x2 > y5.life then
    (beat_Watch_Bump x0).bind fun r20 =>
    some (true, r20.2)
  else
    if x3 = true then
      beat_Watch_heard.J1 x0 x1 y5 (decide (x2 = y5.life))
    else
      beat_Watch_heard.J1 x0 x1 y5 false

set_option maxHeartbeats 2000000 in
theorem beat_Watch_heard_any {b0 : Nat} {x0 : S_beat_Watch} {x1 : Int} {x2 : Int} {x3 : Bool} {Fr : List HP} {w : World} {r : Bool × S_beat_Watch} {K : Value → World → Prop}  (hc : Ctx w (S_beat_Watch.hp b0 x0 :: Fr)) (hp : beat_Watch_heard x0 x1 x2 x3 = some r)
    (k : ∀ w', Ctx w' (S_beat_Watch.hp b0 r.2 :: Fr) → K (.bool r.1) w') : Calls Try.prog 23 #[.pointer (some ⟨b0, 0, none⟩), .int .i64 x1, .int .i64 x2, .bool x3] w (Ret K) := by
 unfold beat_Watch_heard at hp
 refine Center (args := [.pointer (some ⟨b0, 0, none⟩), .int .i64 x1, .int .i64 x2, .bool x3]) (l := [(0, .pointer (some ⟨b0, 0, none⟩)), (1, .int .i64 x1), (2, .int .i64 x2), (3, .bool x3)]) Try.func23 Try.ntmps23 rfl rfl rfl ?_
 refine Wseq ?_
 refine Wreg ?_
 refine rs (v := .bool false) (av (v := .bool false) rfl) rfl ?_
 refine rn ?_
 refine qn ?_
 refine Wseq ?_
 refine Wreg ?_
 refine rs (v := .pointer (some ⟨b0, 0, none⟩)) (mv (v := .pointer (some ⟨b0, 0, none⟩)) rfl) rfl ?_
 refine rs (v := .pointer (some ⟨b0, 0, none⟩)) (nl rfl) rfl ?_
 refine rs (v := .pointer (some ⟨b0, 2, none⟩)) (fax 2 rfl Try.underlying50 rfl Try.sizeOf48 rfl rfl rfl) rfl ?_
 replace hc := Ctx.exF hc; obtain ⟨v1, hc⟩ := hc
 replace hc := Ctx.sepF hc
 obtain ⟨a2, q3, u4⟩ := hc.rd (k := 1) rfl rfl reads_own; subst u4
 refine rs (v := .slice a2 x0.l.length q3) (ld rfl Try.isAgg48 (Ctx.cell hc (k := 0) rfl rfl rfl)) rfl ?_
 refine rs (v := .int .i64 x1) (mv (v := .int .i64 x1) rfl) rfl ?_
 replace hp := bind_some hp; obtain ⟨y5, hy5, hp⟩ := hp
 obtain ⟨b8, o9, u10, hi6, hi7⟩ := Ctx.rdAt hc (k := 1) rfl rfl reads_own hy5
 subst u10
 refine rs (v := .pointer (some ⟨b8, o9 + (x1).toNat * 3, none⟩)) (ixx rfl rfl Try.underlying48 Try.sizeOf52 hi6 hi7 rfl) rfl ?_
 refine rs (v := .pointer (some ⟨b8, o9 + (x1).toNat * 3, none⟩)) (av (v := .pointer (some ⟨b8, o9 + (x1).toNat * 3, none⟩)) rfl) rfl ?_
 refine rn ?_
 refine qn ?_
 refine Wseq ?_
 refine Wseq ?_
 refine Wreg ?_
 refine rs (v := .int .i64 x2) (mv (v := .int .i64 x2) rfl) rfl ?_
 refine rs (v := .pointer (some ⟨b8, o9 + (x1).toNat * 3, none⟩)) (mv (v := .pointer (some ⟨b8, o9 + (x1).toNat * 3, none⟩)) rfl) rfl ?_
 refine rs (v := .pointer (some ⟨b8, o9 + (x1).toNat * 3, none⟩)) (nl rfl) rfl ?_
 refine rs (v := .pointer (some ⟨b8, o9 + (x1).toNat * 3 + 1, none⟩)) (fax 1 rfl Try.underlying52 rfl Try.sizeOf3 rfl rfl rfl) rfl ?_
 replace hc := Ctx.rdCell hc (k := 1) rfl rfl reads_own hy5; obtain ⟨cs11, hc, hcell12⟩ := hc
 replace hc := Ctx.holdC hc; obtain ⟨u13, hc⟩ := hc; subst u13
 refine rs (v := .int .i64 y5.life) (ld rfl Try.isAgg3 (hcell12 1 _ rfl)) rfl ?_
 refine rs (v := .bool (decide (x2 > y5.life))) (gt' rfl rfl) rfl ?_
 refine rn ?_
 refine qn ?_
 cases hb14 : (decide (x2 > y5.life))
 · replace hp := gneg hp (of_decide_eq_false hb14)
   refine Wcf rfl ?_
   refine Wskip ?_
   refine qn ?_
   refine Wseq ?_
   refine Wseqm [24, 25, 26, 27, 28, 29, 30, 31, 32] [32] (fun vs w' => ∃ j15 : Bool, vs = [.bool j15] ∧ beat_Watch_heard.J1 x0 x1 y5 j15 = some r ∧ Ctx w' (B b0 [.int .i64 x0.patience, .int .i64 x0.epoch, .slice (some ⟨b8, o9, none⟩) x0.l.length q3] 50 :: Own S_beat_one.pr 52 (.slice (some ⟨b8, o9, none⟩) x0.l.length q3) x0.l :: Fr)) ?_ ?_
   · refine Wreg ?_
     refine rs (v := .bool x3) (mv (v := .bool x3) rfl) rfl ?_
     refine rs (v := .bool x3) (mv (v := .bool x3) rfl) rfl ?_
     cases hb16 : x3
     · replace hp := gneg hp (by rw [hb16]; exact Bool.false_ne_true)
       subst hb16
       refine r0 rfl ?_
       refine r0 rfl ?_
       refine r0 rfl ?_
       refine r0 rfl ?_
       refine r0 rfl ?_
       refine r0 rfl ?_
       refine rs (v := .bool false) (pkf (v := .bool false) rfl rfl) rfl ?_
       refine rn ?_
       refine qn ?_
       exact ⟨⟨false, rfl, hp, hc⟩, (kl rfl kb)⟩
     · replace hp := gpos hp hb16
       subst hb16
       refine rs (v := .int .i64 x2) (mv (v := .int .i64 x2) rfl) rfl ?_
       refine rs (v := .pointer (some ⟨b8, o9 + (x1).toNat * 3, none⟩)) (mv (v := .pointer (some ⟨b8, o9 + (x1).toNat * 3, none⟩)) rfl) rfl ?_
       refine rs (v := .pointer (some ⟨b8, o9 + (x1).toNat * 3, none⟩)) (nl rfl) rfl ?_
       refine rs (v := .pointer (some ⟨b8, o9 + (x1).toNat * 3 + 1, none⟩)) (fax 1 rfl Try.underlying52 rfl Try.sizeOf3 rfl rfl rfl) rfl ?_
       refine rs (v := .int .i64 y5.life) (ld rfl Try.isAgg3 (hcell12 1 _ rfl)) rfl ?_
       refine rs (v := .bool (decide (x2 = y5.life))) (eqd rfl rfl) rfl ?_
       refine rs (v := .bool (decide (x2 = y5.life))) (pkt (v := .bool (decide (x2 = y5.life))) rfl rfl) rfl ?_
       refine rn ?_
       refine qn ?_
       exact ⟨⟨decide (x2 = y5.life), rfl, hp, hc⟩, (kl rfl kb)⟩
   · clear hp hc; intro vs u w17 hJ
     obtain ⟨j15, rfl, hp, hc⟩ := hJ
     unfold beat_Watch_heard.J1 at hp
     cases hb18 : j15
     · replace hp := gneg hp (by rw [hb18]; exact Bool.false_ne_true)
       subst hb18
       refine Wcf rfl ?_
       refine Wskip ?_
       refine qn ?_
       refine Wseq ?_
       refine Wreg ?_
       refine rs (v := .bool false) (av (v := .bool false) rfl) rfl ?_
       refine rn ?_
       refine qn ?_
       refine Wret ?_
       replace hc := hc.pull 1 rfl rfl
       replace hc := hc.pull 1 rfl rfl
       replace hc : Ctx w17 (S_beat_Watch.hp b0 x0 :: Fr) := Ctx.exB _ _ (Ctx.sepB hc)
       injection hp with hp; subst hp
       refine f1 (v := .bool false) Try.results23 Try.ntmps23 rfl ?_
       exact ⟨_, rfl, k _ hc⟩
     · replace hp := gpos hp hb18
       subst hb18
       refine Wct rfl ?_
       refine Wreg ?_
       refine rs (v := .pointer (some ⟨b8, o9 + (x1).toNat * 3, none⟩)) (mv (v := .pointer (some ⟨b8, o9 + (x1).toNat * 3, none⟩)) rfl) rfl ?_
       refine rs (v := .pointer (some ⟨b8, o9 + (x1).toNat * 3, none⟩)) (nl rfl) rfl ?_
       refine rs (v := .pointer (some ⟨b8, o9 + (x1).toNat * 3 + 2, none⟩)) (fax 2 rfl Try.underlying52 rfl Try.sizeOf3 rfl rfl rfl) rfl ?_
       refine ruE (A := fun w' => Ctx w' (B b0 [.int .i64 x0.patience, .int .i64 x0.epoch, .slice (some ⟨b8, o9, none⟩) x0.l.length q3] 50 :: Own S_beat_one.pr 52 (.slice (some ⟨b8, o9, none⟩) x0.l.length q3) (x0.l.set (x1).toNat ({ y5 with since := 0 })) :: Fr)) (Ctx.ownPutOp hc (k := 1) rfl rfl (z := y5) (z' := { y5 with since := 0 }) hy5 2 rfl (u := .int .i64 0) rfl rfl rfl Try.sizeOf3 (fun _ _ _ h => by cases h; rfl) rfl) rfl ?_
       clear hc; rintro w19 hc
       refine rn ?_
       refine qn ?_
       refine Wseq ?_
       refine Wreg ?_
       refine rs (v := .bool false) (av (v := .bool false) rfl) rfl ?_
       refine rn ?_
       refine qn ?_
       refine Wret ?_
       replace hc := hc.pull 1 rfl rfl
       replace hc := hc.pull 1 rfl rfl
       replace hc : Ctx w19 (S_beat_Watch.hp b0 (⟨x0.patience, x0.epoch, (x0.l.set (x1).toNat ({ y5 with since := 0 }))⟩ : S_beat_Watch) :: Fr) := Ctx.exB _ _ (Ctx.sepB hc)
       injection hp with hp; subst hp
       refine f1 (v := .bool false) Try.results23 Try.ntmps23 rfl ?_
       exact ⟨_, rfl, k _ hc⟩
 · replace hp := gpos hp (of_decide_eq_true hb14)
   refine Wct rfl ?_
   refine Wseq ?_
   refine Wreg ?_
   refine rs (v := .pointer (some ⟨b0, 0, none⟩)) (mv (v := .pointer (some ⟨b0, 0, none⟩)) rfl) rfl ?_
   replace hc := hc.pull 1 rfl rfl
   replace hc := hc.pull 1 rfl rfl
   replace hc : Ctx w (S_beat_Watch.hp b0 x0 :: Fr) := Ctx.exB _ _ (Ctx.sepB hc)
   replace hp := bind_some hp; obtain ⟨r20, hr20, hp⟩ := hp
   refine rc (cl Try.call15 rfl rfl) rfl ?_
   refine beat_Watch_Bump_any hc hr20 ?_
   clear hc; intro w21 hc
   refine rn ?_
   refine qn ?_
   refine Wseq ?_
   refine Wreg ?_
   refine rs (v := .bool true) (av (v := .bool true) rfl) rfl ?_
   refine rn ?_
   refine qn ?_
   refine Wret ?_
   refine qr ?_
   injection hp with hp; subst hp
   refine f1 (v := .bool true) Try.results23 Try.ntmps23 rfl ?_
   exact ⟨_, rfl, k _ hc⟩

-- FN (*peloton/beat.Watch).Beat
def beat_Watch_Beat (x0 : S_beat_Watch) (x1 : Int) (x2 : Int) (x3 : Int) : Option (Bool × S_beat_Watch) :=
  (beat_Watch_there x0 x1).bind fun r1 =>
  if r1 = true then
    (idx x0.l x1).bind fun y8 =>
    if y8.ready = true then
      (beat_Watch_heard x0 x1 x3 (decide (x2 = x0.epoch))).bind fun r18 =>
      some (r18.1, r18.2)
    else
      some (false, x0)
  else
    some (false, x0)

set_option maxHeartbeats 2000000 in
theorem beat_Watch_Beat_any {b0 : Nat} {x0 : S_beat_Watch} {x1 : Int} {x2 : Int} {x3 : Int} {Fr : List HP} {w : World} {r : Bool × S_beat_Watch} {K : Value → World → Prop}  (hc : Ctx w (S_beat_Watch.hp b0 x0 :: Fr)) (hp : beat_Watch_Beat x0 x1 x2 x3 = some r)
    (k : ∀ w', Ctx w' (S_beat_Watch.hp b0 r.2 :: Fr) → K (.bool r.1) w') : Calls Try.prog 11 #[.pointer (some ⟨b0, 0, none⟩), .int .i64 x1, .int .i64 x2, .int .i64 x3] w (Ret K) := by
 unfold beat_Watch_Beat at hp
 refine Center (args := [.pointer (some ⟨b0, 0, none⟩), .int .i64 x1, .int .i64 x2, .int .i64 x3]) (l := [(0, .pointer (some ⟨b0, 0, none⟩)), (1, .int .i64 x1), (2, .int .i64 x2), (3, .int .i64 x3)]) Try.func11 Try.ntmps11 rfl rfl rfl ?_
 refine Wseq ?_
 refine Wreg ?_
 refine rs (v := .bool false) (av (v := .bool false) rfl) rfl ?_
 refine rn ?_
 refine qn ?_
 refine Wseq ?_
 refine Wseq ?_
 refine Wreg ?_
 refine rs (v := .pointer (some ⟨b0, 0, none⟩)) (mv (v := .pointer (some ⟨b0, 0, none⟩)) rfl) rfl ?_
 refine rs (v := .int .i64 x1) (mv (v := .int .i64 x1) rfl) rfl ?_
 replace hp := bind_some hp; obtain ⟨r1, hr1, hp⟩ := hp
 refine rc (cl Try.call22 rfl rfl) rfl ?_
 refine beat_Watch_there_any hc hr1 ?_
 clear hc; intro w2 hc
 cases hb3 : r1
 · replace hp := gneg hp (by rw [hb3]; exact Bool.false_ne_true)
   subst hb3
   refine rs (v := .bool true) (ntf rfl) rfl ?_
   refine rs (v := .bool true) (mv (v := .bool true) rfl) rfl ?_
   refine r0 rfl ?_
   refine r0 rfl ?_
   refine r0 rfl ?_
   refine r0 rfl ?_
   refine r0 rfl ?_
   refine r0 rfl ?_
   refine r0 rfl ?_
   refine r0 rfl ?_
   refine r0 rfl ?_
   refine rs (v := .bool true) (pkt (v := .bool true) rfl rfl) rfl ?_
   refine rn ?_
   refine qn ?_
   refine Wct rfl ?_
   refine Wseq ?_
   refine Wreg ?_
   refine rs (v := .bool false) (av (v := .bool false) rfl) rfl ?_
   refine rn ?_
   refine qn ?_
   refine Wret ?_
   refine qr ?_
   injection hp with hp; subst hp
   refine f1 (v := .bool false) Try.results11 Try.ntmps11 rfl ?_
   exact ⟨_, rfl, k _ hc⟩
 · replace hp := gpos hp hb3
   subst hb3
   refine rs (v := .bool false) (ntt rfl) rfl ?_
   refine rs (v := .bool false) (mv (v := .bool false) rfl) rfl ?_
   refine rs (v := .pointer (some ⟨b0, 0, none⟩)) (mv (v := .pointer (some ⟨b0, 0, none⟩)) rfl) rfl ?_
   refine rs (v := .pointer (some ⟨b0, 0, none⟩)) (nl rfl) rfl ?_
   refine rs (v := .pointer (some ⟨b0, 2, none⟩)) (fax 2 rfl Try.underlying50 rfl Try.sizeOf48 rfl rfl rfl) rfl ?_
   replace hc := Ctx.exF hc; obtain ⟨v4, hc⟩ := hc
   replace hc := Ctx.sepF hc
   obtain ⟨a5, q6, u7⟩ := hc.rd (k := 1) rfl rfl reads_own; subst u7
   refine rs (v := .slice a5 x0.l.length q6) (ld rfl Try.isAgg48 (Ctx.cell hc (k := 0) rfl rfl rfl)) rfl ?_
   refine rs (v := .int .i64 x1) (mv (v := .int .i64 x1) rfl) rfl ?_
   replace hp := bind_some hp; obtain ⟨y8, hy8, hp⟩ := hp
   obtain ⟨b11, o12, u13, hi9, hi10⟩ := Ctx.rdAt hc (k := 1) rfl rfl reads_own hy8
   subst u13
   refine rs (v := .pointer (some ⟨b11, o12 + (x1).toNat * 3, none⟩)) (ixx rfl rfl Try.underlying48 Try.sizeOf52 hi9 hi10 rfl) rfl ?_
   refine rs (v := .pointer (some ⟨b11, o12 + (x1).toNat * 3 + 0, none⟩)) (fax 0 rfl Try.underlying52 rfl Try.sizeOf4 rfl rfl rfl) rfl ?_
   replace hc := Ctx.rdCell hc (k := 1) rfl rfl reads_own hy8; obtain ⟨cs14, hc, hcell15⟩ := hc
   replace hc := Ctx.holdC hc; obtain ⟨u16, hc⟩ := hc; subst u16
   refine rs (v := .bool y8.ready) (ld rfl Try.isAgg4 (hcell15 0 _ rfl)) rfl ?_
   cases hb17 : y8.ready
   · replace hp := gneg hp (by rw [hb17]; exact Bool.false_ne_true)
     refine rs (v := .bool true) (ntf rfl) rfl ?_
     refine rs (v := .bool true) (pkf (v := .bool true) rfl rfl) rfl ?_
     refine rn ?_
     refine qn ?_
     refine Wct rfl ?_
     refine Wseq ?_
     refine Wreg ?_
     refine rs (v := .bool false) (av (v := .bool false) rfl) rfl ?_
     refine rn ?_
     refine qn ?_
     refine Wret ?_
     refine qr ?_
     replace hc := hc.pull 1 rfl rfl
     replace hc := hc.pull 1 rfl rfl
     replace hc : Ctx w2 (S_beat_Watch.hp b0 x0 :: Fr) := Ctx.exB _ _ (Ctx.sepB hc)
     injection hp with hp; subst hp
     refine f1 (v := .bool false) Try.results11 Try.ntmps11 rfl ?_
     exact ⟨_, rfl, k _ hc⟩
   · replace hp := gpos hp hb17
     refine rs (v := .bool false) (ntt rfl) rfl ?_
     refine rs (v := .bool false) (pkf (v := .bool false) rfl rfl) rfl ?_
     refine rn ?_
     refine qn ?_
     refine Wcf rfl ?_
     refine Wskip ?_
     refine qn ?_
     refine Wseq ?_
     refine Wreg ?_
     refine rs (v := .pointer (some ⟨b0, 0, none⟩)) (mv (v := .pointer (some ⟨b0, 0, none⟩)) rfl) rfl ?_
     refine rs (v := .int .i64 x1) (mv (v := .int .i64 x1) rfl) rfl ?_
     refine rs (v := .int .i64 x3) (mv (v := .int .i64 x3) rfl) rfl ?_
     refine rs (v := .int .i64 x2) (mv (v := .int .i64 x2) rfl) rfl ?_
     refine rs (v := .pointer (some ⟨b0, 0, none⟩)) (mv (v := .pointer (some ⟨b0, 0, none⟩)) rfl) rfl ?_
     refine rs (v := .pointer (some ⟨b0, 0, none⟩)) (nl rfl) rfl ?_
     refine rs (v := .pointer (some ⟨b0, 1, none⟩)) (fax 1 rfl Try.underlying50 rfl Try.sizeOf3 rfl rfl rfl) rfl ?_
     refine rs (v := .int .i64 x0.epoch) (ld rfl Try.isAgg3 (Ctx.cell hc (k := 0) rfl rfl rfl)) rfl ?_
     refine rs (v := .bool (decide (x2 = x0.epoch))) (eqd rfl rfl) rfl ?_
     replace hc := hc.pull 1 rfl rfl
     replace hc := hc.pull 1 rfl rfl
     replace hc : Ctx w2 (S_beat_Watch.hp b0 x0 :: Fr) := Ctx.exB _ _ (Ctx.sepB hc)
     replace hp := bind_some hp; obtain ⟨r18, hr18, hp⟩ := hp
     refine rc (cl Try.call23 rfl rfl) rfl ?_
     refine beat_Watch_heard_any hc hr18 ?_
     clear hc; intro w19 hc
     refine rs (v := .bool r18.1) (av (v := .bool r18.1) rfl) rfl ?_
     refine rn ?_
     refine qn ?_
     refine Wret ?_
     injection hp with hp; subst hp
     refine f1 (v := .bool r18.1) Try.results11 Try.ntmps11 rfl ?_
     exact ⟨_, rfl, k _ hc⟩

-- FN (*peloton/beat.Watch).Ready
theorem bd_52_0_1 {ρ : Operand → Value} {w : World} {dst : Option Nat} {ty : TypeId} {pos : String} {after : Array Edge} {g : Option (Nat × Bool)} {x0 x1 : Operand} {a0 : Bool} {k1 : IntKind} {a1 : Int} (h0 : ρ x0 = (.bool a0)) (h1 : ρ x1 = (.int k1 a1)) :
    (execOp ρ ⟨dst, .build 52 #[(0, x0), (1, x1)], ty, pos, after, g⟩).run Try.prog w = .ok (.value (.agg #[(.bool a0), (.int k1 a1), (.int .i64 0)])) w := by
  simp [execOp, Instr.build, Instr.fill, Try.zeroValue52, Try.runUnderlying52, Try.sizeOf3, Try.sizeOf4, h0, h1, Value.cells]

def beat_Watch_Ready (x0 : S_beat_Watch) (x1 : Int) (x2 : Int) (x3 : Int) : Option (Bool × S_beat_Watch) :=
  (beat_Watch_there x0 x1).bind fun r1 =>
  if r1 = true then
    if x2 ≠ x0.epoch then
      some (false, x0)
    else
      (idx x0.l x1).bind fun y9 =>
      if y9.ready = true then
        (beat_Watch_heard x0 x1 x3 true).bind fun r26 =>
        some (r26.1, r26.2)
      else
        (idx x0.l x1).bind fun y19 =>
        some (false, (⟨x0.patience, x0.epoch, (x0.l.set (x1).toNat (⟨true, x3, 0⟩ : S_beat_one))⟩ : S_beat_Watch))
  else
    some (false, x0)

set_option maxHeartbeats 2000000 in
theorem beat_Watch_Ready_any {b0 : Nat} {x0 : S_beat_Watch} {x1 : Int} {x2 : Int} {x3 : Int} {Fr : List HP} {w : World} {r : Bool × S_beat_Watch} {K : Value → World → Prop}  (hc : Ctx w (S_beat_Watch.hp b0 x0 :: Fr)) (hp : beat_Watch_Ready x0 x1 x2 x3 = some r)
    (k : ∀ w', Ctx w' (S_beat_Watch.hp b0 r.2 :: Fr) → K (.bool r.1) w') : Calls Try.prog 13 #[.pointer (some ⟨b0, 0, none⟩), .int .i64 x1, .int .i64 x2, .int .i64 x3] w (Ret K) := by
 unfold beat_Watch_Ready at hp
 refine Center (args := [.pointer (some ⟨b0, 0, none⟩), .int .i64 x1, .int .i64 x2, .int .i64 x3]) (l := [(0, .pointer (some ⟨b0, 0, none⟩)), (1, .int .i64 x1), (2, .int .i64 x2), (3, .int .i64 x3)]) Try.func13 Try.ntmps13 rfl rfl rfl ?_
 refine Wseq ?_
 refine Wreg ?_
 refine rs (v := .bool false) (av (v := .bool false) rfl) rfl ?_
 refine rn ?_
 refine qn ?_
 refine Wseq ?_
 refine Wseq ?_
 refine Wreg ?_
 refine rs (v := .pointer (some ⟨b0, 0, none⟩)) (mv (v := .pointer (some ⟨b0, 0, none⟩)) rfl) rfl ?_
 refine rs (v := .int .i64 x1) (mv (v := .int .i64 x1) rfl) rfl ?_
 replace hp := bind_some hp; obtain ⟨r1, hr1, hp⟩ := hp
 refine rc (cl Try.call22 rfl rfl) rfl ?_
 refine beat_Watch_there_any hc hr1 ?_
 clear hc; intro w2 hc
 cases hb3 : r1
 · replace hp := gneg hp (by rw [hb3]; exact Bool.false_ne_true)
   subst hb3
   refine rs (v := .bool true) (ntf rfl) rfl ?_
   refine rs (v := .bool true) (mv (v := .bool true) rfl) rfl ?_
   refine r0 rfl ?_
   refine r0 rfl ?_
   refine r0 rfl ?_
   refine r0 rfl ?_
   refine r0 rfl ?_
   refine r0 rfl ?_
   refine rs (v := .bool true) (pkt (v := .bool true) rfl rfl) rfl ?_
   refine rn ?_
   refine qn ?_
   refine Wct rfl ?_
   refine Wseq ?_
   refine Wreg ?_
   refine rs (v := .bool false) (av (v := .bool false) rfl) rfl ?_
   refine rn ?_
   refine qn ?_
   refine Wret ?_
   refine qr ?_
   injection hp with hp; subst hp
   refine f1 (v := .bool false) Try.results13 Try.ntmps13 rfl ?_
   exact ⟨_, rfl, k _ hc⟩
 · replace hp := gpos hp hb3
   subst hb3
   refine rs (v := .bool false) (ntt rfl) rfl ?_
   refine rs (v := .bool false) (mv (v := .bool false) rfl) rfl ?_
   refine rs (v := .int .i64 x2) (mv (v := .int .i64 x2) rfl) rfl ?_
   refine rs (v := .pointer (some ⟨b0, 0, none⟩)) (mv (v := .pointer (some ⟨b0, 0, none⟩)) rfl) rfl ?_
   refine rs (v := .pointer (some ⟨b0, 0, none⟩)) (nl rfl) rfl ?_
   refine rs (v := .pointer (some ⟨b0, 1, none⟩)) (fax 1 rfl Try.underlying50 rfl Try.sizeOf3 rfl rfl rfl) rfl ?_
   replace hc := Ctx.exF hc; obtain ⟨v4, hc⟩ := hc
   replace hc := Ctx.sepF hc
   obtain ⟨a5, q6, u7⟩ := hc.rd (k := 1) rfl rfl reads_own; subst u7
   refine rs (v := .int .i64 x0.epoch) (ld rfl Try.isAgg3 (Ctx.cell hc (k := 0) rfl rfl rfl)) rfl ?_
   refine rs (v := .bool (decide (x2 ≠ x0.epoch))) (ned rfl rfl) rfl ?_
   refine rs (v := .bool (decide (x2 ≠ x0.epoch))) (pkf (v := .bool (decide (x2 ≠ x0.epoch))) rfl rfl) rfl ?_
   refine rn ?_
   refine qn ?_
   cases hb8 : (decide (x2 ≠ x0.epoch))
   · replace hp := gneg hp (of_decide_eq_false hb8)
     refine Wcf rfl ?_
     refine Wskip ?_
     refine qn ?_
     refine Wseq ?_
     refine Wseq ?_
     refine Wreg ?_
     refine rs (v := .pointer (some ⟨b0, 0, none⟩)) (mv (v := .pointer (some ⟨b0, 0, none⟩)) rfl) rfl ?_
     refine rs (v := .pointer (some ⟨b0, 0, none⟩)) (nl rfl) rfl ?_
     refine rs (v := .pointer (some ⟨b0, 2, none⟩)) (fax 2 rfl Try.underlying50 rfl Try.sizeOf48 rfl rfl rfl) rfl ?_
     refine rs (v := .slice a5 x0.l.length q6) (ld rfl Try.isAgg48 (Ctx.cell hc (k := 0) rfl rfl rfl)) rfl ?_
     refine rs (v := .int .i64 x1) (mv (v := .int .i64 x1) rfl) rfl ?_
     replace hp := bind_some hp; obtain ⟨y9, hy9, hp⟩ := hp
     obtain ⟨b12, o13, u14, hi10, hi11⟩ := Ctx.rdAt hc (k := 1) rfl rfl reads_own hy9
     subst u14
     refine rs (v := .pointer (some ⟨b12, o13 + (x1).toNat * 3, none⟩)) (ixx rfl rfl Try.underlying48 Try.sizeOf52 hi10 hi11 rfl) rfl ?_
     refine rs (v := .pointer (some ⟨b12, o13 + (x1).toNat * 3 + 0, none⟩)) (fax 0 rfl Try.underlying52 rfl Try.sizeOf4 rfl rfl rfl) rfl ?_
     replace hc := Ctx.rdCell hc (k := 1) rfl rfl reads_own hy9; obtain ⟨cs15, hc, hcell16⟩ := hc
     replace hc := Ctx.holdC hc; obtain ⟨u17, hc⟩ := hc; subst u17
     refine rs (v := .bool y9.ready) (ld rfl Try.isAgg4 (hcell16 0 _ rfl)) rfl ?_
     refine rn ?_
     refine qn ?_
     cases hb18 : y9.ready
     · replace hp := gneg hp (by rw [hb18]; exact Bool.false_ne_true)
       refine Wcf rfl ?_
       refine Wskip ?_
       refine qn ?_
       refine Wseq ?_
       refine Wreg ?_
       refine rs (v := .pointer (some ⟨b0, 0, none⟩)) (mv (v := .pointer (some ⟨b0, 0, none⟩)) rfl) rfl ?_
       refine rs (v := .pointer (some ⟨b0, 0, none⟩)) (nl rfl) rfl ?_
       refine rs (v := .pointer (some ⟨b0, 2, none⟩)) (fax 2 rfl Try.underlying50 rfl Try.sizeOf48 rfl rfl rfl) rfl ?_
       refine rs (v := .slice (some ⟨b12, o13, none⟩) x0.l.length q6) (ld rfl Try.isAgg48 (Ctx.cell hc (k := 0) rfl rfl rfl)) rfl ?_
       refine rs (v := .int .i64 x1) (mv (v := .int .i64 x1) rfl) rfl ?_
       refine rs (v := .int .i64 x3) (mv (v := .int .i64 x3) rfl) rfl ?_
       refine rs (v := .agg #[.bool true, .int .i64 x3, .int .i64 0]) (bd_52_0_1 rfl rfl) rfl ?_
       replace hp := bind_some hp; obtain ⟨y19, hy19, hp⟩ := hp
       obtain ⟨b22, o23, u24, hi20, hi21⟩ := Ctx.rdAt hc (k := 1) rfl rfl reads_own hy19
       clear u24
       refine rs (v := .pointer (some ⟨b12, o13 + (x1).toNat * 3, none⟩)) (ixx rfl rfl Try.underlying48 Try.sizeOf52 hi20 hi21 rfl) rfl ?_
       replace hc : Ctx w2 (Hold S_beat_one.pr [.bool true, .int .i64 x3, .int .i64 0] (⟨true, x3, 0⟩ : S_beat_one) :: B b0 [.int .i64 x0.patience, .int .i64 x0.epoch, .slice (some ⟨b12, o13, none⟩) x0.l.length q6] 50 :: Own S_beat_one.pr 52 (.slice (some ⟨b12, o13, none⟩) x0.l.length q6) x0.l :: Fr) := hc.add _ fun _ _ _ => ⟨rfl, rfl⟩
       refine ruE (A := fun w' => Ctx w' (B b0 [.int .i64 x0.patience, .int .i64 x0.epoch, .slice (some ⟨b12, o13, none⟩) x0.l.length q6] 50 :: Own S_beat_one.pr 52 (.slice (some ⟨b12, o13, none⟩) x0.l.length q6) (x0.l.set (x1).toNat (⟨true, x3, 0⟩ : S_beat_one)) :: Fr)) (Ctx.ownStore hc (k := 1) rfl rfl (x0 := y19) hy19 (vs := [.bool true, .int .i64 x3, .int .i64 0]) rfl rfl Try.sizeOf52) rfl ?_
       clear hc; rintro w25 hc
       refine rn ?_
       refine qn ?_
       refine Wseq ?_
       refine Wreg ?_
       refine rs (v := .bool false) (av (v := .bool false) rfl) rfl ?_
       refine rn ?_
       refine qn ?_
       refine Wret ?_
       replace hc := hc.pull 1 rfl rfl
       replace hc := hc.pull 1 rfl rfl
       replace hc : Ctx w25 (S_beat_Watch.hp b0 (⟨x0.patience, x0.epoch, (x0.l.set (x1).toNat (⟨true, x3, 0⟩ : S_beat_one))⟩ : S_beat_Watch) :: Fr) := Ctx.exB _ _ (Ctx.sepB hc)
       injection hp with hp; subst hp
       refine f1 (v := .bool false) Try.results13 Try.ntmps13 rfl ?_
       exact ⟨_, rfl, k _ hc⟩
     · replace hp := gpos hp hb18
       refine Wct rfl ?_
       refine Wseq ?_
       refine Wreg ?_
       refine rs (v := .pointer (some ⟨b0, 0, none⟩)) (mv (v := .pointer (some ⟨b0, 0, none⟩)) rfl) rfl ?_
       refine rs (v := .int .i64 x1) (mv (v := .int .i64 x1) rfl) rfl ?_
       refine rs (v := .int .i64 x3) (mv (v := .int .i64 x3) rfl) rfl ?_
       replace hc := hc.pull 1 rfl rfl
       replace hc := hc.pull 1 rfl rfl
       replace hc : Ctx w2 (S_beat_Watch.hp b0 x0 :: Fr) := Ctx.exB _ _ (Ctx.sepB hc)
       replace hp := bind_some hp; obtain ⟨r26, hr26, hp⟩ := hp
       refine rc (cl Try.call23 rfl rfl) rfl ?_
       refine beat_Watch_heard_any hc hr26 ?_
       clear hc; intro w27 hc
       refine rs (v := .bool r26.1) (av (v := .bool r26.1) rfl) rfl ?_
       refine rn ?_
       refine qn ?_
       refine Wret ?_
       refine qr ?_
       injection hp with hp; subst hp
       refine f1 (v := .bool r26.1) Try.results13 Try.ntmps13 rfl ?_
       exact ⟨_, rfl, k _ hc⟩
   · replace hp := gpos hp (of_decide_eq_true hb8)
     refine Wct rfl ?_
     refine Wseq ?_
     refine Wreg ?_
     refine rs (v := .bool false) (av (v := .bool false) rfl) rfl ?_
     refine rn ?_
     refine qn ?_
     refine Wret ?_
     refine qr ?_
     replace hc := hc.pull 1 rfl rfl
     replace hc := hc.pull 1 rfl rfl
     replace hc : Ctx w2 (S_beat_Watch.hp b0 x0 :: Fr) := Ctx.exB _ _ (Ctx.sepB hc)
     injection hp with hp; subst hp
     refine f1 (v := .bool false) Try.results13 Try.ntmps13 rfl ?_
     exact ⟨_, rfl, k _ hc⟩

-- FN peloton/beat.New
theorem bd_50_0_1_2 {ρ : Operand → Value} {w : World} {dst : Option Nat} {ty : TypeId} {pos : String} {after : Array Edge} {g : Option (Nat × Bool)} {x0 x1 x2 : Operand} {k0 : IntKind} {a0 : Int} {k1 : IntKind} {a1 : Int} {a2 : Option Addr} {l2 c2 : Nat} (h0 : ρ x0 = (.int k0 a0)) (h1 : ρ x1 = (.int k1 a1)) (h2 : ρ x2 = (.slice a2 l2 c2)) :
    (execOp ρ ⟨dst, .build 50 #[(0, x0), (1, x1), (2, x2)], ty, pos, after, g⟩).run Try.prog w = .ok (.value (.agg #[(.int k0 a0), (.int k1 a1), (.slice a2 l2 c2)])) w := by
  simp [execOp, Instr.build, Instr.fill, Try.zeroValue50, Try.runUnderlying50, Try.sizeOf3, Try.sizeOf48, h0, h1, h2, Value.cells]

def beat_New (x0 : Int) (x1 : Int) : Option ((Option S_beat_Watch) × Int) :=
  if x0 < 1 then
    some (none, 2)
  else
    if x0 > 64 then
      some (none, 2)
    else
      if x1 < 1 then
        some (none, 2)
      else
        if x1 > 10000 then
          some (none, 2)
        else
          chk (0 ≤ x0 ∧ x0 ≤ 4294967296) <|
          some ((some (⟨x1, 1, (List.replicate (x0).toNat (⟨false, 0, 0⟩ : S_beat_one))⟩ : S_beat_Watch)), 0)

set_option maxHeartbeats 2000000 in
theorem beat_New_any {x0 : Int} {x1 : Int} {Fr : List HP} {w : World} {r : (Option S_beat_Watch) × Int} {K : Value → World → Prop}  (hc : Ctx w (Fr)) (hp : beat_New x0 x1 = some r)
    (k : ∀ (v13 : Value) w', Ctx w' (PtO S_beat_Watch.hp v13 r.1 :: Fr) → K (.tuple #[v13, .int .i64 r.2]) w') : Calls Try.prog 7 #[.int .i64 x0, .int .i64 x1] w (Ret K) := by
 unfold beat_New at hp
 refine Center (args := [.int .i64 x0, .int .i64 x1]) (l := [(0, .int .i64 x0), (1, .int .i64 x1)]) Try.func7 Try.ntmps7 rfl rfl rfl ?_
 refine Wseq ?_
 refine Wreg ?_
 refine rs (v := .pointer none) (av (v := .pointer none) rfl) rfl ?_
 refine rs (v := .int .i64 0) (av (v := .int .i64 0) rfl) rfl ?_
 refine rn ?_
 refine qn ?_
 refine Wseq ?_
 refine Wseq ?_
 refine Wreg ?_
 refine rs (v := .int .i64 x0) (mv (v := .int .i64 x0) rfl) rfl ?_
 refine rs (v := .bool (decide (x0 < 1))) (lt' rfl rfl) rfl ?_
 refine rs (v := .bool (decide (x0 < 1))) (mv (v := .bool (decide (x0 < 1))) rfl) rfl ?_
 cases hb1 : (decide (x0 < 1))
 · replace hp := gneg hp (of_decide_eq_false hb1)
   refine rs (v := .int .i64 x0) (mv (v := .int .i64 x0) rfl) rfl ?_
   refine rs (v := .bool (decide (x0 > 64))) (gt' rfl rfl) rfl ?_
   refine rs (v := .bool (decide (x0 > 64))) (pkf (v := .bool (decide (x0 > 64))) rfl rfl) rfl ?_
   refine rs (v := .bool (decide (x0 > 64))) (mv (v := .bool (decide (x0 > 64))) rfl) rfl ?_
   cases hb2 : (decide (x0 > 64))
   · replace hp := gneg hp (of_decide_eq_false hb2)
     refine rs (v := .int .i64 x1) (mv (v := .int .i64 x1) rfl) rfl ?_
     refine rs (v := .bool (decide (x1 < 1))) (lt' rfl rfl) rfl ?_
     refine rs (v := .bool (decide (x1 < 1))) (pkf (v := .bool (decide (x1 < 1))) rfl rfl) rfl ?_
     refine rs (v := .bool (decide (x1 < 1))) (mv (v := .bool (decide (x1 < 1))) rfl) rfl ?_
     cases hb3 : (decide (x1 < 1))
     · replace hp := gneg hp (of_decide_eq_false hb3)
       refine rs (v := .int .i64 x1) (mv (v := .int .i64 x1) rfl) rfl ?_
       refine rs (v := .bool (decide (x1 > 10000))) (gt' rfl rfl) rfl ?_
       refine rs (v := .bool (decide (x1 > 10000))) (pkf (v := .bool (decide (x1 > 10000))) rfl rfl) rfl ?_
       refine rn ?_
       refine qn ?_
       cases hb4 : (decide (x1 > 10000))
       · replace hp := gneg hp (of_decide_eq_false hb4)
         refine Wcf rfl ?_
         refine Wskip ?_
         refine qn ?_
         refine Wseq ?_
         refine Wreg ?_
         refine rs (v := .int .i64 x1) (mv (v := .int .i64 x1) rfl) rfl ?_
         refine rs (v := .int .i64 x0) (mv (v := .int .i64 x0) rfl) rfl ?_
         replace hp := chk_some hp; obtain ⟨hg5, hp⟩ := hp
         have hm7 : ((x0).toNat : Int) = x0 := Int.toNat_of_nonneg hg5.1
         refine rsE (Ctx.make (n := (x0).toNat) (E := S_beat_one.pr) (x0 := (⟨false, 0, 0⟩ : S_beat_one)) hc (by rw [hm7]; rfl) (by rw [hm7]; rfl) Try.underlying48 (i := Try.t52) rfl rfl rfl rfl rfl rfl (fun _ _ => rfl) (by omega)) rfl ?_
         clear hc; rintro _ w9 ⟨a6, rfl, hc⟩
         refine rs (v := .agg #[.int .i64 x1, .int .i64 1, .slice a6 ((x0).toNat) ((x0).toNat)]) (bd_50_0_1_2 rfl rfl rfl) rfl ?_
         refine rsE (Ctx.boxOp (cs := [.int .i64 x1, .int .i64 1, .slice a6 ((x0).toNat) ((x0).toNat)]) (v := .agg #[.int .i64 x1, .int .i64 1, .slice a6 ((x0).toNat) ((x0).toNat)]) hc rfl rfl) rfl ?_
         clear hc; rintro _ w12 ⟨b10, rfl, hc⟩
         refine rs (v := .pointer (some ⟨b10, 0, none⟩)) (av (v := .pointer (some ⟨b10, 0, none⟩)) rfl) rfl ?_
         refine rs (v := .int .i64 0) (av (v := .int .i64 0) rfl) rfl ?_
         refine rn ?_
         refine qn ?_
         refine Wret ?_
         replace hc := hc.pull 1 rfl rfl
         replace hc := hc.pull 1 rfl rfl
         replace hc : Ctx w12 (S_beat_Watch.hp b10 (⟨x1, 1, (List.replicate (x0).toNat (⟨false, 0, 0⟩ : S_beat_one))⟩ : S_beat_Watch) :: Fr) := Ctx.exB _ _ (Ctx.sepB hc)
         replace hc := Ctx.ptoSB S_beat_Watch.hp hc
         injection hp with hp; subst hp
         refine f2 (v := .pointer (some ⟨b10, 0, none⟩)) (u := .int .i64 0) Try.results7 Try.ntmps7 rfl rfl ?_
         exact ⟨_, rfl, k _ _ hc⟩
       · replace hp := gpos hp (of_decide_eq_true hb4)
         refine Wct rfl ?_
         refine Wseq ?_
         refine Wreg ?_
         refine rs (v := .pointer none) (av (v := .pointer none) rfl) rfl ?_
         refine rs (v := .int .i64 2) (av (v := .int .i64 2) rfl) rfl ?_
         refine rn ?_
         refine qn ?_
         refine Wret ?_
         refine qr ?_
         replace hc := Ctx.ptoNB S_beat_Watch.hp hc
         injection hp with hp; subst hp
         refine f2 (v := .pointer none) (u := .int .i64 2) Try.results7 Try.ntmps7 rfl rfl ?_
         exact ⟨_, rfl, k _ _ hc⟩
     · replace hp := gpos hp (of_decide_eq_true hb3)
       refine r0 rfl ?_
       refine r0 rfl ?_
       refine rs (v := .bool true) (pkt (v := .bool true) rfl rfl) rfl ?_
       refine rn ?_
       refine qn ?_
       refine Wct rfl ?_
       refine Wseq ?_
       refine Wreg ?_
       refine rs (v := .pointer none) (av (v := .pointer none) rfl) rfl ?_
       refine rs (v := .int .i64 2) (av (v := .int .i64 2) rfl) rfl ?_
       refine rn ?_
       refine qn ?_
       refine Wret ?_
       refine qr ?_
       replace hc := Ctx.ptoNB S_beat_Watch.hp hc
       injection hp with hp; subst hp
       refine f2 (v := .pointer none) (u := .int .i64 2) Try.results7 Try.ntmps7 rfl rfl ?_
       exact ⟨_, rfl, k _ _ hc⟩
   · replace hp := gpos hp (of_decide_eq_true hb2)
     refine r0 rfl ?_
     refine r0 rfl ?_
     refine rs (v := .bool true) (pkt (v := .bool true) rfl rfl) rfl ?_
     refine rs (v := .bool true) (mv (v := .bool true) rfl) rfl ?_
     refine r0 rfl ?_
     refine r0 rfl ?_
     refine rs (v := .bool true) (pkt (v := .bool true) rfl rfl) rfl ?_
     refine rn ?_
     refine qn ?_
     refine Wct rfl ?_
     refine Wseq ?_
     refine Wreg ?_
     refine rs (v := .pointer none) (av (v := .pointer none) rfl) rfl ?_
     refine rs (v := .int .i64 2) (av (v := .int .i64 2) rfl) rfl ?_
     refine rn ?_
     refine qn ?_
     refine Wret ?_
     refine qr ?_
     replace hc := Ctx.ptoNB S_beat_Watch.hp hc
     injection hp with hp; subst hp
     refine f2 (v := .pointer none) (u := .int .i64 2) Try.results7 Try.ntmps7 rfl rfl ?_
     exact ⟨_, rfl, k _ _ hc⟩
 · replace hp := gpos hp (of_decide_eq_true hb1)
   refine r0 rfl ?_
   refine r0 rfl ?_
   refine rs (v := .bool true) (pkt (v := .bool true) rfl rfl) rfl ?_
   refine rs (v := .bool true) (mv (v := .bool true) rfl) rfl ?_
   refine r0 rfl ?_
   refine r0 rfl ?_
   refine rs (v := .bool true) (pkt (v := .bool true) rfl rfl) rfl ?_
   refine rs (v := .bool true) (mv (v := .bool true) rfl) rfl ?_
   refine r0 rfl ?_
   refine r0 rfl ?_
   refine rs (v := .bool true) (pkt (v := .bool true) rfl rfl) rfl ?_
   refine rn ?_
   refine qn ?_
   refine Wct rfl ?_
   refine Wseq ?_
   refine Wreg ?_
   refine rs (v := .pointer none) (av (v := .pointer none) rfl) rfl ?_
   refine rs (v := .int .i64 2) (av (v := .int .i64 2) rfl) rfl ?_
   refine rn ?_
   refine qn ?_
   refine Wret ?_
   refine qr ?_
   replace hc := Ctx.ptoNB S_beat_Watch.hp hc
   injection hp with hp; subst hp
   refine f2 (v := .pointer none) (u := .int .i64 2) Try.results7 Try.ntmps7 rfl rfl ?_
   exact ⟨_, rfl, k _ _ hc⟩

-- FN peloton/pelotonref24.New
theorem bd_38_0 {ρ : Operand → Value} {w : World} {dst : Option Nat} {ty : TypeId} {pos : String} {after : Array Edge} {g : Option (Nat × Bool)} {x0 : Operand} {k0 : IntKind} {a0 : Int} (h0 : ρ x0 = (.int k0 a0)) :
    (execOp ρ ⟨dst, .build 38 #[(0, x0)], ty, pos, after, g⟩).run Try.prog w = .ok (.value (.agg #[(.int k0 a0), (.int .i64 0), (.slice none 0 0), (.slice none 0 0), (.slice none 0 0)])) w := by
  simp [execOp, Instr.build, Instr.fill, Try.zeroValue38, Try.runUnderlying38, Try.sizeOf3, Try.sizeOf35, Try.sizeOf36, h0, Value.cells]

def ref24_New (x0 : Int) (x1 : Int) : Option (S_ref24_Watch) :=
  chk (0 ≤ x0 ∧ x0 ≤ 4294967296) <|
  chk (0 ≤ x0 ∧ x0 ≤ 4294967296) <|
  chk (0 ≤ x0 ∧ x0 ≤ 4294967296) <|
  some (⟨x1, 1, (List.replicate (x0).toNat false), (List.replicate (x0).toNat 0), (List.replicate (x0).toNat 0)⟩ : S_ref24_Watch)

set_option maxHeartbeats 2000000 in
theorem ref24_New_any {x0 : Int} {x1 : Int} {Fr : List HP} {w : World} {r : S_ref24_Watch} {K : Value → World → Prop}  (hc : Ctx w (Fr)) (hp : ref24_New x0 x1 = some r)
    (k : ∀ (b23 : Nat) w', Ctx w' (S_ref24_Watch.hp b23 r :: Fr) → K (.pointer (some ⟨b23, 0, none⟩)) w') : Calls Try.prog 8 #[.int .i64 x0, .int .i64 x1] w (Ret K) := by
 unfold ref24_New at hp
 refine Center (args := [.int .i64 x0, .int .i64 x1]) (l := [(0, .int .i64 x0), (1, .int .i64 x1)]) Try.func8 Try.ntmps8 rfl rfl rfl ?_
 refine Wseq ?_
 refine Wreg ?_
 refine rs (v := .pointer none) (av (v := .pointer none) rfl) rfl ?_
 refine rn ?_
 refine qn ?_
 refine Wseq ?_
 refine Wreg ?_
 refine rs (v := .int .i64 x1) (mv (v := .int .i64 x1) rfl) rfl ?_
 refine rs (v := .agg #[.int .i64 x1, .int .i64 0, .slice none 0 0, .slice none 0 0, .slice none 0 0]) (bd_38_0 rfl) rfl ?_
 refine rsE (Ctx.boxOp (cs := [.int .i64 x1, .int .i64 0, .slice none 0 0, .slice none 0 0, .slice none 0 0]) (v := .agg #[.int .i64 x1, .int .i64 0, .slice none 0 0, .slice none 0 0, .slice none 0 0]) hc rfl rfl) rfl ?_
 clear hc; rintro _ w3 ⟨b1, rfl, hc⟩
 refine rs (v := .pointer (some ⟨b1, 0, none⟩)) (av (v := .pointer (some ⟨b1, 0, none⟩)) rfl) rfl ?_
 refine rn ?_
 refine qn ?_
 refine Wseq ?_
 refine Wreg ?_
 refine rs (v := .pointer (some ⟨b1, 0, none⟩)) (mv (v := .pointer (some ⟨b1, 0, none⟩)) rfl) rfl ?_
 refine rs (v := .int .i64 x0) (mv (v := .int .i64 x0) rfl) rfl ?_
 replace hp := chk_some hp; obtain ⟨hg4, hp⟩ := hp
 have hm6 : ((x0).toNat : Int) = x0 := Int.toNat_of_nonneg hg4.1
 refine rsE (Ctx.make (n := (x0).toNat) (E := pBool) (x0 := false) hc (by rw [hm6]; rfl) (by rw [hm6]; rfl) Try.underlying35 (i := Try.t4) rfl rfl rfl rfl rfl rfl (fun _ _ => rfl) (by omega)) rfl ?_
 clear hc; rintro _ w8 ⟨a5, rfl, hc⟩
 refine rs (v := .pointer (some ⟨b1, 0, none⟩)) (nl rfl) rfl ?_
 refine rs (v := .pointer (some ⟨b1, 2, none⟩)) (fax 2 rfl Try.underlying38 rfl Try.sizeOf35 rfl rfl rfl) rfl ?_
 refine ruE (A := fun w' => Ctx w' (Own pBool 4 (.slice a5 ((x0).toNat) ((x0).toNat)) (List.replicate (x0).toNat false) :: B b1 [.int .i64 x1, .int .i64 0, .slice a5 ((x0).toNat) ((x0).toNat), .slice none 0 0, .slice none 0 0] 38 :: Fr)) (Ctx.putOp hc (k := 1) rfl rfl (v := .slice a5 ((x0).toNat) ((x0).toNat)) rfl rfl rfl Try.sizeOf35 rfl rfl rfl) rfl ?_
 clear hc; rintro w9 hc
 refine rn ?_
 refine qn ?_
 refine Wseq ?_
 refine Wreg ?_
 refine rs (v := .pointer (some ⟨b1, 0, none⟩)) (mv (v := .pointer (some ⟨b1, 0, none⟩)) rfl) rfl ?_
 refine rs (v := .int .i64 x0) (mv (v := .int .i64 x0) rfl) rfl ?_
 replace hp := chk_some hp; obtain ⟨hg10, hp⟩ := hp
 have hm12 : ((x0).toNat : Int) = x0 := Int.toNat_of_nonneg hg10.1
 refine rsE (Ctx.make (n := (x0).toNat) (E := (pInt .i64)) (x0 := 0) hc (by rw [hm12]; rfl) (by rw [hm12]; rfl) Try.underlying36 (i := Try.t3) rfl rfl rfl rfl rfl rfl (fun _ _ => rfl) (by omega)) rfl ?_
 clear hc; rintro _ w14 ⟨a11, rfl, hc⟩
 refine rs (v := .pointer (some ⟨b1, 0, none⟩)) (nl rfl) rfl ?_
 refine rs (v := .pointer (some ⟨b1, 3, none⟩)) (fax 3 rfl Try.underlying38 rfl Try.sizeOf36 rfl rfl rfl) rfl ?_
 refine ruE (A := fun w' => Ctx w' (Own (pInt .i64) 3 (.slice a11 ((x0).toNat) ((x0).toNat)) (List.replicate (x0).toNat 0) :: Own pBool 4 (.slice a5 ((x0).toNat) ((x0).toNat)) (List.replicate (x0).toNat false) :: B b1 [.int .i64 x1, .int .i64 0, .slice a5 ((x0).toNat) ((x0).toNat), .slice a11 ((x0).toNat) ((x0).toNat), .slice none 0 0] 38 :: Fr)) (Ctx.putOp hc (k := 2) rfl rfl (v := .slice a11 ((x0).toNat) ((x0).toNat)) rfl rfl rfl Try.sizeOf36 rfl rfl rfl) rfl ?_
 clear hc; rintro w15 hc
 refine rn ?_
 refine qn ?_
 refine Wseq ?_
 refine Wreg ?_
 refine rs (v := .pointer (some ⟨b1, 0, none⟩)) (mv (v := .pointer (some ⟨b1, 0, none⟩)) rfl) rfl ?_
 refine rs (v := .int .i64 x0) (mv (v := .int .i64 x0) rfl) rfl ?_
 replace hp := chk_some hp; obtain ⟨hg16, hp⟩ := hp
 have hm18 : ((x0).toNat : Int) = x0 := Int.toNat_of_nonneg hg16.1
 refine rsE (Ctx.make (n := (x0).toNat) (E := (pInt .i64)) (x0 := 0) hc (by rw [hm18]; rfl) (by rw [hm18]; rfl) Try.underlying36 (i := Try.t3) rfl rfl rfl rfl rfl rfl (fun _ _ => rfl) (by omega)) rfl ?_
 clear hc; rintro _ w20 ⟨a17, rfl, hc⟩
 refine rs (v := .pointer (some ⟨b1, 0, none⟩)) (nl rfl) rfl ?_
 refine rs (v := .pointer (some ⟨b1, 4, none⟩)) (fax 4 rfl Try.underlying38 rfl Try.sizeOf36 rfl rfl rfl) rfl ?_
 refine ruE (A := fun w' => Ctx w' (Own (pInt .i64) 3 (.slice a17 ((x0).toNat) ((x0).toNat)) (List.replicate (x0).toNat 0) :: Own (pInt .i64) 3 (.slice a11 ((x0).toNat) ((x0).toNat)) (List.replicate (x0).toNat 0) :: Own pBool 4 (.slice a5 ((x0).toNat) ((x0).toNat)) (List.replicate (x0).toNat false) :: B b1 [.int .i64 x1, .int .i64 0, .slice a5 ((x0).toNat) ((x0).toNat), .slice a11 ((x0).toNat) ((x0).toNat), .slice a17 ((x0).toNat) ((x0).toNat)] 38 :: Fr)) (Ctx.putOp hc (k := 3) rfl rfl (v := .slice a17 ((x0).toNat) ((x0).toNat)) rfl rfl rfl Try.sizeOf36 rfl rfl rfl) rfl ?_
 clear hc; rintro w21 hc
 refine rn ?_
 refine qn ?_
 refine Wseq ?_
 refine Wreg ?_
 refine rs (v := .pointer (some ⟨b1, 0, none⟩)) (mv (v := .pointer (some ⟨b1, 0, none⟩)) rfl) rfl ?_
 refine rs (v := .pointer (some ⟨b1, 0, none⟩)) (nl rfl) rfl ?_
 refine rs (v := .pointer (some ⟨b1, 1, none⟩)) (fax 1 rfl Try.underlying38 rfl Try.sizeOf3 rfl rfl rfl) rfl ?_
 refine ruE (A := fun w' => Ctx w' (Own (pInt .i64) 3 (.slice a17 ((x0).toNat) ((x0).toNat)) (List.replicate (x0).toNat 0) :: Own (pInt .i64) 3 (.slice a11 ((x0).toNat) ((x0).toNat)) (List.replicate (x0).toNat 0) :: Own pBool 4 (.slice a5 ((x0).toNat) ((x0).toNat)) (List.replicate (x0).toNat false) :: B b1 [.int .i64 x1, .int .i64 1, .slice a5 ((x0).toNat) ((x0).toNat), .slice a11 ((x0).toNat) ((x0).toNat), .slice a17 ((x0).toNat) ((x0).toNat)] 38 :: Fr)) (Ctx.putOp hc (k := 3) rfl rfl (v := .int .i64 1) rfl rfl rfl Try.sizeOf3 rfl rfl rfl) rfl ?_
 clear hc; rintro w22 hc
 refine rn ?_
 refine qn ?_
 refine Wseq ?_
 refine Wreg ?_
 refine rs (v := .pointer (some ⟨b1, 0, none⟩)) (mv (v := .pointer (some ⟨b1, 0, none⟩)) rfl) rfl ?_
 refine rs (v := .pointer (some ⟨b1, 0, none⟩)) (av (v := .pointer (some ⟨b1, 0, none⟩)) rfl) rfl ?_
 refine rn ?_
 refine qn ?_
 refine Wret ?_
 replace hc := hc.pull 1 rfl rfl
 replace hc := hc.pull 2 rfl rfl
 replace hc := hc.pull 3 rfl rfl
 replace hc : Ctx w22 (S_ref24_Watch.hp b1 (⟨x1, 1, (List.replicate (x0).toNat false), (List.replicate (x0).toNat 0), (List.replicate (x0).toNat 0)⟩ : S_ref24_Watch) :: Fr) := Ctx.exB _ _ (Ctx.exB _ _ (Ctx.exB _ _ (Ctx.sepB (Ctx.sepB (Ctx.sepB hc)))))
 injection hp with hp; subst hp
 refine f1 (v := .pointer (some ⟨b1, 0, none⟩)) Try.results8 Try.ntmps8 rfl ?_
 exact ⟨_, rfl, k _ _ hc⟩

-- FN (*peloton/pelotonref24.Watch).Bump
def ref24_Watch_Bump.L1  : Nat → S_ref24_Watch → Int → Option (S_ref24_Watch)
  | 0, _, _ => none
  | m1 + 1, j14, j15 =>
    if j15 < ((j14.Ready.length : Nat) : Int) then
      (idx j14.Ready j15).bind fun y30 =>
      (idx j14.Life j15).bind fun y37 =>
      (idx j14.Since j15).bind fun y44 =>
      (ref24_Watch_Bump.L1 m1) (⟨j14.Patience, j14.Epoch, (j14.Ready.set (j15).toNat false), (j14.Life.set (j15).toNat 0), (j14.Since.set (j15).toNat 0)⟩ : S_ref24_Watch) (IntKind.i64.wrap (j15 + 1))
    else
      some j14

def ref24_Watch_Bump (N : Nat) (x0 : S_ref24_Watch) : Option (S_ref24_Watch) :=
  ref24_Watch_Bump.L1 N (⟨x0.Patience, (IntKind.i64.wrap (x0.Epoch + 1)), x0.Ready, x0.Life, x0.Since⟩ : S_ref24_Watch) 0

set_option maxHeartbeats 2000000 in
theorem ref24_Watch_Bump_any {N : Nat} {b0 : Nat} {x0 : S_ref24_Watch} {Fr : List HP} {w : World} {r : S_ref24_Watch} {K : Value → World → Prop}  (hc : Ctx w (S_ref24_Watch.hp b0 x0 :: Fr)) (hp : ref24_Watch_Bump N x0 = some r)
    (k : ∀ w', Ctx w' (S_ref24_Watch.hp b0 r :: Fr) → K (.tuple #[]) w') : Calls Try.prog 14 #[.pointer (some ⟨b0, 0, none⟩)] w (Ret K) := by
 unfold ref24_Watch_Bump at hp
 refine Center (args := [.pointer (some ⟨b0, 0, none⟩)]) (l := [(0, .pointer (some ⟨b0, 0, none⟩))]) Try.func14 Try.ntmps14 rfl rfl rfl ?_
 refine Wseq ?_
 refine Wreg ?_
 refine rs (v := .pointer (some ⟨b0, 0, none⟩)) (mv (v := .pointer (some ⟨b0, 0, none⟩)) rfl) rfl ?_
 refine rs (v := .pointer (some ⟨b0, 0, none⟩)) (mv (v := .pointer (some ⟨b0, 0, none⟩)) rfl) rfl ?_
 refine rs (v := .pointer (some ⟨b0, 0, none⟩)) (nl rfl) rfl ?_
 refine rs (v := .pointer (some ⟨b0, 1, none⟩)) (fax 1 rfl Try.underlying38 rfl Try.sizeOf3 rfl rfl rfl) rfl ?_
 replace hc := Ctx.exF hc; obtain ⟨v1, hc⟩ := hc
 replace hc := Ctx.exF hc; obtain ⟨v2, hc⟩ := hc
 replace hc := Ctx.exF hc; obtain ⟨v3, hc⟩ := hc
 replace hc := Ctx.sepF hc
 replace hc := Ctx.sepF hc
 replace hc := Ctx.sepF hc
 obtain ⟨a4, q5, u6⟩ := hc.rd (k := 1) rfl rfl reads_own; subst u6
 obtain ⟨a7, q8, u9⟩ := hc.rd (k := 2) rfl rfl reads_own; subst u9
 obtain ⟨a10, q11, u12⟩ := hc.rd (k := 3) rfl rfl reads_own; subst u12
 refine rs (v := .int .i64 x0.Epoch) (ld rfl Try.isAgg3 (Ctx.cell hc (k := 0) rfl rfl rfl)) rfl ?_
 refine rs (v := .int .i64 (IntKind.i64.wrap (x0.Epoch + 1))) (adw rfl rfl) rfl ?_
 refine rs (v := .pointer (some ⟨b0, 0, none⟩)) (nl rfl) rfl ?_
 refine rs (v := .pointer (some ⟨b0, 1, none⟩)) (fax 1 rfl Try.underlying38 rfl Try.sizeOf3 rfl rfl rfl) rfl ?_
 refine ruE (A := fun w' => Ctx w' (B b0 [.int .i64 x0.Patience, .int .i64 (IntKind.i64.wrap (x0.Epoch + 1)), .slice a4 x0.Ready.length q5, .slice a7 x0.Life.length q8, .slice a10 x0.Since.length q11] 38 :: Own pBool 4 (.slice a4 x0.Ready.length q5) x0.Ready :: Own (pInt .i64) 3 (.slice a7 x0.Life.length q8) x0.Life :: Own (pInt .i64) 3 (.slice a10 x0.Since.length q11) x0.Since :: Fr)) (Ctx.putOp hc (k := 0) rfl rfl (v := .int .i64 (IntKind.i64.wrap (x0.Epoch + 1))) rfl rfl rfl Try.sizeOf3 rfl rfl rfl) rfl ?_
 clear hc; rintro w13 hc
 refine rn ?_
 refine qn ?_
 refine Wseq ?_
 refine Wreg ?_
 refine rs (v := .int .i64 0) (av (v := .int .i64 0) rfl) rfl ?_
 refine rn ?_
 refine qn ?_
 refine Wblk ?_
 replace hc := hc.pull 3 rfl rfl
 replace hc := hc.pull 3 rfl rfl
 replace hc := hc.pull 3 rfl rfl
 replace hc := hc.pull 3 rfl rfl
 replace hc : Ctx w13 (S_ref24_Watch.hp b0 (⟨x0.Patience, (IntKind.i64.wrap (x0.Epoch + 1)), x0.Ready, x0.Life, x0.Since⟩ : S_ref24_Watch) :: Fr) := Ctx.exB _ _ (Ctx.exB _ _ (Ctx.exB _ _ (Ctx.sepB (Ctx.sepB (Ctx.sepB hc)))))
 refine Wloop [2, 11, 12, 13, 14, 15, 16, 17, 18, 19, 20, 21, 22, 23, 24, 25, 26, 27, 28, 29, 30, 31, 32, 33, 34, 35, 36, 37] [2] (fun m vs w' => ∃ j14 : S_ref24_Watch, ∃ j15 : Int, vs = [.int .i64 j15] ∧ ref24_Watch_Bump.L1 m j14 j15 = some r ∧ Ctx w' (S_ref24_Watch.hp b0 j14 :: Fr)) N ?_ ?_
 · exact ⟨(⟨x0.Patience, (IntKind.i64.wrap (x0.Epoch + 1)), x0.Ready, x0.Life, x0.Since⟩ : S_ref24_Watch), 0, rfl, hp, hc⟩
 · clear hp hc; intro m vs u w16 hJ
   obtain ⟨j14, j15, rfl, hp, hc⟩ := hJ
   rcases m with _ | m1
   · cases (show none = some r from hp)
   rw [ref24_Watch_Bump.L1] at hp
   refine Wseq ?_
   refine Wseq ?_
   refine Wreg ?_
   refine rs (v := .int .i64 j15) (mv (v := .int .i64 j15) rfl) rfl ?_
   refine rs (v := .pointer (some ⟨b0, 0, none⟩)) (mv (v := .pointer (some ⟨b0, 0, none⟩)) rfl) rfl ?_
   refine rs (v := .pointer (some ⟨b0, 0, none⟩)) (nl rfl) rfl ?_
   refine rs (v := .pointer (some ⟨b0, 2, none⟩)) (fax 2 rfl Try.underlying38 rfl Try.sizeOf35 rfl rfl rfl) rfl ?_
   replace hc := Ctx.exF hc; obtain ⟨v17, hc⟩ := hc
   replace hc := Ctx.exF hc; obtain ⟨v18, hc⟩ := hc
   replace hc := Ctx.exF hc; obtain ⟨v19, hc⟩ := hc
   replace hc := Ctx.sepF hc
   replace hc := Ctx.sepF hc
   replace hc := Ctx.sepF hc
   obtain ⟨a20, q21, u22⟩ := hc.rd (k := 1) rfl rfl reads_own; subst u22
   obtain ⟨a23, q24, u25⟩ := hc.rd (k := 2) rfl rfl reads_own; subst u25
   obtain ⟨a26, q27, u28⟩ := hc.rd (k := 3) rfl rfl reads_own; subst u28
   refine rs (v := .slice a20 j14.Ready.length q21) (ld rfl Try.isAgg35 (Ctx.cell hc (k := 0) rfl rfl rfl)) rfl ?_
   refine rs (v := .int .i64 ((j14.Ready.length : Nat) : Int)) (ln rfl Try.underlying35) rfl ?_
   refine rs (v := .bool (decide (j15 < ((j14.Ready.length : Nat) : Int)))) (lt' rfl rfl) rfl ?_
   refine rn ?_
   refine qn ?_
   cases hb29 : (decide (j15 < ((j14.Ready.length : Nat) : Int)))
   · replace hp := gneg hp (of_decide_eq_false hb29)
     refine Wcf rfl ?_
     refine Wexit ?_
     refine qx ?_
     refine qx ?_
     refine be ?_
     refine f0n Try.results14 ?_
     replace hc := hc.pull 3 rfl rfl
     replace hc := hc.pull 3 rfl rfl
     replace hc := hc.pull 3 rfl rfl
     replace hc := hc.pull 3 rfl rfl
     replace hc : Ctx w16 (S_ref24_Watch.hp b0 j14 :: Fr) := Ctx.exB _ _ (Ctx.exB _ _ (Ctx.exB _ _ (Ctx.sepB (Ctx.sepB (Ctx.sepB hc)))))
     injection hp with hp; subst hp
     exact ⟨_, rfl, k _ hc⟩
   · replace hp := gpos hp (of_decide_eq_true hb29)
     refine Wct rfl ?_
     refine Wskip ?_
     refine qn ?_
     refine Wseq ?_
     refine Wblk ?_
     refine Wseq ?_
     refine Wreg ?_
     refine rs (v := .pointer (some ⟨b0, 0, none⟩)) (mv (v := .pointer (some ⟨b0, 0, none⟩)) rfl) rfl ?_
     refine rs (v := .pointer (some ⟨b0, 0, none⟩)) (nl rfl) rfl ?_
     refine rs (v := .pointer (some ⟨b0, 2, none⟩)) (fax 2 rfl Try.underlying38 rfl Try.sizeOf35 rfl rfl rfl) rfl ?_
     refine rs (v := .slice a20 j14.Ready.length q21) (ld rfl Try.isAgg35 (Ctx.cell hc (k := 0) rfl rfl rfl)) rfl ?_
     refine rs (v := .int .i64 j15) (mv (v := .int .i64 j15) rfl) rfl ?_
     replace hp := bind_some hp; obtain ⟨y30, hy30, hp⟩ := hp
     obtain ⟨b33, o34, u35, hi31, hi32⟩ := Ctx.rdAt hc (k := 1) rfl rfl reads_own hy30
     subst u35
     refine rs (v := .pointer (some ⟨b33, o34 + (j15).toNat * 1, none⟩)) (ixx rfl rfl Try.underlying35 Try.sizeOf4 hi31 hi32 rfl) rfl ?_
     refine ruE (A := fun w' => Ctx w' (B b0 [.int .i64 j14.Patience, .int .i64 j14.Epoch, .slice (some ⟨b33, o34, none⟩) j14.Ready.length q21, .slice a23 j14.Life.length q24, .slice a26 j14.Since.length q27] 38 :: Own pBool 4 (.slice (some ⟨b33, o34, none⟩) j14.Ready.length q21) (j14.Ready.set (j15).toNat false) :: Own (pInt .i64) 3 (.slice a23 j14.Life.length q24) j14.Life :: Own (pInt .i64) 3 (.slice a26 j14.Since.length q27) j14.Since :: Fr)) (Ctx.ownPutOp hc (k := 1) rfl rfl (z := y30) (z' := false) hy30 0 rfl (u := .bool false) rfl rfl rfl Try.sizeOf4 (fun _ _ _ h => by cases h; rfl) rfl) rfl ?_
     clear hc; rintro w36 hc
     refine rn ?_
     refine qn ?_
     refine Wseq ?_
     refine Wreg ?_
     refine rs (v := .pointer (some ⟨b0, 0, none⟩)) (mv (v := .pointer (some ⟨b0, 0, none⟩)) rfl) rfl ?_
     refine rs (v := .pointer (some ⟨b0, 0, none⟩)) (nl rfl) rfl ?_
     refine rs (v := .pointer (some ⟨b0, 3, none⟩)) (fax 3 rfl Try.underlying38 rfl Try.sizeOf36 rfl rfl rfl) rfl ?_
     refine rs (v := .slice a23 j14.Life.length q24) (ld rfl Try.isAgg36 (Ctx.cell hc (k := 0) rfl rfl rfl)) rfl ?_
     refine rs (v := .int .i64 j15) (mv (v := .int .i64 j15) rfl) rfl ?_
     replace hp := bind_some hp; obtain ⟨y37, hy37, hp⟩ := hp
     obtain ⟨b40, o41, u42, hi38, hi39⟩ := Ctx.rdAt hc (k := 2) rfl rfl reads_own hy37
     subst u42
     refine rs (v := .pointer (some ⟨b40, o41 + (j15).toNat * 1, none⟩)) (ixx rfl rfl Try.underlying36 Try.sizeOf3 hi38 hi39 rfl) rfl ?_
     refine ruE (A := fun w' => Ctx w' (B b0 [.int .i64 j14.Patience, .int .i64 j14.Epoch, .slice (some ⟨b33, o34, none⟩) j14.Ready.length q21, .slice (some ⟨b40, o41, none⟩) j14.Life.length q24, .slice a26 j14.Since.length q27] 38 :: Own pBool 4 (.slice (some ⟨b33, o34, none⟩) j14.Ready.length q21) (j14.Ready.set (j15).toNat false) :: Own (pInt .i64) 3 (.slice (some ⟨b40, o41, none⟩) j14.Life.length q24) (j14.Life.set (j15).toNat 0) :: Own (pInt .i64) 3 (.slice a26 j14.Since.length q27) j14.Since :: Fr)) (Ctx.ownPutOp hc (k := 2) rfl rfl (z := y37) (z' := 0) hy37 0 rfl (u := .int .i64 0) rfl rfl rfl Try.sizeOf3 (fun _ _ _ h => by cases h; rfl) rfl) rfl ?_
     clear hc; rintro w43 hc
     refine rn ?_
     refine qn ?_
     refine Wreg ?_
     refine rs (v := .pointer (some ⟨b0, 0, none⟩)) (mv (v := .pointer (some ⟨b0, 0, none⟩)) rfl) rfl ?_
     refine rs (v := .pointer (some ⟨b0, 0, none⟩)) (nl rfl) rfl ?_
     refine rs (v := .pointer (some ⟨b0, 4, none⟩)) (fax 4 rfl Try.underlying38 rfl Try.sizeOf36 rfl rfl rfl) rfl ?_
     refine rs (v := .slice a26 j14.Since.length q27) (ld rfl Try.isAgg36 (Ctx.cell hc (k := 0) rfl rfl rfl)) rfl ?_
     refine rs (v := .int .i64 j15) (mv (v := .int .i64 j15) rfl) rfl ?_
     replace hp := bind_some hp; obtain ⟨y44, hy44, hp⟩ := hp
     obtain ⟨b47, o48, u49, hi45, hi46⟩ := Ctx.rdAt hc (k := 3) rfl rfl reads_own hy44
     subst u49
     refine rs (v := .pointer (some ⟨b47, o48 + (j15).toNat * 1, none⟩)) (ixx rfl rfl Try.underlying36 Try.sizeOf3 hi45 hi46 rfl) rfl ?_
     refine ruE (A := fun w' => Ctx w' (B b0 [.int .i64 j14.Patience, .int .i64 j14.Epoch, .slice (some ⟨b33, o34, none⟩) j14.Ready.length q21, .slice (some ⟨b40, o41, none⟩) j14.Life.length q24, .slice (some ⟨b47, o48, none⟩) j14.Since.length q27] 38 :: Own pBool 4 (.slice (some ⟨b33, o34, none⟩) j14.Ready.length q21) (j14.Ready.set (j15).toNat false) :: Own (pInt .i64) 3 (.slice (some ⟨b40, o41, none⟩) j14.Life.length q24) (j14.Life.set (j15).toNat 0) :: Own (pInt .i64) 3 (.slice (some ⟨b47, o48, none⟩) j14.Since.length q27) (j14.Since.set (j15).toNat 0) :: Fr)) (Ctx.ownPutOp hc (k := 3) rfl rfl (z := y44) (z' := 0) hy44 0 rfl (u := .int .i64 0) rfl rfl rfl Try.sizeOf3 (fun _ _ _ h => by cases h; rfl) rfl) rfl ?_
     clear hc; rintro w50 hc
     refine rn ?_
     refine bn ?_
     refine qn ?_
     refine Wreg ?_
     refine rs (v := .int .i64 j15) (mv (v := .int .i64 j15) rfl) rfl ?_
     refine rs (v := .int .i64 (IntKind.i64.wrap (j15 + 1))) (adw rfl rfl) rfl ?_
     refine rs (v := .int .i64 (IntKind.i64.wrap (j15 + 1))) (av (v := .int .i64 (IntKind.i64.wrap (j15 + 1))) rfl) rfl ?_
     refine rn ?_
     refine qn ?_
     replace hc := hc.pull 3 rfl rfl
     replace hc := hc.pull 3 rfl rfl
     replace hc := hc.pull 3 rfl rfl
     replace hc := hc.pull 3 rfl rfl
     replace hc : Ctx w50 (S_ref24_Watch.hp b0 (⟨j14.Patience, j14.Epoch, (j14.Ready.set (j15).toNat false), (j14.Life.set (j15).toNat 0), (j14.Since.set (j15).toNat 0)⟩ : S_ref24_Watch) :: Fr) := Ctx.exB _ _ (Ctx.exB _ _ (Ctx.exB _ _ (Ctx.sepB (Ctx.sepB (Ctx.sepB hc)))))
     exact ⟨m1, Nat.lt_succ_self _, ⟨(⟨j14.Patience, j14.Epoch, (j14.Ready.set (j15).toNat false), (j14.Life.set (j15).toNat 0), (j14.Since.set (j15).toNat 0)⟩ : S_ref24_Watch), (IntKind.i64.wrap (j15 + 1)), rfl, hp, hc⟩, (kl rfl k0)⟩

-- FN (*peloton/pelotonref24.Watch).Lists
def ref24_Watch_Lists.J2 (j9 : Int) (k1 : (List Int) → (List Int) → Int → Option ((List Int) × (List Int))) (j26 : (List Int)) (j30 : (List Int)) : Option ((List Int) × (List Int)) :=
  k1 j26 j30 (IntKind.i64.wrap (j9 + 1))

def ref24_Watch_Lists.J3 (x0 : S_ref24_Watch) (j1 : (List Int)) (j5 : (List Int)) (j9 : Int) (k1 : (List Int) → (List Int) → Int → Option ((List Int) × (List Int))) (j34 : Bool) : Option ((List Int) × (List Int)) :=
  if j34 = true then
    (app j1 ([j9])).bind fun z80 =>
    ref24_Watch_Lists.J2 j9 k1 z80 j5
  else
    (idx x0.Since j9).bind fun y60 =>
    if y60 ≥ x0.Patience then
      (app j5 ([j9])).bind fun z72 =>
      ref24_Watch_Lists.J2 j9 k1 j1 z72
    else
      ref24_Watch_Lists.J2 j9 k1 j1 j5

def ref24_Watch_Lists.L1 (x0 : S_ref24_Watch) : Nat → (List Int) → (List Int) → Int → Option ((List Int) × (List Int))
  | 0, _, _, _ => none
  | m1 + 1, j1, j5, j9 =>
    if j9 < ((x0.Ready.length : Nat) : Int) then
      (idx x0.Ready j9).bind fun y35 =>
      if y35 = true then
        ref24_Watch_Lists.J3 x0 j1 j5 j9 (ref24_Watch_Lists.L1 x0 m1) false
      else
        ref24_Watch_Lists.J3 x0 j1 j5 j9 (ref24_Watch_Lists.L1 x0 m1) true
    else
      some (j1, j5)

def ref24_Watch_Lists (N : Nat) (x0 : S_ref24_Watch) : Option ((List Int) × (List Int)) :=
  ref24_Watch_Lists.L1 x0 N ([]) ([]) 0

set_option maxHeartbeats 2000000 in
theorem ref24_Watch_Lists_any {N : Nat} {b0 : Nat} {x0 : S_ref24_Watch} {Fr : List HP} {w : World} {r : (List Int) × (List Int)} {K : Value → World → Prop}  (hc : Ctx w (S_ref24_Watch.hp b0 x0 :: Fr)) (hp : ref24_Watch_Lists N x0 = some r)
    (k : ∀ (a89 : Option Addr) (n90 : Nat) (q91 : Nat) (a92 : Option Addr) (n93 : Nat) (q94 : Nat) w', Ctx w' (Own (pInt .i64) 3 (.slice a89 n90 q91) r.1 :: Own (pInt .i64) 3 (.slice a92 n93 q94) r.2 :: S_ref24_Watch.hp b0 x0 :: Fr) → K (.tuple #[.slice a89 n90 q91, .slice a92 n93 q94]) w') : Calls Try.prog 16 #[.pointer (some ⟨b0, 0, none⟩)] w (Ret K) := by
 unfold ref24_Watch_Lists at hp
 refine Center (args := [.pointer (some ⟨b0, 0, none⟩)]) (l := [(0, .pointer (some ⟨b0, 0, none⟩))]) Try.func16 Try.ntmps16 rfl rfl rfl ?_
 refine Wseq ?_
 refine Wreg ?_
 refine rs (v := .slice none 0 0) (av (v := .slice none 0 0) rfl) rfl ?_
 refine rs (v := .slice none 0 0) (av (v := .slice none 0 0) rfl) rfl ?_
 refine rn ?_
 refine qn ?_
 refine Wseq ?_
 refine Wreg ?_
 refine rs (v := .slice none 0 0) (av (v := .slice none 0 0) rfl) rfl ?_
 refine rs (v := .slice none 0 0) (av (v := .slice none 0 0) rfl) rfl ?_
 refine rn ?_
 refine qn ?_
 refine Wseq ?_
 refine Wseq ?_
 refine Wreg ?_
 refine rs (v := .int .i64 0) (av (v := .int .i64 0) rfl) rfl ?_
 refine rn ?_
 refine qn ?_
 refine Wblk ?_
 replace hc := hc.nilOwn (pInt .i64) 3
 replace hc := hc.nilOwn (pInt .i64) 3
 replace hc := hc.pull 1 rfl rfl
 replace hc := hc.pull 2 rfl rfl
 refine Wloop [4, 5, 6, 7, 8, 9, 10, 11, 12, 13, 14, 15, 16, 17, 18, 19, 20, 21, 22, 23, 24, 25, 26, 27, 28, 29, 30, 31, 32, 33, 34, 35, 36, 37, 38, 39, 40, 41, 42, 43] [4, 5, 6] (fun m vs w' => ∃ j1 : (List Int), ∃ j5 : (List Int), ∃ j9 : Int, ∃ a2 : Option Addr, ∃ n3 : Nat, ∃ q4 : Nat, ∃ a6 : Option Addr, ∃ n7 : Nat, ∃ q8 : Nat, vs = [.slice a2 n3 q4, .slice a6 n7 q8, .int .i64 j9] ∧ ref24_Watch_Lists.L1 x0 m j1 j5 j9 = some r ∧ Ctx w' (S_ref24_Watch.hp b0 x0 :: Own (pInt .i64) 3 (.slice a2 n3 q4) j1 :: Own (pInt .i64) 3 (.slice a6 n7 q8) j5 :: Fr)) N ?_ ?_
 · exact ⟨[], [], 0, none, 0, 0, none, 0, 0, rfl, hp, hc⟩
 · clear hp hc; intro m vs u w10 hJ
   obtain ⟨j1, j5, j9, a2, n3, q4, a6, n7, q8, rfl, hp, hc⟩ := hJ
   obtain ⟨u11, _⟩ := Ctx.rdLen hc (k := 1) rfl rfl reads_own; subst u11
   obtain ⟨u12, _⟩ := Ctx.rdLen hc (k := 2) rfl rfl reads_own; subst u12
   rcases m with _ | m1
   · cases (show none = some r from hp)
   rw [ref24_Watch_Lists.L1] at hp
   refine Wseq ?_
   refine Wseq ?_
   refine Wreg ?_
   refine rs (v := .int .i64 j9) (mv (v := .int .i64 j9) rfl) rfl ?_
   refine rs (v := .pointer (some ⟨b0, 0, none⟩)) (mv (v := .pointer (some ⟨b0, 0, none⟩)) rfl) rfl ?_
   refine rs (v := .pointer (some ⟨b0, 0, none⟩)) (nl rfl) rfl ?_
   refine rs (v := .pointer (some ⟨b0, 2, none⟩)) (fax 2 rfl Try.underlying38 rfl Try.sizeOf35 rfl rfl rfl) rfl ?_
   replace hc := Ctx.exF hc; obtain ⟨v13, hc⟩ := hc
   replace hc := Ctx.exF hc; obtain ⟨v14, hc⟩ := hc
   replace hc := Ctx.exF hc; obtain ⟨v15, hc⟩ := hc
   replace hc := Ctx.sepF hc
   replace hc := Ctx.sepF hc
   replace hc := Ctx.sepF hc
   obtain ⟨a16, q17, u18⟩ := hc.rd (k := 1) rfl rfl reads_own; subst u18
   obtain ⟨a19, q20, u21⟩ := hc.rd (k := 2) rfl rfl reads_own; subst u21
   obtain ⟨a22, q23, u24⟩ := hc.rd (k := 3) rfl rfl reads_own; subst u24
   refine rs (v := .slice a16 x0.Ready.length q17) (ld rfl Try.isAgg35 (Ctx.cell hc (k := 0) rfl rfl rfl)) rfl ?_
   refine rs (v := .int .i64 ((x0.Ready.length : Nat) : Int)) (ln rfl Try.underlying35) rfl ?_
   refine rs (v := .bool (decide (j9 < ((x0.Ready.length : Nat) : Int)))) (lt' rfl rfl) rfl ?_
   refine rn ?_
   refine qn ?_
   cases hb25 : (decide (j9 < ((x0.Ready.length : Nat) : Int)))
   · replace hp := gneg hp (of_decide_eq_false hb25)
     refine Wcf rfl ?_
     refine Wexit ?_
     refine qx ?_
     refine qx ?_
     refine be ?_
     refine qn ?_
     refine Wseq ?_
     refine Wreg ?_
     refine rs (v := .slice a2 j1.length q4) (mv (v := .slice a2 j1.length q4) rfl) rfl ?_
     refine rs (v := .slice a6 j5.length q8) (mv (v := .slice a6 j5.length q8) rfl) rfl ?_
     refine rs (v := .slice a2 j1.length q4) (av (v := .slice a2 j1.length q4) rfl) rfl ?_
     refine rs (v := .slice a6 j5.length q8) (av (v := .slice a6 j5.length q8) rfl) rfl ?_
     refine rn ?_
     refine qn ?_
     refine Wret ?_
     replace hc := hc.pull 3 rfl rfl
     replace hc := hc.pull 3 rfl rfl
     replace hc := hc.pull 3 rfl rfl
     replace hc := hc.pull 3 rfl rfl
     replace hc : Ctx w10 (S_ref24_Watch.hp b0 x0 :: Own (pInt .i64) 3 (.slice a2 j1.length q4) j1 :: Own (pInt .i64) 3 (.slice a6 j5.length q8) j5 :: Fr) := Ctx.exB _ _ (Ctx.exB _ _ (Ctx.exB _ _ (Ctx.sepB (Ctx.sepB (Ctx.sepB hc)))))
     replace hc := hc.pull 2 rfl rfl
     replace hc := hc.pull 2 rfl rfl
     injection hp with hp; subst hp
     refine f2 (v := .slice a2 j1.length q4) (u := .slice a6 j5.length q8) Try.results16 Try.ntmps16 rfl rfl ?_
     exact ⟨_, rfl, k _ _ _ _ _ _ _ hc⟩
   · replace hp := gpos hp (of_decide_eq_true hb25)
     refine Wct rfl ?_
     refine Wskip ?_
     refine qn ?_
     refine Wseqm [4, 5, 16, 17, 18, 19, 20, 21, 22, 23, 24, 25, 26, 27, 28, 29, 30, 31, 32, 33, 34, 35, 36, 37, 38, 39, 40, 41, 42, 43] [4, 5] (fun vs w' => ∃ j26 : (List Int), ∃ j30 : (List Int), ∃ a27 : Option Addr, ∃ n28 : Nat, ∃ q29 : Nat, ∃ a31 : Option Addr, ∃ n32 : Nat, ∃ q33 : Nat, vs = [.slice a27 n28 q29, .slice a31 n32 q33] ∧ ref24_Watch_Lists.J2 j9 (ref24_Watch_Lists.L1 x0 m1) j26 j30 = some r ∧ Ctx w' (S_ref24_Watch.hp b0 x0 :: Own (pInt .i64) 3 (.slice a27 n28 q29) j26 :: Own (pInt .i64) 3 (.slice a31 n32 q33) j30 :: Fr)) ?_ ?_
     · refine Wblk ?_
       refine Wseqm [16, 17, 18, 19, 20, 21, 22, 23] [23] (fun vs w' => ∃ j34 : Bool, vs = [.bool j34] ∧ ref24_Watch_Lists.J3 x0 j1 j5 j9 (ref24_Watch_Lists.L1 x0 m1) j34 = some r ∧ Ctx w' (S_ref24_Watch.hp b0 x0 :: Own (pInt .i64) 3 (.slice a2 j1.length q4) j1 :: Own (pInt .i64) 3 (.slice a6 j5.length q8) j5 :: Fr)) ?_ ?_
       · refine Wreg ?_
         refine rs (v := .pointer (some ⟨b0, 0, none⟩)) (mv (v := .pointer (some ⟨b0, 0, none⟩)) rfl) rfl ?_
         refine rs (v := .pointer (some ⟨b0, 0, none⟩)) (nl rfl) rfl ?_
         refine rs (v := .pointer (some ⟨b0, 2, none⟩)) (fax 2 rfl Try.underlying38 rfl Try.sizeOf35 rfl rfl rfl) rfl ?_
         refine rs (v := .slice a16 x0.Ready.length q17) (ld rfl Try.isAgg35 (Ctx.cell hc (k := 0) rfl rfl rfl)) rfl ?_
         refine rs (v := .int .i64 j9) (mv (v := .int .i64 j9) rfl) rfl ?_
         replace hp := bind_some hp; obtain ⟨y35, hy35, hp⟩ := hp
         obtain ⟨b38, o39, u40, hi36, hi37⟩ := Ctx.rdAt hc (k := 1) rfl rfl reads_own hy35
         subst u40
         refine rs (v := .pointer (some ⟨b38, o39 + (j9).toNat * 1, none⟩)) (ixx rfl rfl Try.underlying35 Try.sizeOf4 hi36 hi37 rfl) rfl ?_
         replace hc := Ctx.rdCell hc (k := 1) rfl rfl reads_own hy35; obtain ⟨cs41, hc, hcell42⟩ := hc
         replace hc := Ctx.holdC hc; obtain ⟨u43, hc⟩ := hc; subst u43
         refine rs (v := .bool y35) (ld rfl Try.isAgg4 (hcell42 0 _ rfl)) rfl ?_
         cases hb44 : y35
         · replace hp := gneg hp (by rw [hb44]; exact Bool.false_ne_true)
           subst hb44
           refine rs (v := .bool true) (ntf rfl) rfl ?_
           refine rn ?_
           refine qn ?_
           replace hc := hc.pull 3 rfl rfl
           replace hc := hc.pull 3 rfl rfl
           replace hc := hc.pull 3 rfl rfl
           replace hc := hc.pull 3 rfl rfl
           replace hc : Ctx w10 (S_ref24_Watch.hp b0 x0 :: Own (pInt .i64) 3 (.slice a2 j1.length q4) j1 :: Own (pInt .i64) 3 (.slice a6 j5.length q8) j5 :: Fr) := Ctx.exB _ _ (Ctx.exB _ _ (Ctx.exB _ _ (Ctx.sepB (Ctx.sepB (Ctx.sepB hc)))))
           exact ⟨⟨true, rfl, hp, hc⟩, (kl rfl kb)⟩
         · replace hp := gpos hp hb44
           subst hb44
           refine rs (v := .bool false) (ntt rfl) rfl ?_
           refine rn ?_
           refine qn ?_
           replace hc := hc.pull 3 rfl rfl
           replace hc := hc.pull 3 rfl rfl
           replace hc := hc.pull 3 rfl rfl
           replace hc := hc.pull 3 rfl rfl
           replace hc : Ctx w10 (S_ref24_Watch.hp b0 x0 :: Own (pInt .i64) 3 (.slice a2 j1.length q4) j1 :: Own (pInt .i64) 3 (.slice a6 j5.length q8) j5 :: Fr) := Ctx.exB _ _ (Ctx.exB _ _ (Ctx.exB _ _ (Ctx.sepB (Ctx.sepB (Ctx.sepB hc)))))
           exact ⟨⟨false, rfl, hp, hc⟩, (kl rfl kb)⟩
       · clear hp hc; intro vs u w45 hJ
         obtain ⟨j34, rfl, hp, hc⟩ := hJ
         unfold ref24_Watch_Lists.J3 at hp
         cases hb46 : j34
         · replace hp := gneg hp (by rw [hb46]; exact Bool.false_ne_true)
           subst hb46
           refine Wcf rfl ?_
           refine Wseq ?_
           replace hc := Ctx.exF hc; obtain ⟨v47, hc⟩ := hc
           replace hc := Ctx.exF hc; obtain ⟨v48, hc⟩ := hc
           replace hc := Ctx.exF hc; obtain ⟨v49, hc⟩ := hc
           replace hc := Ctx.sepF hc
           replace hc := Ctx.sepF hc
           replace hc := Ctx.sepF hc
           obtain ⟨a50, q51, u52⟩ := hc.rd (k := 1) rfl rfl reads_own; subst u52
           obtain ⟨a53, q54, u55⟩ := hc.rd (k := 2) rfl rfl reads_own; subst u55
           obtain ⟨a56, q57, u58⟩ := hc.rd (k := 3) rfl rfl reads_own; subst u58
           replace hc := hc.drew
           refine Wdrw (fun w' => Ctx w' (B b0 [.int .i64 x0.Patience, .int .i64 x0.Epoch, .slice a50 x0.Ready.length q51, .slice a53 x0.Life.length q54, .slice a56 x0.Since.length q57] 38 :: Own pBool 4 (.slice a50 x0.Ready.length q51) x0.Ready :: Own (pInt .i64) 3 (.slice a53 x0.Life.length q54) x0.Life :: Own (pInt .i64) 3 (.slice a56 x0.Since.length q57) x0.Since :: Own (pInt .i64) 3 (.slice a2 j1.length q4) j1 :: Own (pInt .i64) 3 (.slice a6 j5.length q8) j5 :: Fr)) [0, 1, 3, 7, 0, 31, 63, 0, 128, 384, 896, 2047] 0 rfl (by kernel_rfl) (hc) ?_
           generalize hw : World.drew w45 = w59 at *
           clear hw
           refine ds (v := .pointer (some ⟨b0, 0, none⟩)) (fun w' hF => mv (v := .pointer (some ⟨b0, 0, none⟩)) rfl) rfl ?_
           refine ds (v := .pointer (some ⟨b0, 0, none⟩)) (fun w' hF => nl rfl) rfl ?_
           refine ds (v := .pointer (some ⟨b0, 4, none⟩)) (fun w' hF => fax 4 rfl Try.underlying38 rfl Try.sizeOf36 rfl rfl rfl) rfl ?_
           refine ds (v := .slice a56 x0.Since.length q57) (fun w' hF => ld rfl Try.isAgg36 (Ctx.cell hF (k := 0) rfl rfl rfl)) rfl ?_
           refine ds (v := .int .i64 j9) (fun w' hF => mv (v := .int .i64 j9) rfl) rfl ?_
           replace hp := bind_some hp; obtain ⟨y60, hy60, hp⟩ := hp
           obtain ⟨b63, o64, u65, hi61, hi62⟩ := Ctx.rdAt hc (k := 3) rfl rfl reads_own hy60
           subst u65
           refine ds (v := .pointer (some ⟨b63, o64 + (j9).toNat * 1, none⟩)) (fun w' hF => ixx rfl rfl Try.underlying36 Try.sizeOf3 hi61 hi62 rfl) rfl ?_
           replace hc := Ctx.rdCell hc (k := 3) rfl rfl reads_own hy60; obtain ⟨cs66, hc, hcell67⟩ := hc
           replace hc := Ctx.holdC hc; obtain ⟨u68, hc⟩ := hc; subst u68
           refine ds (v := .int .i64 y60) (fun w' hF => ld rfl Try.isAgg3 ((by obtain ⟨cs, hc, hcell⟩ := Ctx.rdCell hF (k := 3) rfl rfl reads_own hy60; obtain ⟨u, hc⟩ := Ctx.holdC hc; subst u; exact hcell 0 _ rfl))) rfl ?_
           refine ds (v := .pointer (some ⟨b0, 0, none⟩)) (fun w' hF => mv (v := .pointer (some ⟨b0, 0, none⟩)) rfl) rfl ?_
           refine ds (v := .pointer (some ⟨b0, 0, none⟩)) (fun w' hF => nl rfl) rfl ?_
           refine ds (v := .pointer (some ⟨b0, 0, none⟩)) (fun w' hF => fax 0 rfl Try.underlying38 rfl Try.sizeOf3 rfl rfl rfl) rfl ?_
           refine ds (v := .int .i64 x0.Patience) (fun w' hF => ld rfl Try.isAgg3 (Ctx.cell hF (k := 0) rfl rfl rfl)) rfl ?_
           refine ds (v := .bool (decide (y60 ≥ x0.Patience))) (fun w' hF => ge' rfl rfl) rfl ?_
           refine dn ?_
           refine qn ?_
           cases hb69 : (decide (y60 ≥ x0.Patience))
           · replace hp := gneg hp (of_decide_eq_false hb69)
             refine Wcf rfl ?_
             refine Wskip ?_
             refine bn ?_
             refine qn ?_
             replace hc := hc.pull 3 rfl rfl
             replace hc := hc.pull 3 rfl rfl
             replace hc := hc.pull 3 rfl rfl
             replace hc := hc.pull 3 rfl rfl
             replace hc : Ctx w59 (S_ref24_Watch.hp b0 x0 :: Own (pInt .i64) 3 (.slice a2 j1.length q4) j1 :: Own (pInt .i64) 3 (.slice a6 j5.length q8) j5 :: Fr) := Ctx.exB _ _ (Ctx.exB _ _ (Ctx.exB _ _ (Ctx.sepB (Ctx.sepB (Ctx.sepB hc)))))
             exact ⟨⟨j1, j5, a2, j1.length, q4, a6, j5.length, q8, rfl, hp, hc⟩, (kl rfl (km rfl (kl rfl kb)))⟩
           · replace hp := gpos hp (of_decide_eq_true hb69)
             refine Wct rfl ?_
             refine Wreg ?_
             refine rs (v := .slice a6 j5.length q8) (mv (v := .slice a6 j5.length q8) rfl) rfl ?_
             refine rs (v := .int .i64 j9) (mv (v := .int .i64 j9) rfl) rfl ?_
             replace hc : Ctx w59 (Hold (pInt .i64) [.int .i64 j9] j9 :: B b0 [.int .i64 x0.Patience, .int .i64 x0.Epoch, .slice a50 x0.Ready.length q51, .slice a53 x0.Life.length q54, .slice (some ⟨b63, o64, none⟩) x0.Since.length q57] 38 :: Own pBool 4 (.slice a50 x0.Ready.length q51) x0.Ready :: Own (pInt .i64) 3 (.slice a53 x0.Life.length q54) x0.Life :: Own (pInt .i64) 3 (.slice (some ⟨b63, o64, none⟩) x0.Since.length q57) x0.Since :: Own (pInt .i64) 3 (.slice a2 j1.length q4) j1 :: Own (pInt .i64) 3 (.slice a6 j5.length q8) j5 :: Fr) := hc.add _ fun _ _ _ => ⟨rfl, rfl⟩
             refine rsE (Ctx.builtOp (css := [[.int .i64 j9]]) (xs := ([j9] : List Int)) (E := (pInt .i64)) hc Try.underlying36 Try.sizeOf3 Try.zeroValue3 rfl rfl rfl rfl rfl rfl rfl rfl) rfl ?_
             clear hc; rintro _ w71 ⟨a70, rfl, hc⟩
             replace hp := bind_some hp; obtain ⟨z72, hz72, hp⟩ := hp
             obtain ⟨hg73, e74⟩ := app_some hz72
             refine rsE (Ctx.append hc (k := 6) rfl rfl (k2 := 0) rfl rfl reads_own Try.underlying36 (i := Try.t3) rfl rfl rfl rfl rfl rfl rfl rfl hg73) rfl ?_
             clear hc; rintro _ w77 ⟨a75, q76, rfl, hc⟩
             rw [← e74] at hc ⊢
             refine rs (v := .slice a75 z72.length q76) (av (v := .slice a75 z72.length q76) rfl) rfl ?_
             refine rn ?_
             refine bn ?_
             refine qn ?_
             replace hc := hc.pull 4 rfl rfl
             replace hc := hc.pull 4 rfl rfl
             replace hc := hc.pull 4 rfl rfl
             replace hc := hc.pull 4 rfl rfl
             replace hc : Ctx w77 (S_ref24_Watch.hp b0 x0 :: Own (pInt .i64) 3 (.slice a70 1 1) ([j9]) :: Own (pInt .i64) 3 (.slice a2 j1.length q4) j1 :: Own (pInt .i64) 3 (.slice a75 z72.length q76) z72 :: Fr) := Ctx.exB _ _ (Ctx.exB _ _ (Ctx.exB _ _ (Ctx.sepB (Ctx.sepB (Ctx.sepB hc)))))
             replace hc := hc.rem 1 rfl rfl
             exact ⟨⟨j1, z72, a2, j1.length, q4, a75, z72.length, q76, rfl, hp, hc⟩, (kl rfl (km rfl (kl rfl kb)))⟩
         · replace hp := gpos hp hb46
           subst hb46
           refine Wct rfl ?_
           refine Wreg ?_
           refine rs (v := .slice a2 j1.length q4) (mv (v := .slice a2 j1.length q4) rfl) rfl ?_
           refine rs (v := .int .i64 j9) (mv (v := .int .i64 j9) rfl) rfl ?_
           replace hc : Ctx w45 (Hold (pInt .i64) [.int .i64 j9] j9 :: S_ref24_Watch.hp b0 x0 :: Own (pInt .i64) 3 (.slice a2 j1.length q4) j1 :: Own (pInt .i64) 3 (.slice a6 j5.length q8) j5 :: Fr) := hc.add _ fun _ _ _ => ⟨rfl, rfl⟩
           refine rsE (Ctx.builtOp (css := [[.int .i64 j9]]) (xs := ([j9] : List Int)) (E := (pInt .i64)) hc Try.underlying36 Try.sizeOf3 Try.zeroValue3 rfl rfl rfl rfl rfl rfl rfl rfl) rfl ?_
           clear hc; rintro _ w79 ⟨a78, rfl, hc⟩
           replace hp := bind_some hp; obtain ⟨z80, hz80, hp⟩ := hp
           obtain ⟨hg81, e82⟩ := app_some hz80
           refine rsE (Ctx.append hc (k := 2) rfl rfl (k2 := 0) rfl rfl reads_own Try.underlying36 (i := Try.t3) rfl rfl rfl rfl rfl rfl rfl rfl hg81) rfl ?_
           clear hc; rintro _ w85 ⟨a83, q84, rfl, hc⟩
           rw [← e82] at hc ⊢
           refine rs (v := .slice a83 z80.length q84) (av (v := .slice a83 z80.length q84) rfl) rfl ?_
           refine rn ?_
           refine bn ?_
           refine qn ?_
           replace hc := hc.rem 0 rfl rfl
           exact ⟨⟨z80, j5, a83, z80.length, q84, a6, j5.length, q8, rfl, hp, hc⟩, (kl rfl (km rfl (kl rfl kb)))⟩
     · clear hp hc; intro vs u w86 hJ
       obtain ⟨j26, j30, a27, n28, q29, a31, n32, q33, rfl, hp, hc⟩ := hJ
       obtain ⟨u87, _⟩ := Ctx.rdLen hc (k := 1) rfl rfl reads_own; subst u87
       obtain ⟨u88, _⟩ := Ctx.rdLen hc (k := 2) rfl rfl reads_own; subst u88
       unfold ref24_Watch_Lists.J2 at hp
       refine Wreg ?_
       refine rs (v := .int .i64 j9) (mv (v := .int .i64 j9) rfl) rfl ?_
       refine rs (v := .int .i64 (IntKind.i64.wrap (j9 + 1))) (adw rfl rfl) rfl ?_
       refine rs (v := .int .i64 (IntKind.i64.wrap (j9 + 1))) (av (v := .int .i64 (IntKind.i64.wrap (j9 + 1))) rfl) rfl ?_
       refine rn ?_
       refine qn ?_
       exact ⟨m1, Nat.lt_succ_self _, ⟨j26, j30, (IntKind.i64.wrap (j9 + 1)), a27, j26.length, q29, a31, j30.length, q33, rfl, hp, hc⟩, (kl rfl (km rfl (kl rfl k0)))⟩

-- FN (*peloton/pelotonref24.Watch).Tick
def ref24_Watch_Tick.L1 (N : Nat) : Nat → S_ref24_Watch → Int → Option (Bool × S_ref24_Watch)
  | 0, _, _ => none
  | m1 + 1, j1, j2 =>
    if j2 < ((j1.Since.length : Nat) : Int) then
      (idx j1.Since j2).bind fun y32 =>
      (idx j1.Since j2).bind fun y41 =>
      (ref24_Watch_Tick.L1 N m1) (⟨j1.Patience, j1.Epoch, j1.Ready, j1.Life, (j1.Since.set (j2).toNat (IntKind.i64.wrap (y32 + 1)))⟩ : S_ref24_Watch) (IntKind.i64.wrap (j2 + 1))
    else
      (ref24_Watch_Lists N j1).bind fun r17 =>
      if ((r17.1.length : Nat) : Int) > 0 then
        some (false, j1)
      else
        if ((r17.2.length : Nat) : Int) = 0 then
          some (false, j1)
        else
          (ref24_Watch_Bump N j1).bind fun r29 =>
          some (true, r29)

def ref24_Watch_Tick (N : Nat) (x0 : S_ref24_Watch) : Option (Bool × S_ref24_Watch) :=
  ref24_Watch_Tick.L1 N N x0 0

set_option maxHeartbeats 2000000 in
theorem ref24_Watch_Tick_any {N : Nat} {b0 : Nat} {x0 : S_ref24_Watch} {Fr : List HP} {w : World} {r : Bool × S_ref24_Watch} {K : Value → World → Prop}  (hc : Ctx w (S_ref24_Watch.hp b0 x0 :: Fr)) (hp : ref24_Watch_Tick N x0 = some r)
    (k : ∀ w', Ctx w' (S_ref24_Watch.hp b0 r.2 :: Fr) → K (.bool r.1) w') : Calls Try.prog 10 #[.pointer (some ⟨b0, 0, none⟩)] w (Ret K) := by
 unfold ref24_Watch_Tick at hp
 refine Center (args := [.pointer (some ⟨b0, 0, none⟩)]) (l := [(0, .pointer (some ⟨b0, 0, none⟩))]) Try.func10 Try.ntmps10 rfl rfl rfl ?_
 refine Wseq ?_
 refine Wreg ?_
 refine rs (v := .bool false) (av (v := .bool false) rfl) rfl ?_
 refine rn ?_
 refine qn ?_
 refine Wseq ?_
 refine Wseq ?_
 refine Wreg ?_
 refine rs (v := .int .i64 0) (av (v := .int .i64 0) rfl) rfl ?_
 refine rn ?_
 refine qn ?_
 refine Wblk ?_
 refine Wloop [3, 6, 7, 8, 9, 10, 11, 12, 13, 14, 15, 16, 17, 18, 19, 20, 21, 22, 23, 24, 25, 26, 27, 28] [3] (fun m vs w' => ∃ j1 : S_ref24_Watch, ∃ j2 : Int, vs = [.int .i64 j2] ∧ ref24_Watch_Tick.L1 N m j1 j2 = some r ∧ Ctx w' (S_ref24_Watch.hp b0 j1 :: Fr)) N ?_ ?_
 · exact ⟨x0, 0, rfl, hp, hc⟩
 · clear hp hc; intro m vs u w3 hJ
   obtain ⟨j1, j2, rfl, hp, hc⟩ := hJ
   rcases m with _ | m1
   · cases (show none = some r from hp)
   rw [ref24_Watch_Tick.L1] at hp
   refine Wseq ?_
   refine Wseq ?_
   refine Wreg ?_
   refine rs (v := .int .i64 j2) (mv (v := .int .i64 j2) rfl) rfl ?_
   refine rs (v := .pointer (some ⟨b0, 0, none⟩)) (mv (v := .pointer (some ⟨b0, 0, none⟩)) rfl) rfl ?_
   refine rs (v := .pointer (some ⟨b0, 0, none⟩)) (nl rfl) rfl ?_
   refine rs (v := .pointer (some ⟨b0, 4, none⟩)) (fax 4 rfl Try.underlying38 rfl Try.sizeOf36 rfl rfl rfl) rfl ?_
   replace hc := Ctx.exF hc; obtain ⟨v4, hc⟩ := hc
   replace hc := Ctx.exF hc; obtain ⟨v5, hc⟩ := hc
   replace hc := Ctx.exF hc; obtain ⟨v6, hc⟩ := hc
   replace hc := Ctx.sepF hc
   replace hc := Ctx.sepF hc
   replace hc := Ctx.sepF hc
   obtain ⟨a7, q8, u9⟩ := hc.rd (k := 1) rfl rfl reads_own; subst u9
   obtain ⟨a10, q11, u12⟩ := hc.rd (k := 2) rfl rfl reads_own; subst u12
   obtain ⟨a13, q14, u15⟩ := hc.rd (k := 3) rfl rfl reads_own; subst u15
   refine rs (v := .slice a13 j1.Since.length q14) (ld rfl Try.isAgg36 (Ctx.cell hc (k := 0) rfl rfl rfl)) rfl ?_
   refine rs (v := .int .i64 ((j1.Since.length : Nat) : Int)) (ln rfl Try.underlying36) rfl ?_
   refine rs (v := .bool (decide (j2 < ((j1.Since.length : Nat) : Int)))) (lt' rfl rfl) rfl ?_
   refine rn ?_
   refine qn ?_
   cases hb16 : (decide (j2 < ((j1.Since.length : Nat) : Int)))
   · replace hp := gneg hp (of_decide_eq_false hb16)
     refine Wcf rfl ?_
     refine Wexit ?_
     refine qx ?_
     refine qx ?_
     refine be ?_
     refine qn ?_
     refine Wseq ?_
     refine Wreg ?_
     refine rs (v := .pointer (some ⟨b0, 0, none⟩)) (mv (v := .pointer (some ⟨b0, 0, none⟩)) rfl) rfl ?_
     replace hc := hc.pull 3 rfl rfl
     replace hc := hc.pull 3 rfl rfl
     replace hc := hc.pull 3 rfl rfl
     replace hc := hc.pull 3 rfl rfl
     replace hc : Ctx w3 (S_ref24_Watch.hp b0 j1 :: Fr) := Ctx.exB _ _ (Ctx.exB _ _ (Ctx.exB _ _ (Ctx.sepB (Ctx.sepB (Ctx.sepB hc)))))
     replace hp := bind_some hp; obtain ⟨r17, hr17, hp⟩ := hp
     refine rc (cl Try.call16 rfl rfl) rfl ?_
     refine ref24_Watch_Lists_any hc hr17 ?_
     clear hc; intro a18 n19 q20 a21 n22 q23 w24 hc
     obtain ⟨u25, _⟩ := Ctx.rdLen hc (k := 0) rfl rfl reads_own; subst u25
     obtain ⟨u26, _⟩ := Ctx.rdLen hc (k := 1) rfl rfl reads_own; subst u26
     refine rs (v := .tuple #[.slice a18 r17.1.length q20, .slice a21 r17.2.length q23]) (mv (v := .tuple #[.slice a18 r17.1.length q20, .slice a21 r17.2.length q23]) rfl) rfl ?_
     refine rs (v := .slice a18 r17.1.length q20) (ext (v := .slice a18 r17.1.length q20) rfl rfl) rfl ?_
     refine rs (v := .slice a21 r17.2.length q23) (ext (v := .slice a21 r17.2.length q23) rfl rfl) rfl ?_
     refine rs (v := .slice a18 r17.1.length q20) (av (v := .slice a18 r17.1.length q20) rfl) rfl ?_
     refine rs (v := .slice a21 r17.2.length q23) (av (v := .slice a21 r17.2.length q23) rfl) rfl ?_
     refine rn ?_
     refine qn ?_
     refine Wseq ?_
     refine Wseq ?_
     refine Wreg ?_
     refine rs (v := .slice a18 r17.1.length q20) (mv (v := .slice a18 r17.1.length q20) rfl) rfl ?_
     refine rs (v := .int .i64 ((r17.1.length : Nat) : Int)) (ln rfl Try.underlying36) rfl ?_
     refine rs (v := .bool (decide (((r17.1.length : Nat) : Int) > 0))) (gt' rfl rfl) rfl ?_
     refine rs (v := .bool (decide (((r17.1.length : Nat) : Int) > 0))) (mv (v := .bool (decide (((r17.1.length : Nat) : Int) > 0))) rfl) rfl ?_
     cases hb27 : (decide (((r17.1.length : Nat) : Int) > 0))
     · replace hp := gneg hp (of_decide_eq_false hb27)
       refine rs (v := .slice a21 r17.2.length q23) (mv (v := .slice a21 r17.2.length q23) rfl) rfl ?_
       refine rs (v := .int .i64 ((r17.2.length : Nat) : Int)) (ln rfl Try.underlying36) rfl ?_
       refine rs (v := .bool (decide (((r17.2.length : Nat) : Int) = 0))) (eqd rfl rfl) rfl ?_
       refine rs (v := .bool (decide (((r17.2.length : Nat) : Int) = 0))) (pkf (v := .bool (decide (((r17.2.length : Nat) : Int) = 0))) rfl rfl) rfl ?_
       refine rn ?_
       refine qn ?_
       cases hb28 : (decide (((r17.2.length : Nat) : Int) = 0))
       · replace hp := gneg hp (of_decide_eq_false hb28)
         refine Wcf rfl ?_
         refine Wskip ?_
         refine qn ?_
         refine Wseq ?_
         refine Wreg ?_
         refine rs (v := .pointer (some ⟨b0, 0, none⟩)) (mv (v := .pointer (some ⟨b0, 0, none⟩)) rfl) rfl ?_
         replace hp := bind_some hp; obtain ⟨r29, hr29, hp⟩ := hp
         replace hc := hc.pull 2 rfl rfl
         refine rc (cl Try.call14 rfl rfl) rfl ?_
         refine ref24_Watch_Bump_any hc hr29 ?_
         clear hc; intro w30 hc
         refine rn ?_
         refine qn ?_
         refine Wseq ?_
         refine Wreg ?_
         refine rs (v := .bool true) (av (v := .bool true) rfl) rfl ?_
         refine rn ?_
         refine qn ?_
         refine Wret ?_
         replace hc := hc.rem 2 rfl rfl
         replace hc := hc.rem 1 rfl rfl
         injection hp with hp; subst hp
         refine f1 (v := .bool true) Try.results10 Try.ntmps10 rfl ?_
         exact ⟨_, rfl, k _ hc⟩
       · replace hp := gpos hp (of_decide_eq_true hb28)
         refine Wct rfl ?_
         refine Wseq ?_
         refine Wreg ?_
         refine rs (v := .bool false) (av (v := .bool false) rfl) rfl ?_
         refine rn ?_
         refine qn ?_
         refine Wret ?_
         refine qr ?_
         replace hc := hc.rem 1 rfl rfl
         replace hc := hc.rem 0 rfl rfl
         injection hp with hp; subst hp
         refine f1 (v := .bool false) Try.results10 Try.ntmps10 rfl ?_
         exact ⟨_, rfl, k _ hc⟩
     · replace hp := gpos hp (of_decide_eq_true hb27)
       refine r0 rfl ?_
       refine r0 rfl ?_
       refine r0 rfl ?_
       refine rs (v := .bool true) (pkt (v := .bool true) rfl rfl) rfl ?_
       refine rn ?_
       refine qn ?_
       refine Wct rfl ?_
       refine Wseq ?_
       refine Wreg ?_
       refine rs (v := .bool false) (av (v := .bool false) rfl) rfl ?_
       refine rn ?_
       refine qn ?_
       refine Wret ?_
       refine qr ?_
       replace hc := hc.rem 1 rfl rfl
       replace hc := hc.rem 0 rfl rfl
       injection hp with hp; subst hp
       refine f1 (v := .bool false) Try.results10 Try.ntmps10 rfl ?_
       exact ⟨_, rfl, k _ hc⟩
   · replace hp := gpos hp (of_decide_eq_true hb16)
     refine Wct rfl ?_
     refine Wskip ?_
     refine qn ?_
     refine Wseq ?_
     refine Wblk ?_
     replace hc := hc.drew
     refine Wdrw (fun w' => True) [0, 1, 3, 7, 0, 0, 32, 96, 224, 0, 992, 2016, 4064, 8191, 16383] 2312 rfl (by kernel_rfl) (trivial) ?_
     generalize hw : World.drew w3 = w31 at *
     clear hw
     refine ds (v := .pointer (some ⟨b0, 0, none⟩)) (fun w' hF => mv (v := .pointer (some ⟨b0, 0, none⟩)) rfl) rfl ?_
     refine ds (v := .pointer (some ⟨b0, 0, none⟩)) (fun w' hF => nl rfl) rfl ?_
     refine ds (v := .pointer (some ⟨b0, 4, none⟩)) (fun w' hF => fax 4 rfl Try.underlying38 rfl Try.sizeOf36 rfl rfl rfl) rfl ?_
     refine dx (v := .slice a13 j1.Since.length q14) (ld rfl Try.isAgg36 (Ctx.cell hc (k := 0) rfl rfl rfl)) rfl rfl ?_
     refine ds (v := .int .i64 j2) (fun w' hF => mv (v := .int .i64 j2) rfl) rfl ?_
     refine ds (v := .pointer (some ⟨b0, 0, none⟩)) (fun w' hF => mv (v := .pointer (some ⟨b0, 0, none⟩)) rfl) rfl ?_
     refine ds (v := .pointer (some ⟨b0, 0, none⟩)) (fun w' hF => nl rfl) rfl ?_
     refine ds (v := .pointer (some ⟨b0, 4, none⟩)) (fun w' hF => fax 4 rfl Try.underlying38 rfl Try.sizeOf36 rfl rfl rfl) rfl ?_
     refine dx (v := .slice a13 j1.Since.length q14) (ld rfl Try.isAgg36 (Ctx.cell hc (k := 0) rfl rfl rfl)) rfl rfl ?_
     refine ds (v := .int .i64 j2) (fun w' hF => mv (v := .int .i64 j2) rfl) rfl ?_
     replace hp := bind_some hp; obtain ⟨y32, hy32, hp⟩ := hp
     obtain ⟨b35, o36, u37, hi33, hi34⟩ := Ctx.rdAt hc (k := 3) rfl rfl reads_own hy32
     subst u37
     refine ds (v := .pointer (some ⟨b35, o36 + (j2).toNat * 1, none⟩)) (fun w' hF => ixx rfl rfl Try.underlying36 Try.sizeOf3 hi33 hi34 rfl) rfl ?_
     replace hc := Ctx.rdCell hc (k := 3) rfl rfl reads_own hy32; obtain ⟨cs38, hc, hcell39⟩ := hc
     replace hc := Ctx.holdC hc; obtain ⟨u40, hc⟩ := hc; subst u40
     refine dx (v := .int .i64 y32) (ld rfl Try.isAgg3 (hcell39 0 _ rfl)) rfl rfl ?_
     refine ds (v := .int .i64 (IntKind.i64.wrap (y32 + 1))) (fun w' hF => adw rfl rfl) rfl ?_
     replace hp := bind_some hp; obtain ⟨y41, hy41, hp⟩ := hp
     obtain ⟨b44, o45, u46, hi42, hi43⟩ := Ctx.rdAt hc (k := 3) rfl rfl reads_own hy41
     clear u46
     refine ds (v := .pointer (some ⟨b35, o36 + (j2).toNat * 1, none⟩)) (fun w' hF => ixx rfl rfl Try.underlying36 Try.sizeOf3 hi42 hi43 rfl) rfl ?_
     refine duE (A := fun w' => Ctx w' (B b0 [.int .i64 j1.Patience, .int .i64 j1.Epoch, .slice a7 j1.Ready.length q8, .slice a10 j1.Life.length q11, .slice (some ⟨b35, o36, none⟩) j1.Since.length q14] 38 :: Own pBool 4 (.slice a7 j1.Ready.length q8) j1.Ready :: Own (pInt .i64) 3 (.slice a10 j1.Life.length q11) j1.Life :: Own (pInt .i64) 3 (.slice (some ⟨b35, o36, none⟩) j1.Since.length q14) (j1.Since.set (j2).toNat (IntKind.i64.wrap (y32 + 1))) :: Fr)) (Ctx.ownPutOp hc (k := 3) rfl rfl (z := y41) (z' := (IntKind.i64.wrap (y32 + 1))) hy41 0 rfl (u := .int .i64 (IntKind.i64.wrap (y32 + 1))) rfl rfl rfl Try.sizeOf3 (fun _ _ _ h => by cases h; rfl) rfl) rfl rfl ?_
     clear hc; rintro w47 hc
     refine ⟨trivial, ?_⟩
     refine dn ?_
     refine bn ?_
     refine qn ?_
     refine Wreg ?_
     refine rs (v := .int .i64 j2) (mv (v := .int .i64 j2) rfl) rfl ?_
     refine rs (v := .int .i64 (IntKind.i64.wrap (j2 + 1))) (adw rfl rfl) rfl ?_
     refine rs (v := .int .i64 (IntKind.i64.wrap (j2 + 1))) (av (v := .int .i64 (IntKind.i64.wrap (j2 + 1))) rfl) rfl ?_
     refine rn ?_
     refine qn ?_
     replace hc := hc.pull 3 rfl rfl
     replace hc := hc.pull 3 rfl rfl
     replace hc := hc.pull 3 rfl rfl
     replace hc := hc.pull 3 rfl rfl
     replace hc : Ctx w47 (S_ref24_Watch.hp b0 (⟨j1.Patience, j1.Epoch, j1.Ready, j1.Life, (j1.Since.set (j2).toNat (IntKind.i64.wrap (y32 + 1)))⟩ : S_ref24_Watch) :: Fr) := Ctx.exB _ _ (Ctx.exB _ _ (Ctx.exB _ _ (Ctx.sepB (Ctx.sepB (Ctx.sepB hc)))))
     exact ⟨m1, Nat.lt_succ_self _, ⟨(⟨j1.Patience, j1.Epoch, j1.Ready, j1.Life, (j1.Since.set (j2).toNat (IntKind.i64.wrap (y32 + 1)))⟩ : S_ref24_Watch), (IntKind.i64.wrap (j2 + 1)), rfl, hp, hc⟩, (kl rfl k0)⟩

-- FN (*peloton/pelotonref24.Watch).Hear
def ref24_Watch_Hear.J3 (x0 : S_ref24_Watch) (x2 : Int) (j77 : Bool) : Option (Bool × S_ref24_Watch) :=
  if j77 = true then
    (idx x0.Since x2).bind fun y102 =>
    some (false, (⟨x0.Patience, x0.Epoch, x0.Ready, x0.Life, (x0.Since.set (x2).toNat 0)⟩ : S_ref24_Watch))
  else
    some (false, x0)

def ref24_Watch_Hear.J2 (N : Nat) (x0 : S_ref24_Watch) (x2 : Int) (x3 : Int) (x4 : Int) (j30 : Bool) : Option (Bool × S_ref24_Watch) :=
  if j30 = true then
    (idx x0.Ready x2).bind fun y123 =>
    (idx x0.Life x2).bind fun y130 =>
    (idx x0.Since x2).bind fun y137 =>
    some (false, (⟨x0.Patience, x0.Epoch, (x0.Ready.set (x2).toNat true), (x0.Life.set (x2).toNat x4), (x0.Since.set (x2).toNat 0)⟩ : S_ref24_Watch))
  else
    (idx x0.Life x2).bind fun y67 =>
    if x4 > y67 then
      (ref24_Watch_Bump N x0).bind fun r109 =>
      some (true, r109)
    else
      if x3 = x0.Epoch then
        (idx x0.Life x2).bind fun y79 =>
        ref24_Watch_Hear.J3 x0 x2 (decide (x4 = y79))
      else
        ref24_Watch_Hear.J3 x0 x2 false

def ref24_Watch_Hear.J1 (N : Nat) (x0 : S_ref24_Watch) (x2 : Int) (x3 : Int) (x4 : Int) (j1 : Bool) : Option (Bool × S_ref24_Watch) :=
  if j1 = true then
    some (false, x0)
  else
    (idx x0.Ready x2).bind fun y43 =>
    if y43 = true then
      ref24_Watch_Hear.J2 N x0 x2 x3 x4 false
    else
      ref24_Watch_Hear.J2 N x0 x2 x3 x4 true

def ref24_Watch_Hear (N : Nat) (x0 : S_ref24_Watch) (x1 : Bool) (x2 : Int) (x3 : Int) (x4 : Int) : Option (Bool × S_ref24_Watch) :=
  if x2 < 0 then
    ref24_Watch_Hear.J1 N x0 x2 x3 x4 true
  else
    if x2 ≥ ((x0.Ready.length : Nat) : Int) then
      ref24_Watch_Hear.J1 N x0 x2 x3 x4 true
    else
      if x1 = true then
        if x3 ≠ x0.Epoch then
          ref24_Watch_Hear.J1 N x0 x2 x3 x4 true
        else
          ref24_Watch_Hear.J1 N x0 x2 x3 x4 false
      else
        (idx x0.Ready x2).bind fun y17 =>
        if y17 = true then
          ref24_Watch_Hear.J1 N x0 x2 x3 x4 false
        else
          ref24_Watch_Hear.J1 N x0 x2 x3 x4 true

set_option maxHeartbeats 2000000 in
theorem ref24_Watch_Hear_any {N : Nat} {b0 : Nat} {x0 : S_ref24_Watch} {x1 : Bool} {x2 : Int} {x3 : Int} {x4 : Int} {Fr : List HP} {w : World} {r : Bool × S_ref24_Watch} {K : Value → World → Prop}  (hc : Ctx w (S_ref24_Watch.hp b0 x0 :: Fr)) (hp : ref24_Watch_Hear N x0 x1 x2 x3 x4 = some r)
    (k : ∀ w', Ctx w' (S_ref24_Watch.hp b0 r.2 :: Fr) → K (.bool r.1) w') : Calls Try.prog 12 #[.pointer (some ⟨b0, 0, none⟩), .bool x1, .int .i64 x2, .int .i64 x3, .int .i64 x4] w (Ret K) := by
 unfold ref24_Watch_Hear at hp
 refine Center (args := [.pointer (some ⟨b0, 0, none⟩), .bool x1, .int .i64 x2, .int .i64 x3, .int .i64 x4]) (l := [(0, .pointer (some ⟨b0, 0, none⟩)), (1, .bool x1), (2, .int .i64 x2), (3, .int .i64 x3), (4, .int .i64 x4)]) Try.func12 Try.ntmps12 rfl rfl rfl ?_
 refine Wseq ?_
 refine Wreg ?_
 refine rs (v := .bool false) (av (v := .bool false) rfl) rfl ?_
 refine rn ?_
 refine qn ?_
 refine Wseq ?_
 refine Wseqm [11, 12, 13, 14, 15, 16, 17, 18, 19, 20, 21, 22, 23, 24, 25, 26, 27, 28, 29, 30, 31, 32, 33, 34, 35, 36, 37, 38, 39, 40, 41, 42, 43, 44, 45, 46] [46] (fun vs w' => ∃ j1 : Bool, vs = [.bool j1] ∧ ref24_Watch_Hear.J1 N x0 x2 x3 x4 j1 = some r ∧ Ctx w' (S_ref24_Watch.hp b0 x0 :: Fr)) ?_ ?_
 · refine Wreg ?_
   refine rs (v := .int .i64 x2) (mv (v := .int .i64 x2) rfl) rfl ?_
   refine rs (v := .bool (decide (x2 < 0))) (lt' rfl rfl) rfl ?_
   refine rs (v := .bool (decide (x2 < 0))) (mv (v := .bool (decide (x2 < 0))) rfl) rfl ?_
   cases hb2 : (decide (x2 < 0))
   · replace hp := gneg hp (of_decide_eq_false hb2)
     refine rs (v := .int .i64 x2) (mv (v := .int .i64 x2) rfl) rfl ?_
     refine rs (v := .pointer (some ⟨b0, 0, none⟩)) (mv (v := .pointer (some ⟨b0, 0, none⟩)) rfl) rfl ?_
     refine rs (v := .pointer (some ⟨b0, 0, none⟩)) (nl rfl) rfl ?_
     refine rs (v := .pointer (some ⟨b0, 2, none⟩)) (fax 2 rfl Try.underlying38 rfl Try.sizeOf35 rfl rfl rfl) rfl ?_
     replace hc := Ctx.exF hc; obtain ⟨v3, hc⟩ := hc
     replace hc := Ctx.exF hc; obtain ⟨v4, hc⟩ := hc
     replace hc := Ctx.exF hc; obtain ⟨v5, hc⟩ := hc
     replace hc := Ctx.sepF hc
     replace hc := Ctx.sepF hc
     replace hc := Ctx.sepF hc
     obtain ⟨a6, q7, u8⟩ := hc.rd (k := 1) rfl rfl reads_own; subst u8
     obtain ⟨a9, q10, u11⟩ := hc.rd (k := 2) rfl rfl reads_own; subst u11
     obtain ⟨a12, q13, u14⟩ := hc.rd (k := 3) rfl rfl reads_own; subst u14
     refine rs (v := .slice a6 x0.Ready.length q7) (ld rfl Try.isAgg35 (Ctx.cell hc (k := 0) rfl rfl rfl)) rfl ?_
     refine rs (v := .int .i64 ((x0.Ready.length : Nat) : Int)) (ln rfl Try.underlying35) rfl ?_
     refine rs (v := .bool (decide (x2 ≥ ((x0.Ready.length : Nat) : Int)))) (ge' rfl rfl) rfl ?_
     refine rs (v := .bool (decide (x2 ≥ ((x0.Ready.length : Nat) : Int)))) (pkf (v := .bool (decide (x2 ≥ ((x0.Ready.length : Nat) : Int)))) rfl rfl) rfl ?_
     refine rs (v := .bool (decide (x2 ≥ ((x0.Ready.length : Nat) : Int)))) (mv (v := .bool (decide (x2 ≥ ((x0.Ready.length : Nat) : Int)))) rfl) rfl ?_
     cases hb15 : (decide (x2 ≥ ((x0.Ready.length : Nat) : Int)))
     · replace hp := gneg hp (of_decide_eq_false hb15)
       refine rs (v := .bool x1) (mv (v := .bool x1) rfl) rfl ?_
       refine rs (v := .bool x1) (mv (v := .bool x1) rfl) rfl ?_
       cases hb16 : x1
       · replace hp := gneg hp (by rw [hb16]; exact Bool.false_ne_true)
         subst hb16
         refine r0 rfl ?_
         refine r0 rfl ?_
         refine r0 rfl ?_
         refine r0 rfl ?_
         refine r0 rfl ?_
         refine r0 rfl ?_
         refine rs (v := .bool false) (pkf (v := .bool false) rfl rfl) rfl ?_
         refine rs (v := .bool false) (pkf (v := .bool false) rfl rfl) rfl ?_
         refine rs (v := .bool false) (mv (v := .bool false) rfl) rfl ?_
         refine rs (v := .bool false) (mv (v := .bool false) rfl) rfl ?_
         refine rs (v := .bool true) (ntf rfl) rfl ?_
         refine rs (v := .bool true) (mv (v := .bool true) rfl) rfl ?_
         refine rs (v := .pointer (some ⟨b0, 0, none⟩)) (mv (v := .pointer (some ⟨b0, 0, none⟩)) rfl) rfl ?_
         refine rs (v := .pointer (some ⟨b0, 0, none⟩)) (nl rfl) rfl ?_
         refine rs (v := .pointer (some ⟨b0, 2, none⟩)) (fax 2 rfl Try.underlying38 rfl Try.sizeOf35 rfl rfl rfl) rfl ?_
         refine rs (v := .slice a6 x0.Ready.length q7) (ld rfl Try.isAgg35 (Ctx.cell hc (k := 0) rfl rfl rfl)) rfl ?_
         refine rs (v := .int .i64 x2) (mv (v := .int .i64 x2) rfl) rfl ?_
         replace hp := bind_some hp; obtain ⟨y17, hy17, hp⟩ := hp
         obtain ⟨b20, o21, u22, hi18, hi19⟩ := Ctx.rdAt hc (k := 1) rfl rfl reads_own hy17
         subst u22
         refine rs (v := .pointer (some ⟨b20, o21 + (x2).toNat * 1, none⟩)) (ixx rfl rfl Try.underlying35 Try.sizeOf4 hi18 hi19 rfl) rfl ?_
         replace hc := Ctx.rdCell hc (k := 1) rfl rfl reads_own hy17; obtain ⟨cs23, hc, hcell24⟩ := hc
         replace hc := Ctx.holdC hc; obtain ⟨u25, hc⟩ := hc; subst u25
         refine rs (v := .bool y17) (ld rfl Try.isAgg4 (hcell24 0 _ rfl)) rfl ?_
         cases hb26 : y17
         · replace hp := gneg hp (by rw [hb26]; exact Bool.false_ne_true)
           subst hb26
           refine rs (v := .bool true) (ntf rfl) rfl ?_
           refine rs (v := .bool true) (pkt (v := .bool true) rfl rfl) rfl ?_
           refine rs (v := .bool true) (pkf (v := .bool true) rfl rfl) rfl ?_
           refine rn ?_
           refine qn ?_
           replace hc := hc.pull 3 rfl rfl
           replace hc := hc.pull 3 rfl rfl
           replace hc := hc.pull 3 rfl rfl
           replace hc := hc.pull 3 rfl rfl
           replace hc : Ctx w (S_ref24_Watch.hp b0 x0 :: Fr) := Ctx.exB _ _ (Ctx.exB _ _ (Ctx.exB _ _ (Ctx.sepB (Ctx.sepB (Ctx.sepB hc)))))
           exact ⟨⟨true, rfl, hp, hc⟩, (kl rfl kb)⟩
         · replace hp := gpos hp hb26
           subst hb26
           refine rs (v := .bool false) (ntt rfl) rfl ?_
           refine rs (v := .bool false) (pkt (v := .bool false) rfl rfl) rfl ?_
           refine rs (v := .bool false) (pkf (v := .bool false) rfl rfl) rfl ?_
           refine rn ?_
           refine qn ?_
           replace hc := hc.pull 3 rfl rfl
           replace hc := hc.pull 3 rfl rfl
           replace hc := hc.pull 3 rfl rfl
           replace hc := hc.pull 3 rfl rfl
           replace hc : Ctx w (S_ref24_Watch.hp b0 x0 :: Fr) := Ctx.exB _ _ (Ctx.exB _ _ (Ctx.exB _ _ (Ctx.sepB (Ctx.sepB (Ctx.sepB hc)))))
           exact ⟨⟨false, rfl, hp, hc⟩, (kl rfl kb)⟩
       · replace hp := gpos hp hb16
         subst hb16
         refine rs (v := .int .i64 x3) (mv (v := .int .i64 x3) rfl) rfl ?_
         refine rs (v := .pointer (some ⟨b0, 0, none⟩)) (mv (v := .pointer (some ⟨b0, 0, none⟩)) rfl) rfl ?_
         refine rs (v := .pointer (some ⟨b0, 0, none⟩)) (nl rfl) rfl ?_
         refine rs (v := .pointer (some ⟨b0, 1, none⟩)) (fax 1 rfl Try.underlying38 rfl Try.sizeOf3 rfl rfl rfl) rfl ?_
         refine rs (v := .int .i64 x0.Epoch) (ld rfl Try.isAgg3 (Ctx.cell hc (k := 0) rfl rfl rfl)) rfl ?_
         refine rs (v := .bool (decide (x3 ≠ x0.Epoch))) (ned rfl rfl) rfl ?_
         refine rs (v := .bool (decide (x3 ≠ x0.Epoch))) (pkt (v := .bool (decide (x3 ≠ x0.Epoch))) rfl rfl) rfl ?_
         refine rs (v := .bool (decide (x3 ≠ x0.Epoch))) (pkf (v := .bool (decide (x3 ≠ x0.Epoch))) rfl rfl) rfl ?_
         refine rs (v := .bool (decide (x3 ≠ x0.Epoch))) (mv (v := .bool (decide (x3 ≠ x0.Epoch))) rfl) rfl ?_
         cases hb27 : (decide (x3 ≠ x0.Epoch))
         · replace hp := gneg hp (of_decide_eq_false hb27)
           refine rs (v := .bool true) (mv (v := .bool true) rfl) rfl ?_
           refine rs (v := .bool false) (ntt rfl) rfl ?_
           refine rs (v := .bool false) (mv (v := .bool false) rfl) rfl ?_
           refine r0 rfl ?_
           refine r0 rfl ?_
           refine r0 rfl ?_
           refine r0 rfl ?_
           refine r0 rfl ?_
           refine r0 rfl ?_
           refine r0 rfl ?_
           refine r0 rfl ?_
           refine rs (v := .bool false) (pkf (v := .bool false) rfl rfl) rfl ?_
           refine rs (v := .bool false) (pkf (v := .bool false) rfl rfl) rfl ?_
           refine rn ?_
           refine qn ?_
           replace hc := hc.pull 3 rfl rfl
           replace hc := hc.pull 3 rfl rfl
           replace hc := hc.pull 3 rfl rfl
           replace hc := hc.pull 3 rfl rfl
           replace hc : Ctx w (S_ref24_Watch.hp b0 x0 :: Fr) := Ctx.exB _ _ (Ctx.exB _ _ (Ctx.exB _ _ (Ctx.sepB (Ctx.sepB (Ctx.sepB hc)))))
           exact ⟨⟨false, rfl, hp, hc⟩, (kl rfl kb)⟩
         · replace hp := gpos hp (of_decide_eq_true hb27)
           refine r0 rfl ?_
           refine r0 rfl ?_
           refine r0 rfl ?_
           refine r0 rfl ?_
           refine r0 rfl ?_
           refine r0 rfl ?_
           refine r0 rfl ?_
           refine r0 rfl ?_
           refine r0 rfl ?_
           refine r0 rfl ?_
           refine r0 rfl ?_
           refine r0 rfl ?_
           refine rs (v := .bool true) (pkt (v := .bool true) rfl rfl) rfl ?_
           refine rn ?_
           refine qn ?_
           replace hc := hc.pull 3 rfl rfl
           replace hc := hc.pull 3 rfl rfl
           replace hc := hc.pull 3 rfl rfl
           replace hc := hc.pull 3 rfl rfl
           replace hc : Ctx w (S_ref24_Watch.hp b0 x0 :: Fr) := Ctx.exB _ _ (Ctx.exB _ _ (Ctx.exB _ _ (Ctx.sepB (Ctx.sepB (Ctx.sepB hc)))))
           exact ⟨⟨true, rfl, hp, hc⟩, (kl rfl kb)⟩
     · replace hp := gpos hp (of_decide_eq_true hb15)
       refine r0 rfl ?_
       refine r0 rfl ?_
       refine r0 rfl ?_
       refine r0 rfl ?_
       refine r0 rfl ?_
       refine r0 rfl ?_
       refine r0 rfl ?_
       refine r0 rfl ?_
       refine r0 rfl ?_
       refine rs (v := .bool true) (pkt (v := .bool true) rfl rfl) rfl ?_
       refine rs (v := .bool true) (mv (v := .bool true) rfl) rfl ?_
       refine r0 rfl ?_
       refine r0 rfl ?_
       refine r0 rfl ?_
       refine r0 rfl ?_
       refine r0 rfl ?_
       refine r0 rfl ?_
       refine r0 rfl ?_
       refine r0 rfl ?_
       refine r0 rfl ?_
       refine r0 rfl ?_
       refine r0 rfl ?_
       refine r0 rfl ?_
       refine rs (v := .bool true) (pkt (v := .bool true) rfl rfl) rfl ?_
       refine rn ?_
       refine qn ?_
       replace hc := hc.pull 3 rfl rfl
       replace hc := hc.pull 3 rfl rfl
       replace hc := hc.pull 3 rfl rfl
       replace hc := hc.pull 3 rfl rfl
       replace hc : Ctx w (S_ref24_Watch.hp b0 x0 :: Fr) := Ctx.exB _ _ (Ctx.exB _ _ (Ctx.exB _ _ (Ctx.sepB (Ctx.sepB (Ctx.sepB hc)))))
       exact ⟨⟨true, rfl, hp, hc⟩, (kl rfl kb)⟩
   · replace hp := gpos hp (of_decide_eq_true hb2)
     refine r0 rfl ?_
     refine r0 rfl ?_
     refine r0 rfl ?_
     refine r0 rfl ?_
     refine r0 rfl ?_
     refine r0 rfl ?_
     refine r0 rfl ?_
     refine rs (v := .bool true) (pkt (v := .bool true) rfl rfl) rfl ?_
     refine rs (v := .bool true) (mv (v := .bool true) rfl) rfl ?_
     refine r0 rfl ?_
     refine r0 rfl ?_
     refine r0 rfl ?_
     refine r0 rfl ?_
     refine r0 rfl ?_
     refine r0 rfl ?_
     refine r0 rfl ?_
     refine r0 rfl ?_
     refine r0 rfl ?_
     refine rs (v := .bool true) (pkt (v := .bool true) rfl rfl) rfl ?_
     refine rs (v := .bool true) (mv (v := .bool true) rfl) rfl ?_
     refine r0 rfl ?_
     refine r0 rfl ?_
     refine r0 rfl ?_
     refine r0 rfl ?_
     refine r0 rfl ?_
     refine r0 rfl ?_
     refine r0 rfl ?_
     refine r0 rfl ?_
     refine r0 rfl ?_
     refine r0 rfl ?_
     refine r0 rfl ?_
     refine r0 rfl ?_
     refine rs (v := .bool true) (pkt (v := .bool true) rfl rfl) rfl ?_
     refine rn ?_
     refine qn ?_
     exact ⟨⟨true, rfl, hp, hc⟩, (kl rfl kb)⟩
 · clear hp hc; intro vs u w28 hJ
   obtain ⟨j1, rfl, hp, hc⟩ := hJ
   unfold ref24_Watch_Hear.J1 at hp
   cases hb29 : j1
   · replace hp := gneg hp (by rw [hb29]; exact Bool.false_ne_true)
     subst hb29
     refine Wcf rfl ?_
     refine Wskip ?_
     refine qn ?_
     refine Wseq ?_
     refine Wseqm [47, 48, 49, 50, 51, 52, 53, 54] [54] (fun vs w' => ∃ j30 : Bool, vs = [.bool j30] ∧ ref24_Watch_Hear.J2 N x0 x2 x3 x4 j30 = some r ∧ Ctx w' (S_ref24_Watch.hp b0 x0 :: Fr)) ?_ ?_
     · refine Wreg ?_
       refine rs (v := .pointer (some ⟨b0, 0, none⟩)) (mv (v := .pointer (some ⟨b0, 0, none⟩)) rfl) rfl ?_
       refine rs (v := .pointer (some ⟨b0, 0, none⟩)) (nl rfl) rfl ?_
       refine rs (v := .pointer (some ⟨b0, 2, none⟩)) (fax 2 rfl Try.underlying38 rfl Try.sizeOf35 rfl rfl rfl) rfl ?_
       replace hc := Ctx.exF hc; obtain ⟨v31, hc⟩ := hc
       replace hc := Ctx.exF hc; obtain ⟨v32, hc⟩ := hc
       replace hc := Ctx.exF hc; obtain ⟨v33, hc⟩ := hc
       replace hc := Ctx.sepF hc
       replace hc := Ctx.sepF hc
       replace hc := Ctx.sepF hc
       obtain ⟨a34, q35, u36⟩ := hc.rd (k := 1) rfl rfl reads_own; subst u36
       obtain ⟨a37, q38, u39⟩ := hc.rd (k := 2) rfl rfl reads_own; subst u39
       obtain ⟨a40, q41, u42⟩ := hc.rd (k := 3) rfl rfl reads_own; subst u42
       refine rs (v := .slice a34 x0.Ready.length q35) (ld rfl Try.isAgg35 (Ctx.cell hc (k := 0) rfl rfl rfl)) rfl ?_
       refine rs (v := .int .i64 x2) (mv (v := .int .i64 x2) rfl) rfl ?_
       replace hp := bind_some hp; obtain ⟨y43, hy43, hp⟩ := hp
       obtain ⟨b46, o47, u48, hi44, hi45⟩ := Ctx.rdAt hc (k := 1) rfl rfl reads_own hy43
       subst u48
       refine rs (v := .pointer (some ⟨b46, o47 + (x2).toNat * 1, none⟩)) (ixx rfl rfl Try.underlying35 Try.sizeOf4 hi44 hi45 rfl) rfl ?_
       replace hc := Ctx.rdCell hc (k := 1) rfl rfl reads_own hy43; obtain ⟨cs49, hc, hcell50⟩ := hc
       replace hc := Ctx.holdC hc; obtain ⟨u51, hc⟩ := hc; subst u51
       refine rs (v := .bool y43) (ld rfl Try.isAgg4 (hcell50 0 _ rfl)) rfl ?_
       cases hb52 : y43
       · replace hp := gneg hp (by rw [hb52]; exact Bool.false_ne_true)
         subst hb52
         refine rs (v := .bool true) (ntf rfl) rfl ?_
         refine rn ?_
         refine qn ?_
         replace hc := hc.pull 3 rfl rfl
         replace hc := hc.pull 3 rfl rfl
         replace hc := hc.pull 3 rfl rfl
         replace hc := hc.pull 3 rfl rfl
         replace hc : Ctx w28 (S_ref24_Watch.hp b0 x0 :: Fr) := Ctx.exB _ _ (Ctx.exB _ _ (Ctx.exB _ _ (Ctx.sepB (Ctx.sepB (Ctx.sepB hc)))))
         exact ⟨⟨true, rfl, hp, hc⟩, (kl rfl kb)⟩
       · replace hp := gpos hp hb52
         subst hb52
         refine rs (v := .bool false) (ntt rfl) rfl ?_
         refine rn ?_
         refine qn ?_
         replace hc := hc.pull 3 rfl rfl
         replace hc := hc.pull 3 rfl rfl
         replace hc := hc.pull 3 rfl rfl
         replace hc := hc.pull 3 rfl rfl
         replace hc : Ctx w28 (S_ref24_Watch.hp b0 x0 :: Fr) := Ctx.exB _ _ (Ctx.exB _ _ (Ctx.exB _ _ (Ctx.sepB (Ctx.sepB (Ctx.sepB hc)))))
         exact ⟨⟨false, rfl, hp, hc⟩, (kl rfl kb)⟩
     · clear hp hc; intro vs u w53 hJ
       obtain ⟨j30, rfl, hp, hc⟩ := hJ
       unfold ref24_Watch_Hear.J2 at hp
       cases hb54 : j30
       · replace hp := gneg hp (by rw [hb54]; exact Bool.false_ne_true)
         subst hb54
         refine Wcf rfl ?_
         refine Wskip ?_
         refine qn ?_
         refine Wseq ?_
         refine Wseq ?_
         refine Wreg ?_
         refine rs (v := .int .i64 x4) (mv (v := .int .i64 x4) rfl) rfl ?_
         refine rs (v := .pointer (some ⟨b0, 0, none⟩)) (mv (v := .pointer (some ⟨b0, 0, none⟩)) rfl) rfl ?_
         refine rs (v := .pointer (some ⟨b0, 0, none⟩)) (nl rfl) rfl ?_
         refine rs (v := .pointer (some ⟨b0, 3, none⟩)) (fax 3 rfl Try.underlying38 rfl Try.sizeOf36 rfl rfl rfl) rfl ?_
         replace hc := Ctx.exF hc; obtain ⟨v55, hc⟩ := hc
         replace hc := Ctx.exF hc; obtain ⟨v56, hc⟩ := hc
         replace hc := Ctx.exF hc; obtain ⟨v57, hc⟩ := hc
         replace hc := Ctx.sepF hc
         replace hc := Ctx.sepF hc
         replace hc := Ctx.sepF hc
         obtain ⟨a58, q59, u60⟩ := hc.rd (k := 1) rfl rfl reads_own; subst u60
         obtain ⟨a61, q62, u63⟩ := hc.rd (k := 2) rfl rfl reads_own; subst u63
         obtain ⟨a64, q65, u66⟩ := hc.rd (k := 3) rfl rfl reads_own; subst u66
         refine rs (v := .slice a61 x0.Life.length q62) (ld rfl Try.isAgg36 (Ctx.cell hc (k := 0) rfl rfl rfl)) rfl ?_
         refine rs (v := .int .i64 x2) (mv (v := .int .i64 x2) rfl) rfl ?_
         replace hp := bind_some hp; obtain ⟨y67, hy67, hp⟩ := hp
         obtain ⟨b70, o71, u72, hi68, hi69⟩ := Ctx.rdAt hc (k := 2) rfl rfl reads_own hy67
         subst u72
         refine rs (v := .pointer (some ⟨b70, o71 + (x2).toNat * 1, none⟩)) (ixx rfl rfl Try.underlying36 Try.sizeOf3 hi68 hi69 rfl) rfl ?_
         replace hc := Ctx.rdCell hc (k := 2) rfl rfl reads_own hy67; obtain ⟨cs73, hc, hcell74⟩ := hc
         replace hc := Ctx.holdC hc; obtain ⟨u75, hc⟩ := hc; subst u75
         refine rs (v := .int .i64 y67) (ld rfl Try.isAgg3 (hcell74 0 _ rfl)) rfl ?_
         refine rs (v := .bool (decide (x4 > y67))) (gt' rfl rfl) rfl ?_
         refine rn ?_
         refine qn ?_
         cases hb76 : (decide (x4 > y67))
         · replace hp := gneg hp (of_decide_eq_false hb76)
           refine Wcf rfl ?_
           refine Wskip ?_
           refine qn ?_
           refine Wseq ?_
           refine Wseqm [85, 86, 87, 88, 89, 90, 91, 92, 93, 94, 95, 96, 97, 98, 99, 100, 101] [101] (fun vs w' => ∃ j77 : Bool, vs = [.bool j77] ∧ ref24_Watch_Hear.J3 x0 x2 j77 = some r ∧ Ctx w' (S_ref24_Watch.hp b0 x0 :: Fr)) ?_ ?_
           · refine Wreg ?_
             refine rs (v := .int .i64 x3) (mv (v := .int .i64 x3) rfl) rfl ?_
             refine rs (v := .pointer (some ⟨b0, 0, none⟩)) (mv (v := .pointer (some ⟨b0, 0, none⟩)) rfl) rfl ?_
             refine rs (v := .pointer (some ⟨b0, 0, none⟩)) (nl rfl) rfl ?_
             refine rs (v := .pointer (some ⟨b0, 1, none⟩)) (fax 1 rfl Try.underlying38 rfl Try.sizeOf3 rfl rfl rfl) rfl ?_
             refine rs (v := .int .i64 x0.Epoch) (ld rfl Try.isAgg3 (Ctx.cell hc (k := 0) rfl rfl rfl)) rfl ?_
             refine rs (v := .bool (decide (x3 = x0.Epoch))) (eqd rfl rfl) rfl ?_
             refine rs (v := .bool (decide (x3 = x0.Epoch))) (mv (v := .bool (decide (x3 = x0.Epoch))) rfl) rfl ?_
             cases hb78 : (decide (x3 = x0.Epoch))
             · replace hp := gneg hp (of_decide_eq_false hb78)
               refine r0 rfl ?_
               refine r0 rfl ?_
               refine r0 rfl ?_
               refine r0 rfl ?_
               refine r0 rfl ?_
               refine r0 rfl ?_
               refine r0 rfl ?_
               refine r0 rfl ?_
               refine r0 rfl ?_
               refine rs (v := .bool false) (pkf (v := .bool false) rfl rfl) rfl ?_
               refine rn ?_
               refine qn ?_
               replace hc := hc.pull 3 rfl rfl
               replace hc := hc.pull 3 rfl rfl
               replace hc := hc.pull 3 rfl rfl
               replace hc := hc.pull 3 rfl rfl
               replace hc : Ctx w53 (S_ref24_Watch.hp b0 x0 :: Fr) := Ctx.exB _ _ (Ctx.exB _ _ (Ctx.exB _ _ (Ctx.sepB (Ctx.sepB (Ctx.sepB hc)))))
               exact ⟨⟨false, rfl, hp, hc⟩, (kl rfl kb)⟩
             · replace hp := gpos hp (of_decide_eq_true hb78)
               refine rs (v := .int .i64 x4) (mv (v := .int .i64 x4) rfl) rfl ?_
               refine rs (v := .pointer (some ⟨b0, 0, none⟩)) (mv (v := .pointer (some ⟨b0, 0, none⟩)) rfl) rfl ?_
               refine rs (v := .pointer (some ⟨b0, 0, none⟩)) (nl rfl) rfl ?_
               refine rs (v := .pointer (some ⟨b0, 3, none⟩)) (fax 3 rfl Try.underlying38 rfl Try.sizeOf36 rfl rfl rfl) rfl ?_
               refine rs (v := .slice (some ⟨b70, o71, none⟩) x0.Life.length q62) (ld rfl Try.isAgg36 (Ctx.cell hc (k := 0) rfl rfl rfl)) rfl ?_
               refine rs (v := .int .i64 x2) (mv (v := .int .i64 x2) rfl) rfl ?_
               replace hp := bind_some hp; obtain ⟨y79, hy79, hp⟩ := hp
               obtain ⟨b82, o83, u84, hi80, hi81⟩ := Ctx.rdAt hc (k := 2) rfl rfl reads_own hy79
               clear u84
               refine rs (v := .pointer (some ⟨b70, o71 + (x2).toNat * 1, none⟩)) (ixx rfl rfl Try.underlying36 Try.sizeOf3 hi80 hi81 rfl) rfl ?_
               replace hc := Ctx.rdCell hc (k := 2) rfl rfl reads_own hy79; obtain ⟨cs85, hc, hcell86⟩ := hc
               replace hc := Ctx.holdC hc; obtain ⟨u87, hc⟩ := hc; subst u87
               refine rs (v := .int .i64 y79) (ld rfl Try.isAgg3 (hcell86 0 _ rfl)) rfl ?_
               refine rs (v := .bool (decide (x4 = y79))) (eqd rfl rfl) rfl ?_
               refine rs (v := .bool (decide (x4 = y79))) (pkt (v := .bool (decide (x4 = y79))) rfl rfl) rfl ?_
               refine rn ?_
               refine qn ?_
               replace hc := hc.pull 3 rfl rfl
               replace hc := hc.pull 3 rfl rfl
               replace hc := hc.pull 3 rfl rfl
               replace hc := hc.pull 3 rfl rfl
               replace hc : Ctx w53 (S_ref24_Watch.hp b0 x0 :: Fr) := Ctx.exB _ _ (Ctx.exB _ _ (Ctx.exB _ _ (Ctx.sepB (Ctx.sepB (Ctx.sepB hc)))))
               exact ⟨⟨decide (x4 = y79), rfl, hp, hc⟩, (kl rfl kb)⟩
           · clear hp hc; intro vs u w88 hJ
             obtain ⟨j77, rfl, hp, hc⟩ := hJ
             unfold ref24_Watch_Hear.J3 at hp
             cases hb89 : j77
             · replace hp := gneg hp (by rw [hb89]; exact Bool.false_ne_true)
               subst hb89
               refine Wcf rfl ?_
               refine Wskip ?_
               refine qn ?_
               refine Wseq ?_
               refine Wreg ?_
               refine rs (v := .bool false) (av (v := .bool false) rfl) rfl ?_
               refine rn ?_
               refine qn ?_
               refine Wret ?_
               injection hp with hp; subst hp
               refine f1 (v := .bool false) Try.results12 Try.ntmps12 rfl ?_
               exact ⟨_, rfl, k _ hc⟩
             · replace hp := gpos hp hb89
               subst hb89
               refine Wct rfl ?_
               refine Wreg ?_
               refine rs (v := .pointer (some ⟨b0, 0, none⟩)) (mv (v := .pointer (some ⟨b0, 0, none⟩)) rfl) rfl ?_
               refine rs (v := .pointer (some ⟨b0, 0, none⟩)) (nl rfl) rfl ?_
               refine rs (v := .pointer (some ⟨b0, 4, none⟩)) (fax 4 rfl Try.underlying38 rfl Try.sizeOf36 rfl rfl rfl) rfl ?_
               replace hc := Ctx.exF hc; obtain ⟨v90, hc⟩ := hc
               replace hc := Ctx.exF hc; obtain ⟨v91, hc⟩ := hc
               replace hc := Ctx.exF hc; obtain ⟨v92, hc⟩ := hc
               replace hc := Ctx.sepF hc
               replace hc := Ctx.sepF hc
               replace hc := Ctx.sepF hc
               obtain ⟨a93, q94, u95⟩ := hc.rd (k := 1) rfl rfl reads_own; subst u95
               obtain ⟨a96, q97, u98⟩ := hc.rd (k := 2) rfl rfl reads_own; subst u98
               obtain ⟨a99, q100, u101⟩ := hc.rd (k := 3) rfl rfl reads_own; subst u101
               refine rs (v := .slice a99 x0.Since.length q100) (ld rfl Try.isAgg36 (Ctx.cell hc (k := 0) rfl rfl rfl)) rfl ?_
               refine rs (v := .int .i64 x2) (mv (v := .int .i64 x2) rfl) rfl ?_
               replace hp := bind_some hp; obtain ⟨y102, hy102, hp⟩ := hp
               obtain ⟨b105, o106, u107, hi103, hi104⟩ := Ctx.rdAt hc (k := 3) rfl rfl reads_own hy102
               subst u107
               refine rs (v := .pointer (some ⟨b105, o106 + (x2).toNat * 1, none⟩)) (ixx rfl rfl Try.underlying36 Try.sizeOf3 hi103 hi104 rfl) rfl ?_
               refine ruE (A := fun w' => Ctx w' (B b0 [.int .i64 x0.Patience, .int .i64 x0.Epoch, .slice a93 x0.Ready.length q94, .slice a96 x0.Life.length q97, .slice (some ⟨b105, o106, none⟩) x0.Since.length q100] 38 :: Own pBool 4 (.slice a93 x0.Ready.length q94) x0.Ready :: Own (pInt .i64) 3 (.slice a96 x0.Life.length q97) x0.Life :: Own (pInt .i64) 3 (.slice (some ⟨b105, o106, none⟩) x0.Since.length q100) (x0.Since.set (x2).toNat 0) :: Fr)) (Ctx.ownPutOp hc (k := 3) rfl rfl (z := y102) (z' := 0) hy102 0 rfl (u := .int .i64 0) rfl rfl rfl Try.sizeOf3 (fun _ _ _ h => by cases h; rfl) rfl) rfl ?_
               clear hc; rintro w108 hc
               refine rn ?_
               refine qn ?_
               refine Wseq ?_
               refine Wreg ?_
               refine rs (v := .bool false) (av (v := .bool false) rfl) rfl ?_
               refine rn ?_
               refine qn ?_
               refine Wret ?_
               replace hc := hc.pull 3 rfl rfl
               replace hc := hc.pull 3 rfl rfl
               replace hc := hc.pull 3 rfl rfl
               replace hc := hc.pull 3 rfl rfl
               replace hc : Ctx w108 (S_ref24_Watch.hp b0 (⟨x0.Patience, x0.Epoch, x0.Ready, x0.Life, (x0.Since.set (x2).toNat 0)⟩ : S_ref24_Watch) :: Fr) := Ctx.exB _ _ (Ctx.exB _ _ (Ctx.exB _ _ (Ctx.sepB (Ctx.sepB (Ctx.sepB hc)))))
               injection hp with hp; subst hp
               refine f1 (v := .bool false) Try.results12 Try.ntmps12 rfl ?_
               exact ⟨_, rfl, k _ hc⟩
         · replace hp := gpos hp (of_decide_eq_true hb76)
           refine Wct rfl ?_
           refine Wseq ?_
           refine Wreg ?_
           refine rs (v := .pointer (some ⟨b0, 0, none⟩)) (mv (v := .pointer (some ⟨b0, 0, none⟩)) rfl) rfl ?_
           replace hc := hc.pull 3 rfl rfl
           replace hc := hc.pull 3 rfl rfl
           replace hc := hc.pull 3 rfl rfl
           replace hc := hc.pull 3 rfl rfl
           replace hc : Ctx w53 (S_ref24_Watch.hp b0 x0 :: Fr) := Ctx.exB _ _ (Ctx.exB _ _ (Ctx.exB _ _ (Ctx.sepB (Ctx.sepB (Ctx.sepB hc)))))
           replace hp := bind_some hp; obtain ⟨r109, hr109, hp⟩ := hp
           refine rc (cl Try.call14 rfl rfl) rfl ?_
           refine ref24_Watch_Bump_any hc hr109 ?_
           clear hc; intro w110 hc
           refine rn ?_
           refine qn ?_
           refine Wseq ?_
           refine Wreg ?_
           refine rs (v := .bool true) (av (v := .bool true) rfl) rfl ?_
           refine rn ?_
           refine qn ?_
           refine Wret ?_
           refine qr ?_
           injection hp with hp; subst hp
           refine f1 (v := .bool true) Try.results12 Try.ntmps12 rfl ?_
           exact ⟨_, rfl, k _ hc⟩
       · replace hp := gpos hp hb54
         subst hb54
         refine Wct rfl ?_
         refine Wseq ?_
         refine Wreg ?_
         refine rs (v := .pointer (some ⟨b0, 0, none⟩)) (mv (v := .pointer (some ⟨b0, 0, none⟩)) rfl) rfl ?_
         refine rs (v := .pointer (some ⟨b0, 0, none⟩)) (nl rfl) rfl ?_
         refine rs (v := .pointer (some ⟨b0, 2, none⟩)) (fax 2 rfl Try.underlying38 rfl Try.sizeOf35 rfl rfl rfl) rfl ?_
         replace hc := Ctx.exF hc; obtain ⟨v111, hc⟩ := hc
         replace hc := Ctx.exF hc; obtain ⟨v112, hc⟩ := hc
         replace hc := Ctx.exF hc; obtain ⟨v113, hc⟩ := hc
         replace hc := Ctx.sepF hc
         replace hc := Ctx.sepF hc
         replace hc := Ctx.sepF hc
         obtain ⟨a114, q115, u116⟩ := hc.rd (k := 1) rfl rfl reads_own; subst u116
         obtain ⟨a117, q118, u119⟩ := hc.rd (k := 2) rfl rfl reads_own; subst u119
         obtain ⟨a120, q121, u122⟩ := hc.rd (k := 3) rfl rfl reads_own; subst u122
         refine rs (v := .slice a114 x0.Ready.length q115) (ld rfl Try.isAgg35 (Ctx.cell hc (k := 0) rfl rfl rfl)) rfl ?_
         refine rs (v := .int .i64 x2) (mv (v := .int .i64 x2) rfl) rfl ?_
         replace hp := bind_some hp; obtain ⟨y123, hy123, hp⟩ := hp
         obtain ⟨b126, o127, u128, hi124, hi125⟩ := Ctx.rdAt hc (k := 1) rfl rfl reads_own hy123
         subst u128
         refine rs (v := .pointer (some ⟨b126, o127 + (x2).toNat * 1, none⟩)) (ixx rfl rfl Try.underlying35 Try.sizeOf4 hi124 hi125 rfl) rfl ?_
         refine ruE (A := fun w' => Ctx w' (B b0 [.int .i64 x0.Patience, .int .i64 x0.Epoch, .slice (some ⟨b126, o127, none⟩) x0.Ready.length q115, .slice a117 x0.Life.length q118, .slice a120 x0.Since.length q121] 38 :: Own pBool 4 (.slice (some ⟨b126, o127, none⟩) x0.Ready.length q115) (x0.Ready.set (x2).toNat true) :: Own (pInt .i64) 3 (.slice a117 x0.Life.length q118) x0.Life :: Own (pInt .i64) 3 (.slice a120 x0.Since.length q121) x0.Since :: Fr)) (Ctx.ownPutOp hc (k := 1) rfl rfl (z := y123) (z' := true) hy123 0 rfl (u := .bool true) rfl rfl rfl Try.sizeOf4 (fun _ _ _ h => by cases h; rfl) rfl) rfl ?_
         clear hc; rintro w129 hc
         refine rn ?_
         refine qn ?_
         refine Wseq ?_
         refine Wreg ?_
         refine rs (v := .pointer (some ⟨b0, 0, none⟩)) (mv (v := .pointer (some ⟨b0, 0, none⟩)) rfl) rfl ?_
         refine rs (v := .pointer (some ⟨b0, 0, none⟩)) (nl rfl) rfl ?_
         refine rs (v := .pointer (some ⟨b0, 3, none⟩)) (fax 3 rfl Try.underlying38 rfl Try.sizeOf36 rfl rfl rfl) rfl ?_
         refine rs (v := .slice a117 x0.Life.length q118) (ld rfl Try.isAgg36 (Ctx.cell hc (k := 0) rfl rfl rfl)) rfl ?_
         refine rs (v := .int .i64 x2) (mv (v := .int .i64 x2) rfl) rfl ?_
         refine rs (v := .int .i64 x4) (mv (v := .int .i64 x4) rfl) rfl ?_
         replace hp := bind_some hp; obtain ⟨y130, hy130, hp⟩ := hp
         obtain ⟨b133, o134, u135, hi131, hi132⟩ := Ctx.rdAt hc (k := 2) rfl rfl reads_own hy130
         subst u135
         refine rs (v := .pointer (some ⟨b133, o134 + (x2).toNat * 1, none⟩)) (ixx rfl rfl Try.underlying36 Try.sizeOf3 hi131 hi132 rfl) rfl ?_
         refine ruE (A := fun w' => Ctx w' (B b0 [.int .i64 x0.Patience, .int .i64 x0.Epoch, .slice (some ⟨b126, o127, none⟩) x0.Ready.length q115, .slice (some ⟨b133, o134, none⟩) x0.Life.length q118, .slice a120 x0.Since.length q121] 38 :: Own pBool 4 (.slice (some ⟨b126, o127, none⟩) x0.Ready.length q115) (x0.Ready.set (x2).toNat true) :: Own (pInt .i64) 3 (.slice (some ⟨b133, o134, none⟩) x0.Life.length q118) (x0.Life.set (x2).toNat x4) :: Own (pInt .i64) 3 (.slice a120 x0.Since.length q121) x0.Since :: Fr)) (Ctx.ownPutOp hc (k := 2) rfl rfl (z := y130) (z' := x4) hy130 0 rfl (u := .int .i64 x4) rfl rfl rfl Try.sizeOf3 (fun _ _ _ h => by cases h; rfl) rfl) rfl ?_
         clear hc; rintro w136 hc
         refine rn ?_
         refine qn ?_
         refine Wseq ?_
         refine Wreg ?_
         refine rs (v := .pointer (some ⟨b0, 0, none⟩)) (mv (v := .pointer (some ⟨b0, 0, none⟩)) rfl) rfl ?_
         refine rs (v := .pointer (some ⟨b0, 0, none⟩)) (nl rfl) rfl ?_
         refine rs (v := .pointer (some ⟨b0, 4, none⟩)) (fax 4 rfl Try.underlying38 rfl Try.sizeOf36 rfl rfl rfl) rfl ?_
         refine rs (v := .slice a120 x0.Since.length q121) (ld rfl Try.isAgg36 (Ctx.cell hc (k := 0) rfl rfl rfl)) rfl ?_
         refine rs (v := .int .i64 x2) (mv (v := .int .i64 x2) rfl) rfl ?_
         replace hp := bind_some hp; obtain ⟨y137, hy137, hp⟩ := hp
         obtain ⟨b140, o141, u142, hi138, hi139⟩ := Ctx.rdAt hc (k := 3) rfl rfl reads_own hy137
         subst u142
         refine rs (v := .pointer (some ⟨b140, o141 + (x2).toNat * 1, none⟩)) (ixx rfl rfl Try.underlying36 Try.sizeOf3 hi138 hi139 rfl) rfl ?_
         refine ruE (A := fun w' => Ctx w' (B b0 [.int .i64 x0.Patience, .int .i64 x0.Epoch, .slice (some ⟨b126, o127, none⟩) x0.Ready.length q115, .slice (some ⟨b133, o134, none⟩) x0.Life.length q118, .slice (some ⟨b140, o141, none⟩) x0.Since.length q121] 38 :: Own pBool 4 (.slice (some ⟨b126, o127, none⟩) x0.Ready.length q115) (x0.Ready.set (x2).toNat true) :: Own (pInt .i64) 3 (.slice (some ⟨b133, o134, none⟩) x0.Life.length q118) (x0.Life.set (x2).toNat x4) :: Own (pInt .i64) 3 (.slice (some ⟨b140, o141, none⟩) x0.Since.length q121) (x0.Since.set (x2).toNat 0) :: Fr)) (Ctx.ownPutOp hc (k := 3) rfl rfl (z := y137) (z' := 0) hy137 0 rfl (u := .int .i64 0) rfl rfl rfl Try.sizeOf3 (fun _ _ _ h => by cases h; rfl) rfl) rfl ?_
         clear hc; rintro w143 hc
         refine rn ?_
         refine qn ?_
         refine Wseq ?_
         refine Wreg ?_
         refine rs (v := .bool false) (av (v := .bool false) rfl) rfl ?_
         refine rn ?_
         refine qn ?_
         refine Wret ?_
         refine qr ?_
         replace hc := hc.pull 3 rfl rfl
         replace hc := hc.pull 3 rfl rfl
         replace hc := hc.pull 3 rfl rfl
         replace hc := hc.pull 3 rfl rfl
         replace hc : Ctx w143 (S_ref24_Watch.hp b0 (⟨x0.Patience, x0.Epoch, (x0.Ready.set (x2).toNat true), (x0.Life.set (x2).toNat x4), (x0.Since.set (x2).toNat 0)⟩ : S_ref24_Watch) :: Fr) := Ctx.exB _ _ (Ctx.exB _ _ (Ctx.exB _ _ (Ctx.sepB (Ctx.sepB (Ctx.sepB hc)))))
         injection hp with hp; subst hp
         refine f1 (v := .bool false) Try.results12 Try.ntmps12 rfl ?_
         exact ⟨_, rfl, k _ hc⟩
   · replace hp := gpos hp hb29
     subst hb29
     refine Wct rfl ?_
     refine Wseq ?_
     refine Wreg ?_
     refine rs (v := .bool false) (av (v := .bool false) rfl) rfl ?_
     refine rn ?_
     refine qn ?_
     refine Wret ?_
     refine qr ?_
     injection hp with hp; subst hp
     refine f1 (v := .bool false) Try.results12 Try.ntmps12 rfl ?_
     exact ⟨_, rfl, k _ hc⟩

-- FN peloton/pelotonref09.Ints
def ref09_Ints.L1 (x0 : (List Int)) (x1 : (List Int)) : Nat → Int → Option (Bool)
  | 0, _ => none
  | m1 + 1, j2 =>
    if j2 < ((x0.length : Nat) : Int) then
      (idx x0 j2).bind fun y6 =>
      (idx x1 j2).bind fun y15 =>
      if y6 ≠ y15 then
        some false
      else
        (ref09_Ints.L1 x0 x1 m1) (IntKind.i64.wrap (j2 + 1))
    else
      some true

def ref09_Ints (N : Nat) (x0 : (List Int)) (x1 : (List Int)) : Option (Bool) :=
  if ((x0.length : Nat) : Int) ≠ ((x1.length : Nat) : Int) then
    some false
  else
    ref09_Ints.L1 x0 x1 N 0

set_option maxHeartbeats 2000000 in
theorem ref09_Ints_any {N : Nat} {x0 : (List Int)} {ax0 : Option Addr} {nx0 : Nat} {qx0 : Nat} {P0 : HP} {x1 : (List Int)} {ax1 : Option Addr} {nx1 : Nat} {qx1 : Nat} {P1 : HP} {Fr : List HP} {w : World} {r : Bool} {K : Value → World → Prop} (hrd0 : Reads P0 (pInt .i64) (.slice ax0 nx0 qx0) x0) (hrd1 : Reads P1 (pInt .i64) (.slice ax1 nx1 qx1) x1) (hc : Ctx w (P0 :: P1 :: Fr)) (hp : ref09_Ints N x0 x1 = some r)
    (k : ∀ w', Ctx w' (P0 :: P1 :: Fr) → K (.bool r) w') : Calls Try.prog 19 #[.slice ax0 nx0 qx0, .slice ax1 nx1 qx1] w (Ret K) := by
 unfold ref09_Ints at hp
 refine Center (args := [.slice ax0 nx0 qx0, .slice ax1 nx1 qx1]) (l := [(0, .slice ax0 nx0 qx0), (1, .slice ax1 nx1 qx1)]) Try.func19 Try.ntmps19 rfl rfl rfl ?_
 obtain ⟨hn0, _⟩ := Ctx.rdLen hc (k := 0) rfl rfl hrd0; subst hn0
 obtain ⟨hn1, _⟩ := Ctx.rdLen hc (k := 1) rfl rfl hrd1; subst hn1
 refine Wseq ?_
 refine Wreg ?_
 refine rs (v := .bool false) (av (v := .bool false) rfl) rfl ?_
 refine rn ?_
 refine qn ?_
 refine Wseq ?_
 refine Wseq ?_
 refine Wreg ?_
 refine rs (v := .slice ax0 x0.length qx0) (mv (v := .slice ax0 x0.length qx0) rfl) rfl ?_
 refine rs (v := .int .i64 ((x0.length : Nat) : Int)) (ln rfl Try.underlying36) rfl ?_
 refine rs (v := .slice ax1 x1.length qx1) (mv (v := .slice ax1 x1.length qx1) rfl) rfl ?_
 refine rs (v := .int .i64 ((x1.length : Nat) : Int)) (ln rfl Try.underlying36) rfl ?_
 refine rs (v := .bool (decide (((x0.length : Nat) : Int) ≠ ((x1.length : Nat) : Int)))) (ned rfl rfl) rfl ?_
 refine rn ?_
 refine qn ?_
 cases hb1 : (decide (((x0.length : Nat) : Int) ≠ ((x1.length : Nat) : Int)))
 · replace hp := gneg hp (of_decide_eq_false hb1)
   refine Wcf rfl ?_
   refine Wskip ?_
   refine qn ?_
   refine Wseq ?_
   refine Wseq ?_
   refine Wreg ?_
   refine rs (v := .int .i64 0) (av (v := .int .i64 0) rfl) rfl ?_
   refine rn ?_
   refine qn ?_
   refine Wblk ?_
   refine Wloop [4, 5, 11, 12, 13, 14, 15, 16, 17, 18, 19, 20, 21, 22, 23, 24, 25] [5] (fun m vs w' => ∃ j2 : Int, vs = [.int .i64 j2] ∧ ref09_Ints.L1 x0 x1 m j2 = some r ∧ Ctx w' (P0 :: P1 :: Fr)) N ?_ ?_
   · exact ⟨0, rfl, hp, hc⟩
   · clear hp hc; intro m vs u w3 hJ
     obtain ⟨j2, rfl, hp, hc⟩ := hJ
     rcases m with _ | m1
     · cases (show none = some r from hp)
     rw [ref09_Ints.L1] at hp
     refine Wseq ?_
     refine Wseq ?_
     refine Wreg ?_
     refine rs (v := .int .i64 j2) (mv (v := .int .i64 j2) rfl) rfl ?_
     refine rs (v := .slice ax0 x0.length qx0) (mv (v := .slice ax0 x0.length qx0) rfl) rfl ?_
     refine rs (v := .int .i64 ((x0.length : Nat) : Int)) (ln rfl Try.underlying36) rfl ?_
     refine rs (v := .bool (decide (j2 < ((x0.length : Nat) : Int)))) (lt' rfl rfl) rfl ?_
     refine rn ?_
     refine qn ?_
     cases hb4 : (decide (j2 < ((x0.length : Nat) : Int)))
     · replace hp := gneg hp (of_decide_eq_false hb4)
       refine Wcf rfl ?_
       refine Wexit ?_
       refine qx ?_
       refine qx ?_
       refine be ?_
       refine qn ?_
       refine Wseq ?_
       refine Wreg ?_
       refine rs (v := .bool true) (av (v := .bool true) rfl) rfl ?_
       refine rn ?_
       refine qn ?_
       refine Wret ?_
       injection hp with hp; subst hp
       refine f1 (v := .bool true) Try.results19 Try.ntmps19 rfl ?_
       exact ⟨_, rfl, k _ hc⟩
     · replace hp := gpos hp (of_decide_eq_true hb4)
       refine Wct rfl ?_
       refine Wskip ?_
       refine qn ?_
       refine Wseq ?_
       refine Wblk ?_
       refine Wseq ?_
       replace hc := hc.drew
       refine Wdrw (fun w' => Ctx w' (P0 :: P1 :: Fr)) [0, 0, 3, 7, 0, 0, 48, 112, 255] 0 rfl (by kernel_rfl) (hc) ?_
       generalize hw : World.drew w3 = w5 at *
       clear hw
       refine ds (v := .slice ax0 x0.length qx0) (fun w' hF => mv (v := .slice ax0 x0.length qx0) rfl) rfl ?_
       refine ds (v := .int .i64 j2) (fun w' hF => mv (v := .int .i64 j2) rfl) rfl ?_
       replace hp := bind_some hp; obtain ⟨y6, hy6, hp⟩ := hp
       obtain ⟨b9, o10, u11, hi7, hi8⟩ := Ctx.rdAt hc (k := 0) rfl rfl hrd0 hy6
       subst u11
       refine ds (v := .pointer (some ⟨b9, o10 + (j2).toNat * 1, none⟩)) (fun w' hF => ixx rfl rfl Try.underlying36 Try.sizeOf3 hi7 hi8 rfl) rfl ?_
       replace hc := Ctx.rdCell hc (k := 0) rfl rfl hrd0 hy6; obtain ⟨cs12, hc, hcell13⟩ := hc
       replace hc := Ctx.holdC hc; obtain ⟨u14, hc⟩ := hc; subst u14
       refine ds (v := .int .i64 y6) (fun w' hF => ld rfl Try.isAgg3 ((by obtain ⟨cs, hc, hcell⟩ := Ctx.rdCell hF (k := 0) rfl rfl hrd0 hy6; obtain ⟨u, hc⟩ := Ctx.holdC hc; subst u; exact hcell 0 _ rfl))) rfl ?_
       refine ds (v := .slice ax1 x1.length qx1) (fun w' hF => mv (v := .slice ax1 x1.length qx1) rfl) rfl ?_
       refine ds (v := .int .i64 j2) (fun w' hF => mv (v := .int .i64 j2) rfl) rfl ?_
       replace hp := bind_some hp; obtain ⟨y15, hy15, hp⟩ := hp
       obtain ⟨b18, o19, u20, hi16, hi17⟩ := Ctx.rdAt hc (k := 1) rfl rfl hrd1 hy15
       subst u20
       refine ds (v := .pointer (some ⟨b18, o19 + (j2).toNat * 1, none⟩)) (fun w' hF => ixx rfl rfl Try.underlying36 Try.sizeOf3 hi16 hi17 rfl) rfl ?_
       replace hc := Ctx.rdCell hc (k := 1) rfl rfl hrd1 hy15; obtain ⟨cs21, hc, hcell22⟩ := hc
       replace hc := Ctx.holdC hc; obtain ⟨u23, hc⟩ := hc; subst u23
       refine ds (v := .int .i64 y15) (fun w' hF => ld rfl Try.isAgg3 ((by obtain ⟨cs, hc, hcell⟩ := Ctx.rdCell hF (k := 1) rfl rfl hrd1 hy15; obtain ⟨u, hc⟩ := Ctx.holdC hc; subst u; exact hcell 0 _ rfl))) rfl ?_
       refine ds (v := .bool (decide (y6 ≠ y15))) (fun w' hF => ned rfl rfl) rfl ?_
       refine dn ?_
       refine qn ?_
       cases hb24 : (decide (y6 ≠ y15))
       · replace hp := gneg hp (of_decide_eq_false hb24)
         refine Wcf rfl ?_
         refine Wskip ?_
         refine bn ?_
         refine qn ?_
         refine Wreg ?_
         refine rs (v := .int .i64 j2) (mv (v := .int .i64 j2) rfl) rfl ?_
         refine rs (v := .int .i64 (IntKind.i64.wrap (j2 + 1))) (adw rfl rfl) rfl ?_
         refine rs (v := .int .i64 (IntKind.i64.wrap (j2 + 1))) (av (v := .int .i64 (IntKind.i64.wrap (j2 + 1))) rfl) rfl ?_
         refine rn ?_
         refine qn ?_
         exact ⟨m1, Nat.lt_succ_self _, ⟨(IntKind.i64.wrap (j2 + 1)), rfl, hp, hc⟩, (kl rfl k0)⟩
       · replace hp := gpos hp (of_decide_eq_true hb24)
         refine Wct rfl ?_
         refine Wseq ?_
         refine Wreg ?_
         refine rs (v := .bool false) (av (v := .bool false) rfl) rfl ?_
         refine rn ?_
         refine qn ?_
         refine Wret ?_
         refine br ?_
         refine qr ?_
         refine qr ?_
         refine br ?_
         refine qr ?_
         injection hp with hp; subst hp
         refine f1 (v := .bool false) Try.results19 Try.ntmps19 rfl ?_
         exact ⟨_, rfl, k _ hc⟩
 · replace hp := gpos hp (of_decide_eq_true hb1)
   refine Wct rfl ?_
   refine Wseq ?_
   refine Wreg ?_
   refine rs (v := .bool false) (av (v := .bool false) rfl) rfl ?_
   refine rn ?_
   refine qn ?_
   refine Wret ?_
   refine qr ?_
   injection hp with hp; subst hp
   refine f1 (v := .bool false) Try.results19 Try.ntmps19 rfl ?_
   exact ⟨_, rfl, k _ hc⟩

-- FN (peloton/beat.one).missing
def beat_one_missing (x0 : S_beat_one) : Option (Bool) :=
  if x0.ready = true then
    some false
  else
    some true

set_option maxHeartbeats 2000000 in
theorem beat_one_missing_any {x0 : S_beat_one} {Fr : List HP} {w : World} {r : Bool} {K : Value → World → Prop}  (hc : Ctx w (Fr)) (hp : beat_one_missing x0 = some r)
    (k : ∀ w', Ctx w' (Fr) → K (.bool r) w') : Calls Try.prog 25 #[.agg #[.bool x0.ready, .int .i64 x0.life, .int .i64 x0.since]] w (Ret K) := by
 unfold beat_one_missing at hp
 refine Center (args := [.agg #[.bool x0.ready, .int .i64 x0.life, .int .i64 x0.since]]) (l := [(0, .agg #[.bool x0.ready, .int .i64 x0.life, .int .i64 x0.since])]) Try.func25 Try.ntmps25 rfl rfl rfl ?_
 refine Wseq ?_
 refine Wreg ?_
 refine rsE (Ctx.boxOp (cs := [.bool x0.ready, .int .i64 x0.life, .int .i64 x0.since]) (v := .agg #[.bool x0.ready, .int .i64 x0.life, .int .i64 x0.since]) hc rfl rfl) rfl ?_
 clear hc; rintro _ w3 ⟨b1, rfl, hc⟩
 refine rs (v := .bool false) (av (v := .bool false) rfl) rfl ?_
 refine rn ?_
 refine qn ?_
 refine Wseq ?_
 refine Wreg ?_
 refine rs (v := .pointer (some ⟨b1, 0, none⟩)) (fax 0 rfl Try.underlying52 rfl Try.sizeOf4 rfl rfl rfl) rfl ?_
 refine rs (v := .bool x0.ready) (ld rfl Try.isAgg4 (Ctx.cell hc (k := 0) rfl rfl rfl)) rfl ?_
 cases hb4 : x0.ready
 · replace hp := gneg hp (by rw [hb4]; exact Bool.false_ne_true)
   refine rs (v := .bool true) (ntf rfl) rfl ?_
   refine rs (v := .bool true) (av (v := .bool true) rfl) rfl ?_
   refine rn ?_
   refine qn ?_
   refine Wret ?_
   replace hc := hc.rem 0 rfl rfl
   injection hp with hp; subst hp
   refine f1 (v := .bool true) Try.results25 Try.ntmps25 rfl ?_
   exact ⟨_, rfl, k _ hc⟩
 · replace hp := gpos hp hb4
   refine rs (v := .bool false) (ntt rfl) rfl ?_
   refine rs (v := .bool false) (av (v := .bool false) rfl) rfl ?_
   refine rn ?_
   refine qn ?_
   refine Wret ?_
   replace hc := hc.rem 0 rfl rfl
   injection hp with hp; subst hp
   refine f1 (v := .bool false) Try.results25 Try.ntmps25 rfl ?_
   exact ⟨_, rfl, k _ hc⟩

-- FN (*peloton/beat.Watch).Missing
def beat_Watch_Missing.J2 (j9 : Int) (k1 : (List Int) → Int → Option ((List Int))) (j13 : (List Int)) : Option ((List Int)) :=
  k1 j13 (IntKind.i64.wrap (j9 + 1))

def beat_Watch_Missing.L1 (x0 : S_beat_Watch) : Nat → (List Int) → Int → Option ((List Int))
  | 0, _, _ => none
  | m1 + 1, j5, j9 =>
    if j9 < ((x0.l.length : Nat) : Int) then
      (idx x0.l j9).bind fun y17 =>
      (beat_one_missing (⟨y17.ready, y17.life, y17.since⟩ : S_beat_one)).bind fun r30 =>
      if r30 = true then
        (app j5 ([j9])).bind fun z35 =>
        beat_Watch_Missing.J2 j9 (beat_Watch_Missing.L1 x0 m1) z35
      else
        beat_Watch_Missing.J2 j9 (beat_Watch_Missing.L1 x0 m1) j5
    else
      some j5

def beat_Watch_Missing (N : Nat) (x0 : S_beat_Watch) : Option ((List Int)) :=
  beat_Watch_Missing.L1 x0 N ([]) 0

set_option maxHeartbeats 2000000 in
theorem beat_Watch_Missing_any {N : Nat} {b0 : Nat} {x0 : S_beat_Watch} {Fr : List HP} {w : World} {r : (List Int)} {K : Value → World → Prop}  (hc : Ctx w (S_beat_Watch.hp b0 x0 :: Fr)) (hp : beat_Watch_Missing N x0 = some r)
    (k : ∀ (a43 : Option Addr) (n44 : Nat) (q45 : Nat) w', Ctx w' (Own (pInt .i64) 3 (.slice a43 n44 q45) r :: S_beat_Watch.hp b0 x0 :: Fr) → K (.slice a43 n44 q45) w') : Calls Try.prog 20 #[.pointer (some ⟨b0, 0, none⟩)] w (Ret K) := by
 unfold beat_Watch_Missing at hp
 refine Center (args := [.pointer (some ⟨b0, 0, none⟩)]) (l := [(0, .pointer (some ⟨b0, 0, none⟩))]) Try.func20 Try.ntmps20 rfl rfl rfl ?_
 refine Wseq ?_
 refine Wreg ?_
 refine rs (v := .slice none 0 0) (av (v := .slice none 0 0) rfl) rfl ?_
 refine rn ?_
 refine qn ?_
 refine Wseq ?_
 refine Wreg ?_
 refine rs (v := .pointer (some ⟨b0, 0, none⟩)) (mv (v := .pointer (some ⟨b0, 0, none⟩)) rfl) rfl ?_
 refine rc (cl Try.call24 rfl rfl) rfl ?_
 refine Center (args := [.pointer (some ⟨b0, 0, none⟩), .func (.func 25) #[] #[]]) (l := [(0, .pointer (some ⟨b0, 0, none⟩)), (1, .func (.func 25) #[] #[])]) Try.func24 Try.ntmps24 rfl rfl rfl ?_
 refine Wseq ?_
 refine Wreg ?_
 refine rs (v := .slice none 0 0) (av (v := .slice none 0 0) rfl) rfl ?_
 refine rn ?_
 refine qn ?_
 refine Wseq ?_
 refine Wreg ?_
 refine rs (v := .slice none 0 0) (av (v := .slice none 0 0) rfl) rfl ?_
 refine rn ?_
 refine qn ?_
 refine Wseq ?_
 refine Wseq ?_
 refine Wreg ?_
 refine rs (v := .pointer (some ⟨b0, 0, none⟩)) (mv (v := .pointer (some ⟨b0, 0, none⟩)) rfl) rfl ?_
 refine rs (v := .pointer (some ⟨b0, 0, none⟩)) (nl rfl) rfl ?_
 refine rs (v := .pointer (some ⟨b0, 2, none⟩)) (fax 2 rfl Try.underlying50 rfl Try.sizeOf48 rfl rfl rfl) rfl ?_
 replace hc := Ctx.exF hc; obtain ⟨v1, hc⟩ := hc
 replace hc := Ctx.sepF hc
 obtain ⟨a2, q3, u4⟩ := hc.rd (k := 1) rfl rfl reads_own; subst u4
 refine rs (v := .slice a2 x0.l.length q3) (ld rfl Try.isAgg48 (Ctx.cell hc (k := 0) rfl rfl rfl)) rfl ?_
 refine rs (v := .int .i64 ((x0.l.length : Nat) : Int)) (ln rfl Try.underlying48) rfl ?_
 refine rs (v := .int .i64 0) (mv (v := .int .i64 0) rfl) rfl ?_
 refine rn ?_
 refine qn ?_
 refine Wblk ?_
 replace hc := hc.nilOwn (pInt .i64) 3
 replace hc := hc.pull 2 rfl rfl
 replace hc := hc.pull 2 rfl rfl
 refine Wloop [5, 6, 7, 13, 14, 15, 16, 17, 18, 19, 20, 21, 22, 23, 24, 25] [5, 13] (fun m vs w' => ∃ j5 : (List Int), ∃ j9 : Int, ∃ a6 : Option Addr, ∃ n7 : Nat, ∃ q8 : Nat, vs = [.slice a6 n7 q8, .int .i64 j9] ∧ beat_Watch_Missing.L1 x0 m j5 j9 = some r ∧ Ctx w' (B b0 [.int .i64 x0.patience, .int .i64 x0.epoch, .slice a2 x0.l.length q3] 50 :: Own S_beat_one.pr 52 (.slice a2 x0.l.length q3) x0.l :: Own (pInt .i64) 3 (.slice a6 n7 q8) j5 :: Fr)) N ?_ ?_
 · exact ⟨[], 0, none, 0, 0, rfl, hp, hc⟩
 · clear hp hc; intro m vs u w10 hJ
   obtain ⟨j5, j9, a6, n7, q8, rfl, hp, hc⟩ := hJ
   obtain ⟨u11, _⟩ := Ctx.rdLen hc (k := 2) rfl rfl reads_own; subst u11
   rcases m with _ | m1
   · cases (show none = some r from hp)
   rw [beat_Watch_Missing.L1] at hp
   refine Wseq ?_
   refine Wreg ?_
   refine rs (v := .bool (decide (j9 < ((x0.l.length : Nat) : Int)))) (lt' rfl rfl) rfl ?_
   refine rn ?_
   refine qn ?_
   refine Wseq ?_
   cases hb12 : (decide (j9 < ((x0.l.length : Nat) : Int)))
   · replace hp := gneg hp (of_decide_eq_false hb12)
     refine Wcf rfl ?_
     refine Wexit ?_
     refine qx ?_
     refine qx ?_
     refine be ?_
     refine qn ?_
     refine Wseq ?_
     refine Wreg ?_
     refine rs (v := .slice a6 j5.length q8) (mv (v := .slice a6 j5.length q8) rfl) rfl ?_
     refine rs (v := .slice a6 j5.length q8) (av (v := .slice a6 j5.length q8) rfl) rfl ?_
     refine rn ?_
     refine qn ?_
     refine Wret ?_
     refine f1 (v := .slice a6 j5.length q8) Try.results24 Try.ntmps24 rfl ?_
     refine ⟨_, rfl, ?_⟩
     refine rs (v := .slice a6 j5.length q8) (av (v := .slice a6 j5.length q8) rfl) rfl ?_
     refine rn ?_
     refine qn ?_
     refine Wret ?_
     replace hc := hc.pull 1 rfl rfl
     replace hc := hc.pull 1 rfl rfl
     replace hc : Ctx w10 (S_beat_Watch.hp b0 x0 :: Own (pInt .i64) 3 (.slice a6 j5.length q8) j5 :: Fr) := Ctx.exB _ _ (Ctx.sepB hc)
     replace hc := hc.pull 1 rfl rfl
     injection hp with hp; subst hp
     refine f1 (v := .slice a6 j5.length q8) Try.results20 Try.ntmps20 rfl ?_
     exact ⟨_, rfl, k _ _ _ _ hc⟩
   · replace hp := gpos hp (of_decide_eq_true hb12)
     refine Wct rfl ?_
     refine Wskip ?_
     refine qn ?_
     refine Wseqm [5, 6, 7, 15, 16, 17, 18, 19, 20, 21, 22, 23, 24] [5] (fun vs w' => ∃ j13 : (List Int), ∃ a14 : Option Addr, ∃ n15 : Nat, ∃ q16 : Nat, vs = [.slice a14 n15 q16] ∧ beat_Watch_Missing.J2 j9 (beat_Watch_Missing.L1 x0 m1) j13 = some r ∧ Ctx w' (B b0 [.int .i64 x0.patience, .int .i64 x0.epoch, .slice a2 x0.l.length q3] 50 :: Own S_beat_one.pr 52 (.slice a2 x0.l.length q3) x0.l :: Own (pInt .i64) 3 (.slice a14 n15 q16) j13 :: Fr)) ?_ ?_
     · refine Wblk ?_
       refine Wseq ?_
       refine Wreg ?_
       refine rs (v := .int .i64 j9) (mv (v := .int .i64 j9) rfl) rfl ?_
       replace hp := bind_some hp; obtain ⟨y17, hy17, hp⟩ := hp
       obtain ⟨b20, o21, u22, hi18, hi19⟩ := Ctx.rdAt hc (k := 1) rfl rfl reads_own hy17
       subst u22
       refine rs (v := .pointer (some ⟨b20, o21 + (j9).toNat * 3, none⟩)) (ixx rfl rfl Try.underlying48 Try.sizeOf52 hi18 hi19 rfl) rfl ?_
       replace hc := Ctx.rdCell hc (k := 1) rfl rfl reads_own hy17; obtain ⟨cs23, hc, hcell24⟩ := hc
       replace hc := Ctx.holdC hc; obtain ⟨u25, hc⟩ := hc; subst u25
       refine rs (v := .agg #[.bool y17.ready, .int .i64 y17.life, .int .i64 y17.since]) (ldg rfl Try.isAgg52 Try.sizeOf52 rfl (elCells hcell24 0 (vs := [.bool y17.ready, .int .i64 y17.life, .int .i64 y17.since]) rfl)) rfl ?_
       refine rsE (Ctx.allocOp (cs := [.bool false, .int .i64 0, .int .i64 0]) hc Try.zeroValue52 rfl) rfl ?_
       clear hc; rintro _ w28 ⟨b26, rfl, hc⟩
       refine rs (v := .int .i64 j9) (av (v := .int .i64 j9) rfl) rfl ?_
       refine ruE (A := fun w' => Ctx w' (B b26 [.bool y17.ready, .int .i64 y17.life, .int .i64 y17.since] 52 :: B b0 [.int .i64 x0.patience, .int .i64 x0.epoch, .slice (some ⟨b20, o21, none⟩) x0.l.length q3] 50 :: Own S_beat_one.pr 52 (.slice (some ⟨b20, o21, none⟩) x0.l.length q3) x0.l :: Own (pInt .i64) 3 (.slice a6 j5.length q8) j5 :: Fr)) (Ctx.putAgg hc (k := 0) rfl rfl (vs := [.bool y17.ready, .int .i64 y17.life, .int .i64 y17.since]) rfl rfl rfl Try.sizeOf52 rfl rfl rfl) rfl ?_
       clear hc; rintro w29 hc
       refine rn ?_
       refine qn ?_
       refine Wseq ?_
       refine Wreg ?_
       refine rs (v := .func (.func 25) #[] #[]) (mv (v := .func (.func 25) #[] #[]) rfl) rfl ?_
       refine rs (v := .agg #[.bool y17.ready, .int .i64 y17.life, .int .i64 y17.since]) (ldg rfl Try.isAgg52 Try.sizeOf52 rfl (Ctx.cells hc (k := 0) rfl rfl 0 (vs := [.bool y17.ready, .int .i64 y17.life, .int .i64 y17.since]) rfl)) rfl ?_
       replace hp := bind_some hp; obtain ⟨r30, hr30, hp⟩ := hp
       refine rc (cl Try.call25 rfl rfl) rfl ?_
       refine beat_one_missing_any hc hr30 ?_
       clear hc; intro w31 hc
       refine rn ?_
       refine qn ?_
       cases hb32 : r30
       · replace hp := gneg hp (by rw [hb32]; exact Bool.false_ne_true)
         subst hb32
         refine Wcf rfl ?_
         refine Wskip ?_
         refine bn ?_
         refine qn ?_
         replace hc := hc.rem 0 rfl rfl
         exact ⟨⟨j5, a6, j5.length, q8, rfl, hp, hc⟩, (kl rfl kb)⟩
       · replace hp := gpos hp hb32
         subst hb32
         refine Wct rfl ?_
         refine Wreg ?_
         refine rs (v := .slice a6 j5.length q8) (mv (v := .slice a6 j5.length q8) rfl) rfl ?_
         refine rs (v := .int .i64 j9) (mv (v := .int .i64 j9) rfl) rfl ?_
         replace hc : Ctx w31 (Hold (pInt .i64) [.int .i64 j9] j9 :: B b26 [.bool y17.ready, .int .i64 y17.life, .int .i64 y17.since] 52 :: B b0 [.int .i64 x0.patience, .int .i64 x0.epoch, .slice (some ⟨b20, o21, none⟩) x0.l.length q3] 50 :: Own S_beat_one.pr 52 (.slice (some ⟨b20, o21, none⟩) x0.l.length q3) x0.l :: Own (pInt .i64) 3 (.slice a6 j5.length q8) j5 :: Fr) := hc.add _ fun _ _ _ => ⟨rfl, rfl⟩
         refine rsE (Ctx.builtOp (css := [[.int .i64 j9]]) (xs := ([j9] : List Int)) (E := (pInt .i64)) hc Try.underlying36 Try.sizeOf3 Try.zeroValue3 rfl rfl rfl rfl rfl rfl rfl rfl) rfl ?_
         clear hc; rintro _ w34 ⟨a33, rfl, hc⟩
         replace hp := bind_some hp; obtain ⟨z35, hz35, hp⟩ := hp
         obtain ⟨hg36, e37⟩ := app_some hz35
         refine rsE (Ctx.append hc (k := 4) rfl rfl (k2 := 0) rfl rfl reads_own Try.underlying36 (i := Try.t3) rfl rfl rfl rfl rfl rfl rfl rfl hg36) rfl ?_
         clear hc; rintro _ w40 ⟨a38, q39, rfl, hc⟩
         rw [← e37] at hc ⊢
         refine rs (v := .slice a38 z35.length q39) (av (v := .slice a38 z35.length q39) rfl) rfl ?_
         refine rn ?_
         refine bn ?_
         refine qn ?_
         replace hc := hc.rem 1 rfl rfl
         replace hc := hc.rem 0 rfl rfl
         exact ⟨⟨z35, a38, z35.length, q39, rfl, hp, hc⟩, (kl rfl kb)⟩
     · clear hp hc; intro vs u w41 hJ
       obtain ⟨j13, a14, n15, q16, rfl, hp, hc⟩ := hJ
       obtain ⟨u42, _⟩ := Ctx.rdLen hc (k := 2) rfl rfl reads_own; subst u42
       unfold beat_Watch_Missing.J2 at hp
       refine Wreg ?_
       refine rs (v := .int .i64 (IntKind.i64.wrap (j9 + 1))) (adw rfl rfl) rfl ?_
       refine rs (v := .int .i64 (IntKind.i64.wrap (j9 + 1))) (mv (v := .int .i64 (IntKind.i64.wrap (j9 + 1))) rfl) rfl ?_
       refine rn ?_
       refine qn ?_
       exact ⟨m1, Nat.lt_succ_self _, ⟨j13, (IntKind.i64.wrap (j9 + 1)), a14, j13.length, q16, rfl, hp, hc⟩, (kl rfl (km rfl (kl rfl k0)))⟩

-- FN (*peloton/beat.Watch).Late
def beat_Watch_Late.J2 (j12 : Int) (k1 : (List Int) → Int → Option ((List Int))) (j16 : (List Int)) : Option ((List Int)) :=
  k1 j16 (IntKind.i64.wrap (j12 + 1))

def beat_Watch_Late.J3 (j8 : (List Int)) (j12 : Int) (k1 : (List Int) → Int → Option ((List Int))) (j33 : Bool) : Option ((List Int)) :=
  if j33 = true then
    (app j8 ([j12])).bind fun z43 =>
    beat_Watch_Late.J2 j12 k1 z43
  else
    beat_Watch_Late.J2 j12 k1 j8

def beat_Watch_Late.L1 (x0 : S_beat_Watch) : Nat → (List Int) → Int → Option ((List Int))
  | 0, _, _ => none
  | m1 + 1, j8, j12 =>
    if j12 < ((x0.l.length : Nat) : Int) then
      (idx x0.l j12).bind fun y20 =>
      if y20.ready = true then
        beat_Watch_Late.J3 j8 j12 (beat_Watch_Late.L1 x0 m1) (decide (y20.since ≥ x0.patience))
      else
        beat_Watch_Late.J3 j8 j12 (beat_Watch_Late.L1 x0 m1) false
    else
      some j8

def beat_Watch_Late (N : Nat) (x0 : S_beat_Watch) : Option ((List Int)) :=
  beat_Watch_Late.L1 x0 N ([]) 0

set_option maxHeartbeats 2000000 in
theorem beat_Watch_Late_any {N : Nat} {b0 : Nat} {x0 : S_beat_Watch} {Fr : List HP} {w : World} {r : (List Int)} {K : Value → World → Prop}  (hc : Ctx w (S_beat_Watch.hp b0 x0 :: Fr)) (hp : beat_Watch_Late N x0 = some r)
    (k : ∀ (a51 : Option Addr) (n52 : Nat) (q53 : Nat) w', Ctx w' (Own (pInt .i64) 3 (.slice a51 n52 q53) r :: S_beat_Watch.hp b0 x0 :: Fr) → K (.slice a51 n52 q53) w') : Calls Try.prog 21 #[.pointer (some ⟨b0, 0, none⟩)] w (Ret K) := by
 unfold beat_Watch_Late at hp
 refine Center (args := [.pointer (some ⟨b0, 0, none⟩)]) (l := [(0, .pointer (some ⟨b0, 0, none⟩))]) Try.func21 Try.ntmps21 rfl rfl rfl ?_
 refine Wseq ?_
 refine Wreg ?_
 refine rsE (Ctx.boxOp (cs := [.pointer (some ⟨b0, 0, none⟩)]) (v := .pointer (some ⟨b0, 0, none⟩)) hc rfl rfl) rfl ?_
 clear hc; rintro _ w3 ⟨b1, rfl, hc⟩
 refine rs (v := .slice none 0 0) (av (v := .slice none 0 0) rfl) rfl ?_
 refine rn ?_
 refine qn ?_
 refine Wseq ?_
 refine Wreg ?_
 refine rs (v := .pointer (some ⟨b0, 0, none⟩)) (ld rfl Try.isAgg24 (Ctx.cell hc (k := 0) rfl rfl rfl)) rfl ?_
 refine rs (v := .func (.func 26) #[] #[.pointer (some ⟨b1, 0, none⟩)]) (mkf rfl rfl) rfl ?_
 refine rc (cl Try.call24 rfl rfl) rfl ?_
 refine Center (args := [.pointer (some ⟨b0, 0, none⟩), .func (.func 26) #[] #[.pointer (some ⟨b1, 0, none⟩)]]) (l := [(0, .pointer (some ⟨b0, 0, none⟩)), (1, .func (.func 26) #[] #[.pointer (some ⟨b1, 0, none⟩)])]) Try.func24 Try.ntmps24 rfl rfl rfl ?_
 refine Wseq ?_
 refine Wreg ?_
 refine rs (v := .slice none 0 0) (av (v := .slice none 0 0) rfl) rfl ?_
 refine rn ?_
 refine qn ?_
 refine Wseq ?_
 refine Wreg ?_
 refine rs (v := .slice none 0 0) (av (v := .slice none 0 0) rfl) rfl ?_
 refine rn ?_
 refine qn ?_
 refine Wseq ?_
 refine Wseq ?_
 refine Wreg ?_
 refine rs (v := .pointer (some ⟨b0, 0, none⟩)) (mv (v := .pointer (some ⟨b0, 0, none⟩)) rfl) rfl ?_
 refine rs (v := .pointer (some ⟨b0, 0, none⟩)) (nl rfl) rfl ?_
 refine rs (v := .pointer (some ⟨b0, 2, none⟩)) (fax 2 rfl Try.underlying50 rfl Try.sizeOf48 rfl rfl rfl) rfl ?_
 replace hc := hc.pull 1 rfl rfl
 replace hc := Ctx.exF hc; obtain ⟨v4, hc⟩ := hc
 replace hc := Ctx.sepF hc
 obtain ⟨a5, q6, u7⟩ := hc.rd (k := 1) rfl rfl reads_own; subst u7
 refine rs (v := .slice a5 x0.l.length q6) (ld rfl Try.isAgg48 (Ctx.cell hc (k := 0) rfl rfl rfl)) rfl ?_
 refine rs (v := .int .i64 ((x0.l.length : Nat) : Int)) (ln rfl Try.underlying48) rfl ?_
 refine rs (v := .int .i64 0) (mv (v := .int .i64 0) rfl) rfl ?_
 refine rn ?_
 refine qn ?_
 refine Wblk ?_
 replace hc := hc.nilOwn (pInt .i64) 3
 replace hc := hc.pull 3 rfl rfl
 replace hc := hc.pull 3 rfl rfl
 replace hc := hc.pull 3 rfl rfl
 refine Wloop [5, 6, 7, 13, 14, 15, 16, 17, 18, 19, 20, 21, 22, 23, 24, 25] [5, 13] (fun m vs w' => ∃ j8 : (List Int), ∃ j12 : Int, ∃ a9 : Option Addr, ∃ n10 : Nat, ∃ q11 : Nat, vs = [.slice a9 n10 q11, .int .i64 j12] ∧ beat_Watch_Late.L1 x0 m j8 j12 = some r ∧ Ctx w' (B b0 [.int .i64 x0.patience, .int .i64 x0.epoch, .slice a5 x0.l.length q6] 50 :: Own S_beat_one.pr 52 (.slice a5 x0.l.length q6) x0.l :: B b1 [.pointer (some ⟨b0, 0, none⟩)] 24 :: Own (pInt .i64) 3 (.slice a9 n10 q11) j8 :: Fr)) N ?_ ?_
 · exact ⟨[], 0, none, 0, 0, rfl, hp, hc⟩
 · clear hp hc; intro m vs u w13 hJ
   obtain ⟨j8, j12, a9, n10, q11, rfl, hp, hc⟩ := hJ
   obtain ⟨u14, _⟩ := Ctx.rdLen hc (k := 3) rfl rfl reads_own; subst u14
   rcases m with _ | m1
   · cases (show none = some r from hp)
   rw [beat_Watch_Late.L1] at hp
   refine Wseq ?_
   refine Wreg ?_
   refine rs (v := .bool (decide (j12 < ((x0.l.length : Nat) : Int)))) (lt' rfl rfl) rfl ?_
   refine rn ?_
   refine qn ?_
   refine Wseq ?_
   cases hb15 : (decide (j12 < ((x0.l.length : Nat) : Int)))
   · replace hp := gneg hp (of_decide_eq_false hb15)
     refine Wcf rfl ?_
     refine Wexit ?_
     refine qx ?_
     refine qx ?_
     refine be ?_
     refine qn ?_
     refine Wseq ?_
     refine Wreg ?_
     refine rs (v := .slice a9 j8.length q11) (mv (v := .slice a9 j8.length q11) rfl) rfl ?_
     refine rs (v := .slice a9 j8.length q11) (av (v := .slice a9 j8.length q11) rfl) rfl ?_
     refine rn ?_
     refine qn ?_
     refine Wret ?_
     refine f1 (v := .slice a9 j8.length q11) Try.results24 Try.ntmps24 rfl ?_
     refine ⟨_, rfl, ?_⟩
     refine rs (v := .slice a9 j8.length q11) (av (v := .slice a9 j8.length q11) rfl) rfl ?_
     refine rn ?_
     refine qn ?_
     refine Wret ?_
     replace hc := hc.pull 1 rfl rfl
     replace hc := hc.pull 1 rfl rfl
     replace hc : Ctx w13 (S_beat_Watch.hp b0 x0 :: B b1 [.pointer (some ⟨b0, 0, none⟩)] 24 :: Own (pInt .i64) 3 (.slice a9 j8.length q11) j8 :: Fr) := Ctx.exB _ _ (Ctx.sepB hc)
     replace hc := hc.rem 1 rfl rfl
     replace hc := hc.pull 1 rfl rfl
     injection hp with hp; subst hp
     refine f1 (v := .slice a9 j8.length q11) Try.results21 Try.ntmps21 rfl ?_
     exact ⟨_, rfl, k _ _ _ _ hc⟩
   · replace hp := gpos hp (of_decide_eq_true hb15)
     refine Wct rfl ?_
     refine Wskip ?_
     refine qn ?_
     refine Wseqm [5, 6, 7, 15, 16, 17, 18, 19, 20, 21, 22, 23, 24] [5] (fun vs w' => ∃ j16 : (List Int), ∃ a17 : Option Addr, ∃ n18 : Nat, ∃ q19 : Nat, vs = [.slice a17 n18 q19] ∧ beat_Watch_Late.J2 j12 (beat_Watch_Late.L1 x0 m1) j16 = some r ∧ Ctx w' (B b0 [.int .i64 x0.patience, .int .i64 x0.epoch, .slice a5 x0.l.length q6] 50 :: Own S_beat_one.pr 52 (.slice a5 x0.l.length q6) x0.l :: B b1 [.pointer (some ⟨b0, 0, none⟩)] 24 :: Own (pInt .i64) 3 (.slice a17 n18 q19) j16 :: Fr)) ?_ ?_
     · refine Wblk ?_
       refine Wseq ?_
       refine Wreg ?_
       refine rs (v := .int .i64 j12) (mv (v := .int .i64 j12) rfl) rfl ?_
       replace hp := bind_some hp; obtain ⟨y20, hy20, hp⟩ := hp
       obtain ⟨b23, o24, u25, hi21, hi22⟩ := Ctx.rdAt hc (k := 1) rfl rfl reads_own hy20
       subst u25
       refine rs (v := .pointer (some ⟨b23, o24 + (j12).toNat * 3, none⟩)) (ixx rfl rfl Try.underlying48 Try.sizeOf52 hi21 hi22 rfl) rfl ?_
       replace hc := Ctx.rdCell hc (k := 1) rfl rfl reads_own hy20; obtain ⟨cs26, hc, hcell27⟩ := hc
       replace hc := Ctx.holdC hc; obtain ⟨u28, hc⟩ := hc; subst u28
       refine rs (v := .agg #[.bool y20.ready, .int .i64 y20.life, .int .i64 y20.since]) (ldg rfl Try.isAgg52 Try.sizeOf52 rfl (elCells hcell27 0 (vs := [.bool y20.ready, .int .i64 y20.life, .int .i64 y20.since]) rfl)) rfl ?_
       refine rsE (Ctx.allocOp (cs := [.bool false, .int .i64 0, .int .i64 0]) hc Try.zeroValue52 rfl) rfl ?_
       clear hc; rintro _ w31 ⟨b29, rfl, hc⟩
       refine rs (v := .int .i64 j12) (av (v := .int .i64 j12) rfl) rfl ?_
       refine ruE (A := fun w' => Ctx w' (B b29 [.bool y20.ready, .int .i64 y20.life, .int .i64 y20.since] 52 :: B b0 [.int .i64 x0.patience, .int .i64 x0.epoch, .slice (some ⟨b23, o24, none⟩) x0.l.length q6] 50 :: Own S_beat_one.pr 52 (.slice (some ⟨b23, o24, none⟩) x0.l.length q6) x0.l :: B b1 [.pointer (some ⟨b0, 0, none⟩)] 24 :: Own (pInt .i64) 3 (.slice a9 j8.length q11) j8 :: Fr)) (Ctx.putAgg hc (k := 0) rfl rfl (vs := [.bool y20.ready, .int .i64 y20.life, .int .i64 y20.since]) rfl rfl rfl Try.sizeOf52 rfl rfl rfl) rfl ?_
       clear hc; rintro w32 hc
       refine rn ?_
       refine qn ?_
       refine Wseqm [18, 19, 20] [20] (fun vs w' => ∃ j33 : Bool, vs = [.bool j33] ∧ beat_Watch_Late.J3 j8 j12 (beat_Watch_Late.L1 x0 m1) j33 = some r ∧ Ctx w' (B b0 [.int .i64 x0.patience, .int .i64 x0.epoch, .slice (some ⟨b23, o24, none⟩) x0.l.length q6] 50 :: Own S_beat_one.pr 52 (.slice (some ⟨b23, o24, none⟩) x0.l.length q6) x0.l :: B b1 [.pointer (some ⟨b0, 0, none⟩)] 24 :: Own (pInt .i64) 3 (.slice a9 j8.length q11) j8 :: Fr)) ?_ ?_
       · refine Wreg ?_
         refine rs (v := .func (.func 26) #[] #[.pointer (some ⟨b1, 0, none⟩)]) (mv (v := .func (.func 26) #[] #[.pointer (some ⟨b1, 0, none⟩)]) rfl) rfl ?_
         refine rs (v := .agg #[.bool y20.ready, .int .i64 y20.life, .int .i64 y20.since]) (ldg rfl Try.isAgg52 Try.sizeOf52 rfl (Ctx.cells hc (k := 0) rfl rfl 0 (vs := [.bool y20.ready, .int .i64 y20.life, .int .i64 y20.since]) rfl)) rfl ?_
         refine rc (cv (fi := []) (ca := [.pointer (some ⟨b1, 0, none⟩)]) (vs := [.agg #[.bool y20.ready, .int .i64 y20.life, .int .i64 y20.since], .pointer (some ⟨b1, 0, none⟩)]) Try.call26 rfl rfl) rfl ?_
         refine Center (args := [.agg #[.bool y20.ready, .int .i64 y20.life, .int .i64 y20.since], .pointer (some ⟨b1, 0, none⟩)]) (l := [(0, .agg #[.bool y20.ready, .int .i64 y20.life, .int .i64 y20.since]), (1, .pointer (some ⟨b1, 0, none⟩))]) Try.func26 Try.ntmps26 rfl rfl rfl ?_
         refine Wseq ?_
         refine Wreg ?_
         refine rsE (Ctx.boxOp (cs := [.bool y20.ready, .int .i64 y20.life, .int .i64 y20.since]) (v := .agg #[.bool y20.ready, .int .i64 y20.life, .int .i64 y20.since]) hc rfl rfl) rfl ?_
         clear hc; rintro _ w36 ⟨b34, rfl, hc⟩
         refine rs (v := .bool false) (av (v := .bool false) rfl) rfl ?_
         refine rn ?_
         refine qn ?_
         refine Wseq ?_
         replace hc := hc.drew
         refine Wdrw (fun w' => Ctx w' (B b34 [.bool y20.ready, .int .i64 y20.life, .int .i64 y20.since] 52 :: B b29 [.bool y20.ready, .int .i64 y20.life, .int .i64 y20.since] 52 :: B b0 [.int .i64 x0.patience, .int .i64 x0.epoch, .slice (some ⟨b23, o24, none⟩) x0.l.length q6] 50 :: Own S_beat_one.pr 52 (.slice (some ⟨b23, o24, none⟩) x0.l.length q6) x0.l :: B b1 [.pointer (some ⟨b0, 0, none⟩)] 24 :: Own (pInt .i64) 3 (.slice a9 j8.length q11) j8 :: Fr)) [0, 1, 3, 7, 15, 7, 39, 103, 231, 511, 1023, 2047] 0 rfl (by kernel_rfl) (hc) ?_
         generalize hw : World.drew w36 = w37 at *
         clear hw
         refine ds (v := .pointer (some ⟨b34, 0, none⟩)) (fun w' hF => fax 0 rfl Try.underlying52 rfl Try.sizeOf4 rfl rfl rfl) rfl ?_
         refine ds (v := .bool y20.ready) (fun w' hF => ld rfl Try.isAgg4 (Ctx.cell hF (k := 0) rfl rfl rfl)) rfl ?_
         refine ds (v := .bool y20.ready) (fun w' hF => mv (v := .bool y20.ready) rfl) rfl ?_
         cases hb38 : y20.ready
         · replace hp := gneg hp (by rw [hb38]; exact Bool.false_ne_true)
           refine d0 rfl ?_
           refine d0 rfl ?_
           refine d0 rfl ?_
           refine d0 rfl ?_
           refine d0 rfl ?_
           refine d0 rfl ?_
           refine d0 rfl ?_
           refine ds (v := .bool false) (fun w' hF => pkf (v := .bool false) rfl rfl) rfl ?_
           refine ds (v := .bool false) (fun w' hF => av (v := .bool false) rfl) rfl ?_
           refine dn ?_
           refine qn ?_
           refine Wret ?_
           refine f1 (v := .bool false) Try.results26 Try.ntmps26 rfl ?_
           refine ⟨_, rfl, ?_⟩
           refine rn ?_
           refine qn ?_
           replace hc := hc.rem 1 rfl rfl
           replace hc := hc.rem 0 rfl rfl
           exact ⟨⟨false, rfl, hp, hc⟩, (kl rfl kb)⟩
         · replace hp := gpos hp hb38
           refine ds (v := .pointer (some ⟨b34, 2, none⟩)) (fun w' hF => fax 2 rfl Try.underlying52 rfl Try.sizeOf3 rfl rfl rfl) rfl ?_
           refine ds (v := .int .i64 y20.since) (fun w' hF => ld rfl Try.isAgg3 (Ctx.cell hF (k := 0) rfl rfl rfl)) rfl ?_
           refine ds (v := .pointer (some ⟨b0, 0, none⟩)) (fun w' hF => ld rfl Try.isAgg24 (Ctx.cell hF (k := 4) rfl rfl rfl)) rfl ?_
           refine ds (v := .pointer (some ⟨b0, 0, none⟩)) (fun w' hF => nl rfl) rfl ?_
           refine ds (v := .pointer (some ⟨b0, 0, none⟩)) (fun w' hF => fax 0 rfl Try.underlying50 rfl Try.sizeOf3 rfl rfl rfl) rfl ?_
           refine ds (v := .int .i64 x0.patience) (fun w' hF => ld rfl Try.isAgg3 (Ctx.cell hF (k := 2) rfl rfl rfl)) rfl ?_
           refine ds (v := .bool (decide (y20.since ≥ x0.patience))) (fun w' hF => ge' rfl rfl) rfl ?_
           refine ds (v := .bool (decide (y20.since ≥ x0.patience))) (fun w' hF => pkt (v := .bool (decide (y20.since ≥ x0.patience))) rfl rfl) rfl ?_
           refine ds (v := .bool (decide (y20.since ≥ x0.patience))) (fun w' hF => av (v := .bool (decide (y20.since ≥ x0.patience))) rfl) rfl ?_
           refine dn ?_
           refine qn ?_
           refine Wret ?_
           refine f1 (v := .bool (decide (y20.since ≥ x0.patience))) Try.results26 Try.ntmps26 rfl ?_
           refine ⟨_, rfl, ?_⟩
           refine rn ?_
           refine qn ?_
           replace hc := hc.rem 1 rfl rfl
           replace hc := hc.rem 0 rfl rfl
           exact ⟨⟨decide (y20.since ≥ x0.patience), rfl, hp, hc⟩, (kl rfl kb)⟩
       · clear hp hc; intro vs u w39 hJ
         obtain ⟨j33, rfl, hp, hc⟩ := hJ
         unfold beat_Watch_Late.J3 at hp
         cases hb40 : j33
         · replace hp := gneg hp (by rw [hb40]; exact Bool.false_ne_true)
           subst hb40
           refine Wcf rfl ?_
           refine Wskip ?_
           refine bn ?_
           refine qn ?_
           exact ⟨⟨j8, a9, j8.length, q11, rfl, hp, hc⟩, (kl rfl (km rfl (kl rfl kb)))⟩
         · replace hp := gpos hp hb40
           subst hb40
           refine Wct rfl ?_
           refine Wreg ?_
           refine rs (v := .slice a9 j8.length q11) (mv (v := .slice a9 j8.length q11) rfl) rfl ?_
           refine rs (v := .int .i64 j12) (mv (v := .int .i64 j12) rfl) rfl ?_
           replace hc : Ctx w39 (Hold (pInt .i64) [.int .i64 j12] j12 :: B b0 [.int .i64 x0.patience, .int .i64 x0.epoch, .slice (some ⟨b23, o24, none⟩) x0.l.length q6] 50 :: Own S_beat_one.pr 52 (.slice (some ⟨b23, o24, none⟩) x0.l.length q6) x0.l :: B b1 [.pointer (some ⟨b0, 0, none⟩)] 24 :: Own (pInt .i64) 3 (.slice a9 j8.length q11) j8 :: Fr) := hc.add _ fun _ _ _ => ⟨rfl, rfl⟩
           refine rsE (Ctx.builtOp (css := [[.int .i64 j12]]) (xs := ([j12] : List Int)) (E := (pInt .i64)) hc Try.underlying36 Try.sizeOf3 Try.zeroValue3 rfl rfl rfl rfl rfl rfl rfl rfl) rfl ?_
           clear hc; rintro _ w42 ⟨a41, rfl, hc⟩
           replace hp := bind_some hp; obtain ⟨z43, hz43, hp⟩ := hp
           obtain ⟨hg44, e45⟩ := app_some hz43
           refine rsE (Ctx.append hc (k := 4) rfl rfl (k2 := 0) rfl rfl reads_own Try.underlying36 (i := Try.t3) rfl rfl rfl rfl rfl rfl rfl rfl hg44) rfl ?_
           clear hc; rintro _ w48 ⟨a46, q47, rfl, hc⟩
           rw [← e45] at hc ⊢
           refine rs (v := .slice a46 z43.length q47) (av (v := .slice a46 z43.length q47) rfl) rfl ?_
           refine rn ?_
           refine bn ?_
           refine qn ?_
           replace hc := hc.rem 0 rfl rfl
           exact ⟨⟨z43, a46, z43.length, q47, rfl, hp, hc⟩, (kl rfl (km rfl (kl rfl kb)))⟩
     · clear hp hc; intro vs u w49 hJ
       obtain ⟨j16, a17, n18, q19, rfl, hp, hc⟩ := hJ
       obtain ⟨u50, _⟩ := Ctx.rdLen hc (k := 3) rfl rfl reads_own; subst u50
       unfold beat_Watch_Late.J2 at hp
       refine Wreg ?_
       refine rs (v := .int .i64 (IntKind.i64.wrap (j12 + 1))) (adw rfl rfl) rfl ?_
       refine rs (v := .int .i64 (IntKind.i64.wrap (j12 + 1))) (mv (v := .int .i64 (IntKind.i64.wrap (j12 + 1))) rfl) rfl ?_
       refine rn ?_
       refine qn ?_
       exact ⟨m1, Nat.lt_succ_self _, ⟨j16, (IntKind.i64.wrap (j12 + 1)), a17, j16.length, q19, rfl, hp, hc⟩, (kl rfl (km rfl (kl rfl k0)))⟩

-- FN (*peloton/beat.Watch).Whole
def beat_Watch_Whole (N : Nat) (x0 : S_beat_Watch) : Option (Bool) :=
  (beat_Watch_Missing N x0).bind fun r1 =>
  some (decide (((r1.length : Nat) : Int) = 0))

set_option maxHeartbeats 2000000 in
theorem beat_Watch_Whole_any {N : Nat} {b0 : Nat} {x0 : S_beat_Watch} {Fr : List HP} {w : World} {r : Bool} {K : Value → World → Prop}  (hc : Ctx w (S_beat_Watch.hp b0 x0 :: Fr)) (hp : beat_Watch_Whole N x0 = some r)
    (k : ∀ w', Ctx w' (S_beat_Watch.hp b0 x0 :: Fr) → K (.bool r) w') : Calls Try.prog 18 #[.pointer (some ⟨b0, 0, none⟩)] w (Ret K) := by
 unfold beat_Watch_Whole at hp
 refine Center (args := [.pointer (some ⟨b0, 0, none⟩)]) (l := [(0, .pointer (some ⟨b0, 0, none⟩))]) Try.func18 Try.ntmps18 rfl rfl rfl ?_
 refine Wseq ?_
 refine Wreg ?_
 refine rs (v := .bool false) (av (v := .bool false) rfl) rfl ?_
 refine rn ?_
 refine qn ?_
 refine Wseq ?_
 refine Wreg ?_
 refine rs (v := .pointer (some ⟨b0, 0, none⟩)) (mv (v := .pointer (some ⟨b0, 0, none⟩)) rfl) rfl ?_
 replace hp := bind_some hp; obtain ⟨r1, hr1, hp⟩ := hp
 refine rc (cl Try.call20 rfl rfl) rfl ?_
 refine beat_Watch_Missing_any hc hr1 ?_
 clear hc; intro a2 n3 q4 w5 hc
 obtain ⟨u6, _⟩ := Ctx.rdLen hc (k := 0) rfl rfl reads_own; subst u6
 refine rs (v := .int .i64 ((r1.length : Nat) : Int)) (ln rfl Try.underlying36) rfl ?_
 refine rs (v := .bool (decide (((r1.length : Nat) : Int) = 0))) (eqd rfl rfl) rfl ?_
 refine rs (v := .bool (decide (((r1.length : Nat) : Int) = 0))) (av (v := .bool (decide (((r1.length : Nat) : Int) = 0))) rfl) rfl ?_
 refine rn ?_
 refine qn ?_
 refine Wret ?_
 replace hc := hc.rem 0 rfl rfl
 injection hp with hp; subst hp
 refine f1 (v := .bool (decide (((r1.length : Nat) : Int) = 0))) Try.results18 Try.ntmps18 rfl ?_
 exact ⟨_, rfl, k _ hc⟩

-- FN (*peloton/beat.Watch).Tick
def beat_Watch_Tick.L1 (N : Nat) (x0 : S_beat_Watch) : Nat → S_beat_Watch → Int → Option (Bool × S_beat_Watch)
  | 0, _, _ => none
  | m1 + 1, j5, j6 =>
    if j6 < ((x0.l.length : Nat) : Int) then
      (idx j5.l j6).bind fun y25 =>
      (idx j5.l j6).bind fun y34 =>
      (beat_Watch_Tick.L1 N x0 m1) (⟨j5.patience, j5.epoch, (j5.l.set (j6).toNat ({ y34 with since := (IntKind.i64.wrap (y25.since + 1)) }))⟩ : S_beat_Watch) (IntKind.i64.wrap (j6 + 1))
    else
      (beat_Watch_Whole N j5).bind fun r9 =>
      if r9 = true then
        (beat_Watch_Late N j5).bind fun r12 =>
        if ((r12.length : Nat) : Int) = 0 then
          some (false, j5)
        else
          (beat_Watch_Bump j5).bind fun r19 =>
          some (true, r19.2)
      else
        some (false, j5)

def beat_Watch_Tick (N : Nat) (x0 : S_beat_Watch) : Option (Bool × S_beat_Watch) :=
  beat_Watch_Tick.L1 N x0 N x0 0

set_option maxHeartbeats 2000000 in
theorem beat_Watch_Tick_any {N : Nat} {b0 : Nat} {x0 : S_beat_Watch} {Fr : List HP} {w : World} {r : Bool × S_beat_Watch} {K : Value → World → Prop}  (hc : Ctx w (S_beat_Watch.hp b0 x0 :: Fr)) (hp : beat_Watch_Tick N x0 = some r)
    (k : ∀ w', Ctx w' (S_beat_Watch.hp b0 r.2 :: Fr) → K (.bool r.1) w') : Calls Try.prog 9 #[.pointer (some ⟨b0, 0, none⟩)] w (Ret K) := by
 unfold beat_Watch_Tick at hp
 refine Center (args := [.pointer (some ⟨b0, 0, none⟩)]) (l := [(0, .pointer (some ⟨b0, 0, none⟩))]) Try.func9 Try.ntmps9 rfl rfl rfl ?_
 refine Wseq ?_
 refine Wreg ?_
 refine rs (v := .bool false) (av (v := .bool false) rfl) rfl ?_
 refine rn ?_
 refine qn ?_
 refine Wseq ?_
 refine Wseq ?_
 refine Wreg ?_
 refine rs (v := .pointer (some ⟨b0, 0, none⟩)) (mv (v := .pointer (some ⟨b0, 0, none⟩)) rfl) rfl ?_
 refine rs (v := .pointer (some ⟨b0, 0, none⟩)) (nl rfl) rfl ?_
 refine rs (v := .pointer (some ⟨b0, 2, none⟩)) (fax 2 rfl Try.underlying50 rfl Try.sizeOf48 rfl rfl rfl) rfl ?_
 replace hc := Ctx.exF hc; obtain ⟨v1, hc⟩ := hc
 replace hc := Ctx.sepF hc
 obtain ⟨a2, q3, u4⟩ := hc.rd (k := 1) rfl rfl reads_own; subst u4
 refine rs (v := .slice a2 x0.l.length q3) (ld rfl Try.isAgg48 (Ctx.cell hc (k := 0) rfl rfl rfl)) rfl ?_
 refine rs (v := .int .i64 ((x0.l.length : Nat) : Int)) (ln rfl Try.underlying48) rfl ?_
 refine rs (v := .int .i64 0) (mv (v := .int .i64 0) rfl) rfl ?_
 refine rn ?_
 refine qn ?_
 refine Wblk ?_
 replace hc := hc.pull 1 rfl rfl
 replace hc := hc.pull 1 rfl rfl
 replace hc : Ctx w (S_beat_Watch.hp b0 x0 :: Fr) := Ctx.exB _ _ (Ctx.sepB hc)
 refine Wloop [3, 9, 10, 11, 12, 13, 14, 15, 16, 17, 18, 19, 20, 21, 22, 23] [9] (fun m vs w' => ∃ j5 : S_beat_Watch, ∃ j6 : Int, vs = [.int .i64 j6] ∧ beat_Watch_Tick.L1 N x0 m j5 j6 = some r ∧ Ctx w' (S_beat_Watch.hp b0 j5 :: Fr)) N ?_ ?_
 · exact ⟨x0, 0, rfl, hp, hc⟩
 · clear hp hc; intro m vs u w7 hJ
   obtain ⟨j5, j6, rfl, hp, hc⟩ := hJ
   rcases m with _ | m1
   · cases (show none = some r from hp)
   rw [beat_Watch_Tick.L1] at hp
   refine Wseq ?_
   refine Wreg ?_
   refine rs (v := .bool (decide (j6 < ((x0.l.length : Nat) : Int)))) (lt' rfl rfl) rfl ?_
   refine rn ?_
   refine qn ?_
   refine Wseq ?_
   cases hb8 : (decide (j6 < ((x0.l.length : Nat) : Int)))
   · replace hp := gneg hp (of_decide_eq_false hb8)
     refine Wcf rfl ?_
     refine Wexit ?_
     refine qx ?_
     refine qx ?_
     refine be ?_
     refine qn ?_
     refine Wseq ?_
     refine Wseq ?_
     refine Wreg ?_
     refine rs (v := .pointer (some ⟨b0, 0, none⟩)) (mv (v := .pointer (some ⟨b0, 0, none⟩)) rfl) rfl ?_
     replace hp := bind_some hp; obtain ⟨r9, hr9, hp⟩ := hp
     refine rc (cl Try.call18 rfl rfl) rfl ?_
     refine beat_Watch_Whole_any hc hr9 ?_
     clear hc; intro w10 hc
     cases hb11 : r9
     · replace hp := gneg hp (by rw [hb11]; exact Bool.false_ne_true)
       subst hb11
       refine rs (v := .bool true) (ntf rfl) rfl ?_
       refine rs (v := .bool true) (mv (v := .bool true) rfl) rfl ?_
       refine r0 rfl ?_
       refine r0 rfl ?_
       refine r0 rfl ?_
       refine r0 rfl ?_
       refine rs (v := .bool true) (pkt (v := .bool true) rfl rfl) rfl ?_
       refine rn ?_
       refine qn ?_
       refine Wct rfl ?_
       refine Wseq ?_
       refine Wreg ?_
       refine rs (v := .bool false) (av (v := .bool false) rfl) rfl ?_
       refine rn ?_
       refine qn ?_
       refine Wret ?_
       refine qr ?_
       injection hp with hp; subst hp
       refine f1 (v := .bool false) Try.results9 Try.ntmps9 rfl ?_
       exact ⟨_, rfl, k _ hc⟩
     · replace hp := gpos hp hb11
       subst hb11
       refine rs (v := .bool false) (ntt rfl) rfl ?_
       refine rs (v := .bool false) (mv (v := .bool false) rfl) rfl ?_
       refine rs (v := .pointer (some ⟨b0, 0, none⟩)) (mv (v := .pointer (some ⟨b0, 0, none⟩)) rfl) rfl ?_
       replace hp := bind_some hp; obtain ⟨r12, hr12, hp⟩ := hp
       refine rc (cl Try.call21 rfl rfl) rfl ?_
       refine beat_Watch_Late_any hc hr12 ?_
       clear hc; intro a13 n14 q15 w16 hc
       obtain ⟨u17, _⟩ := Ctx.rdLen hc (k := 0) rfl rfl reads_own; subst u17
       refine rs (v := .int .i64 ((r12.length : Nat) : Int)) (ln rfl Try.underlying36) rfl ?_
       refine rs (v := .bool (decide (((r12.length : Nat) : Int) = 0))) (eqd rfl rfl) rfl ?_
       refine rs (v := .bool (decide (((r12.length : Nat) : Int) = 0))) (pkf (v := .bool (decide (((r12.length : Nat) : Int) = 0))) rfl rfl) rfl ?_
       refine rn ?_
       refine qn ?_
       cases hb18 : (decide (((r12.length : Nat) : Int) = 0))
       · replace hp := gneg hp (of_decide_eq_false hb18)
         refine Wcf rfl ?_
         refine Wskip ?_
         refine qn ?_
         refine Wseq ?_
         refine Wreg ?_
         refine rs (v := .pointer (some ⟨b0, 0, none⟩)) (mv (v := .pointer (some ⟨b0, 0, none⟩)) rfl) rfl ?_
         replace hp := bind_some hp; obtain ⟨r19, hr19, hp⟩ := hp
         replace hc := hc.pull 1 rfl rfl
         refine rc (cl Try.call15 rfl rfl) rfl ?_
         refine beat_Watch_Bump_any hc hr19 ?_
         clear hc; intro w20 hc
         refine rn ?_
         refine qn ?_
         refine Wseq ?_
         refine Wreg ?_
         refine rs (v := .bool true) (av (v := .bool true) rfl) rfl ?_
         refine rn ?_
         refine qn ?_
         refine Wret ?_
         replace hc := hc.rem 1 rfl rfl
         injection hp with hp; subst hp
         refine f1 (v := .bool true) Try.results9 Try.ntmps9 rfl ?_
         exact ⟨_, rfl, k _ hc⟩
       · replace hp := gpos hp (of_decide_eq_true hb18)
         refine Wct rfl ?_
         refine Wseq ?_
         refine Wreg ?_
         refine rs (v := .bool false) (av (v := .bool false) rfl) rfl ?_
         refine rn ?_
         refine qn ?_
         refine Wret ?_
         refine qr ?_
         replace hc := hc.rem 0 rfl rfl
         injection hp with hp; subst hp
         refine f1 (v := .bool false) Try.results9 Try.ntmps9 rfl ?_
         exact ⟨_, rfl, k _ hc⟩
   · replace hp := gpos hp (of_decide_eq_true hb8)
     refine Wct rfl ?_
     refine Wskip ?_
     refine qn ?_
     refine Wseq ?_
     refine Wblk ?_
     refine Wseq ?_
     refine Wreg ?_
     refine rs (v := .int .i64 j6) (mv (v := .int .i64 j6) rfl) rfl ?_
     refine rs (v := .int .i64 j6) (av (v := .int .i64 j6) rfl) rfl ?_
     refine rn ?_
     refine qn ?_
     refine Wreg ?_
     refine rs (v := .pointer (some ⟨b0, 0, none⟩)) (mv (v := .pointer (some ⟨b0, 0, none⟩)) rfl) rfl ?_
     refine rs (v := .pointer (some ⟨b0, 0, none⟩)) (nl rfl) rfl ?_
     refine rs (v := .pointer (some ⟨b0, 2, none⟩)) (fax 2 rfl Try.underlying50 rfl Try.sizeOf48 rfl rfl rfl) rfl ?_
     replace hc := Ctx.exF hc; obtain ⟨v21, hc⟩ := hc
     replace hc := Ctx.sepF hc
     obtain ⟨a22, q23, u24⟩ := hc.rd (k := 1) rfl rfl reads_own; subst u24
     refine rs (v := .slice a22 j5.l.length q23) (ld rfl Try.isAgg48 (Ctx.cell hc (k := 0) rfl rfl rfl)) rfl ?_
     refine rs (v := .int .i64 j6) (mv (v := .int .i64 j6) rfl) rfl ?_
     replace hp := bind_some hp; obtain ⟨y25, hy25, hp⟩ := hp
     obtain ⟨b28, o29, u30, hi26, hi27⟩ := Ctx.rdAt hc (k := 1) rfl rfl reads_own hy25
     subst u30
     refine rs (v := .pointer (some ⟨b28, o29 + (j6).toNat * 3, none⟩)) (ixx rfl rfl Try.underlying48 Try.sizeOf52 hi26 hi27 rfl) rfl ?_
     refine rs (v := .pointer (some ⟨b28, o29 + (j6).toNat * 3 + 2, none⟩)) (fax 2 rfl Try.underlying52 rfl Try.sizeOf3 rfl rfl rfl) rfl ?_
     replace hc := Ctx.rdCell hc (k := 1) rfl rfl reads_own hy25; obtain ⟨cs31, hc, hcell32⟩ := hc
     replace hc := Ctx.holdC hc; obtain ⟨u33, hc⟩ := hc; subst u33
     refine rs (v := .int .i64 y25.since) (ld rfl Try.isAgg3 (hcell32 2 _ rfl)) rfl ?_
     refine rs (v := .int .i64 (IntKind.i64.wrap (y25.since + 1))) (adw rfl rfl) rfl ?_
     replace hp := bind_some hp; obtain ⟨y34, hy34, hp⟩ := hp
     obtain ⟨b37, o38, u39, hi35, hi36⟩ := Ctx.rdAt hc (k := 1) rfl rfl reads_own hy34
     clear u39
     refine rs (v := .pointer (some ⟨b28, o29 + (j6).toNat * 3, none⟩)) (ixx rfl rfl Try.underlying48 Try.sizeOf52 hi35 hi36 rfl) rfl ?_
     refine rs (v := .pointer (some ⟨b28, o29 + (j6).toNat * 3 + 2, none⟩)) (fax 2 rfl Try.underlying52 rfl Try.sizeOf3 rfl rfl rfl) rfl ?_
     refine ruE (A := fun w' => Ctx w' (B b0 [.int .i64 j5.patience, .int .i64 j5.epoch, .slice (some ⟨b28, o29, none⟩) j5.l.length q23] 50 :: Own S_beat_one.pr 52 (.slice (some ⟨b28, o29, none⟩) j5.l.length q23) (j5.l.set (j6).toNat ({ y34 with since := (IntKind.i64.wrap (y25.since + 1)) })) :: Fr)) (Ctx.ownPutOp hc (k := 1) rfl rfl (z := y34) (z' := { y34 with since := (IntKind.i64.wrap (y25.since + 1)) }) hy34 2 rfl (u := .int .i64 (IntKind.i64.wrap (y25.since + 1))) rfl rfl rfl Try.sizeOf3 (fun _ _ _ h => by cases h; rfl) rfl) rfl ?_
     clear hc; rintro w40 hc
     refine rn ?_
     refine bn ?_
     refine qn ?_
     refine Wreg ?_
     refine rs (v := .int .i64 (IntKind.i64.wrap (j6 + 1))) (adw rfl rfl) rfl ?_
     refine rs (v := .int .i64 (IntKind.i64.wrap (j6 + 1))) (mv (v := .int .i64 (IntKind.i64.wrap (j6 + 1))) rfl) rfl ?_
     refine rn ?_
     refine qn ?_
     replace hc := hc.pull 1 rfl rfl
     replace hc := hc.pull 1 rfl rfl
     replace hc : Ctx w40 (S_beat_Watch.hp b0 (⟨j5.patience, j5.epoch, (j5.l.set (j6).toNat ({ y34 with since := (IntKind.i64.wrap (y25.since + 1)) }))⟩ : S_beat_Watch) :: Fr) := Ctx.exB _ _ (Ctx.sepB hc)
     exact ⟨m1, Nat.lt_succ_self _, ⟨(⟨j5.patience, j5.epoch, (j5.l.set (j6).toNat ({ y34 with since := (IntKind.i64.wrap (y25.since + 1)) }))⟩ : S_beat_Watch), (IntKind.i64.wrap (j6 + 1)), rfl, hp, hc⟩, (kl rfl k0)⟩

-- FN peloton/pelotonlaw24.awake
def law24_awake (N : Nat) : Option (Bool) :=
  (beat_New 2 3).bind fun r1 =>
  optc r1.1 (
    some false) fun y5 =>
  if r1.2 ≠ 0 then
    some false
  else
    (beat_Watch_Ready y5 0 1 7).bind fun r10 =>
    (beat_Watch_Ready r10.2 1 1 7).bind fun r12 =>
    (beat_Watch_Whole N r12.2).bind fun r14 =>
    (beat_Watch_Tick N r12.2).bind fun r16 =>
    (beat_Watch_Tick N r16.2).bind fun r18 =>
    (beat_Watch_Tick N r18.2).bind fun r20 =>
    if r10.1 = true then
      some false
    else
      if r12.1 = true then
        some false
      else
        if r14 = true then
          if r16.1 = true then
            some false
          else
            if r18.1 = true then
              some false
            else
              if r20.1 = true then
                (beat_Watch_Epoch r20.2).bind fun r28 =>
                if r28 = 2 then
                  (beat_Watch_Whole N r20.2).bind fun r31 =>
                  if r31 = true then
                    some false
                  else
                    some true
                else
                  some false
              else
                some false
        else
          some false

set_option maxHeartbeats 2000000 in
theorem law24_awake_any {N : Nat} {Fr : List HP} {w : World} {r : Bool} {K : Value → World → Prop}  (hc : Ctx w (Fr)) (hp : law24_awake N = some r)
    (k : ∀ w', Ctx w' (Fr) → K (.bool r) w') : Calls Try.prog 6 #[] w (Ret K) := by
 unfold law24_awake at hp
 refine Center (args := []) (l := []) Try.func6 Try.ntmps6 rfl rfl rfl ?_
 refine Wseq ?_
 refine Wreg ?_
 refine rs (v := .bool false) (av (v := .bool false) rfl) rfl ?_
 refine rn ?_
 refine qn ?_
 refine Wseq ?_
 refine Wreg ?_
 replace hp := bind_some hp; obtain ⟨r1, hr1, hp⟩ := hp
 refine rc (cl Try.call7 rfl rfl) rfl ?_
 refine beat_New_any hc hr1 ?_
 clear hc; intro v2 w3 hc
 refine rs (v := .tuple #[v2, .int .i64 r1.2]) (mv (v := .tuple #[v2, .int .i64 r1.2]) rfl) rfl ?_
 refine rs (v := v2) (ext (v := v2) rfl rfl) rfl ?_
 refine rs (v := .int .i64 r1.2) (ext (v := .int .i64 r1.2) rfl rfl) rfl ?_
 refine rs (v := v2) (av (v := v2) rfl) rfl ?_
 refine rs (v := .int .i64 r1.2) (av (v := .int .i64 r1.2) rfl) rfl ?_
 refine rn ?_
 refine qn ?_
 refine Wseq ?_
 refine Wseq ?_
 refine Wreg ?_
 refine rs (v := v2) (mv (v := v2) rfl) rfl ?_
 cases hb4 : r1.1
 · replace hp := optN hp hb4
   rw [hb4] at hc
   replace hc := Ctx.ptoN hc; obtain ⟨u6, hc⟩ := hc; subst u6
   refine rs (v := .bool true) (ept Try.underlying24 rfl rfl) rfl ?_
   refine rs (v := .bool true) (mv (v := .bool true) rfl) rfl ?_
   refine r0 rfl ?_
   refine r0 rfl ?_
   refine rs (v := .bool true) (pkt (v := .bool true) rfl rfl) rfl ?_
   refine rn ?_
   refine qn ?_
   refine Wct rfl ?_
   refine Wseq ?_
   refine Wreg ?_
   refine rs (v := .bool false) (av (v := .bool false) rfl) rfl ?_
   refine rn ?_
   refine qn ?_
   refine Wret ?_
   refine qr ?_
   injection hp with hp; subst hp
   refine f1 (v := .bool false) Try.results6 Try.ntmps6 rfl ?_
   exact ⟨_, rfl, k _ hc⟩
 · rename_i y5
   replace hp := optS hp hb4
   rw [hb4] at hc
   replace hc := Ctx.ptoS hc; obtain ⟨b7, u8, hc⟩ := hc; subst u8
   refine rs (v := .bool false) (epf Try.underlying24 rfl rfl) rfl ?_
   refine rs (v := .bool false) (mv (v := .bool false) rfl) rfl ?_
   refine rs (v := .int .i64 r1.2) (mv (v := .int .i64 r1.2) rfl) rfl ?_
   refine rs (v := .bool (decide (r1.2 ≠ 0))) (ned rfl rfl) rfl ?_
   refine rs (v := .bool (decide (r1.2 ≠ 0))) (pkf (v := .bool (decide (r1.2 ≠ 0))) rfl rfl) rfl ?_
   refine rn ?_
   refine qn ?_
   cases hb9 : (decide (r1.2 ≠ 0))
   · replace hp := gneg hp (of_decide_eq_false hb9)
     refine Wcf rfl ?_
     refine Wskip ?_
     refine qn ?_
     refine Wseq ?_
     refine Wreg ?_
     refine rs (v := .pointer (some ⟨b7, 0, none⟩)) (mv (v := .pointer (some ⟨b7, 0, none⟩)) rfl) rfl ?_
     replace hp := bind_some hp; obtain ⟨r10, hr10, hp⟩ := hp
     refine rc (cl Try.call13 rfl rfl) rfl ?_
     refine beat_Watch_Ready_any hc hr10 ?_
     clear hc; intro w11 hc
     refine rs (v := .pointer (some ⟨b7, 0, none⟩)) (mv (v := .pointer (some ⟨b7, 0, none⟩)) rfl) rfl ?_
     replace hp := bind_some hp; obtain ⟨r12, hr12, hp⟩ := hp
     refine rc (cl Try.call13 rfl rfl) rfl ?_
     refine beat_Watch_Ready_any hc hr12 ?_
     clear hc; intro w13 hc
     refine rs (v := .bool r10.1) (av (v := .bool r10.1) rfl) rfl ?_
     refine rs (v := .bool r12.1) (av (v := .bool r12.1) rfl) rfl ?_
     refine rn ?_
     refine qn ?_
     refine Wseq ?_
     refine Wreg ?_
     refine rs (v := .pointer (some ⟨b7, 0, none⟩)) (mv (v := .pointer (some ⟨b7, 0, none⟩)) rfl) rfl ?_
     replace hp := bind_some hp; obtain ⟨r14, hr14, hp⟩ := hp
     refine rc (cl Try.call18 rfl rfl) rfl ?_
     refine beat_Watch_Whole_any hc hr14 ?_
     clear hc; intro w15 hc
     refine rs (v := .bool r14) (av (v := .bool r14) rfl) rfl ?_
     refine rn ?_
     refine qn ?_
     refine Wseq ?_
     refine Wreg ?_
     refine rs (v := .pointer (some ⟨b7, 0, none⟩)) (mv (v := .pointer (some ⟨b7, 0, none⟩)) rfl) rfl ?_
     replace hp := bind_some hp; obtain ⟨r16, hr16, hp⟩ := hp
     refine rc (cl Try.call9 rfl rfl) rfl ?_
     refine beat_Watch_Tick_any hc hr16 ?_
     clear hc; intro w17 hc
     refine rs (v := .pointer (some ⟨b7, 0, none⟩)) (mv (v := .pointer (some ⟨b7, 0, none⟩)) rfl) rfl ?_
     replace hp := bind_some hp; obtain ⟨r18, hr18, hp⟩ := hp
     refine rc (cl Try.call9 rfl rfl) rfl ?_
     refine beat_Watch_Tick_any hc hr18 ?_
     clear hc; intro w19 hc
     refine rs (v := .pointer (some ⟨b7, 0, none⟩)) (mv (v := .pointer (some ⟨b7, 0, none⟩)) rfl) rfl ?_
     replace hp := bind_some hp; obtain ⟨r20, hr20, hp⟩ := hp
     refine rc (cl Try.call9 rfl rfl) rfl ?_
     refine beat_Watch_Tick_any hc hr20 ?_
     clear hc; intro w21 hc
     refine rs (v := .bool r16.1) (av (v := .bool r16.1) rfl) rfl ?_
     refine rs (v := .bool r18.1) (av (v := .bool r18.1) rfl) rfl ?_
     refine rs (v := .bool r20.1) (av (v := .bool r20.1) rfl) rfl ?_
     refine rn ?_
     refine qn ?_
     refine Wseq ?_
     refine Wreg ?_
     refine rs (v := .bool r10.1) (mv (v := .bool r10.1) rfl) rfl ?_
     cases hb22 : r10.1
     · replace hp := gneg hp (by rw [hb22]; exact Bool.false_ne_true)
       refine rs (v := .bool true) (ntf rfl) rfl ?_
       refine rs (v := .bool true) (mv (v := .bool true) rfl) rfl ?_
       refine rs (v := .bool r12.1) (mv (v := .bool r12.1) rfl) rfl ?_
       cases hb23 : r12.1
       · replace hp := gneg hp (by rw [hb23]; exact Bool.false_ne_true)
         refine rs (v := .bool true) (ntf rfl) rfl ?_
         refine rs (v := .bool true) (pkt (v := .bool true) rfl rfl) rfl ?_
         refine rs (v := .bool true) (mv (v := .bool true) rfl) rfl ?_
         refine rs (v := .bool r14) (mv (v := .bool r14) rfl) rfl ?_
         refine rs (v := .bool r14) (pkt (v := .bool r14) rfl rfl) rfl ?_
         refine rs (v := .bool r14) (mv (v := .bool r14) rfl) rfl ?_
         cases hb24 : r14
         · replace hp := gneg hp (by rw [hb24]; exact Bool.false_ne_true)
           subst hb24
           refine r0 rfl ?_
           refine r0 rfl ?_
           refine rs (v := .bool false) (pkf (v := .bool false) rfl rfl) rfl ?_
           refine rs (v := .bool false) (mv (v := .bool false) rfl) rfl ?_
           refine r0 rfl ?_
           refine r0 rfl ?_
           refine rs (v := .bool false) (pkf (v := .bool false) rfl rfl) rfl ?_
           refine rs (v := .bool false) (mv (v := .bool false) rfl) rfl ?_
           refine r0 rfl ?_
           refine rs (v := .bool false) (pkf (v := .bool false) rfl rfl) rfl ?_
           refine rs (v := .bool false) (mv (v := .bool false) rfl) rfl ?_
           refine r0 rfl ?_
           refine r0 rfl ?_
           refine r0 rfl ?_
           refine rs (v := .bool false) (pkf (v := .bool false) rfl rfl) rfl ?_
           refine rs (v := .bool false) (mv (v := .bool false) rfl) rfl ?_
           refine r0 rfl ?_
           refine r0 rfl ?_
           refine r0 rfl ?_
           refine rs (v := .bool false) (pkf (v := .bool false) rfl rfl) rfl ?_
           refine rs (v := .bool false) (av (v := .bool false) rfl) rfl ?_
           refine rn ?_
           refine qn ?_
           refine Wret ?_
           replace hc := hc.rem 0 rfl rfl
           injection hp with hp; subst hp
           refine f1 (v := .bool false) Try.results6 Try.ntmps6 rfl ?_
           exact ⟨_, rfl, k _ hc⟩
         · replace hp := gpos hp hb24
           subst hb24
           refine rs (v := .bool r16.1) (mv (v := .bool r16.1) rfl) rfl ?_
           cases hb25 : r16.1
           · replace hp := gneg hp (by rw [hb25]; exact Bool.false_ne_true)
             refine rs (v := .bool true) (ntf rfl) rfl ?_
             refine rs (v := .bool true) (pkt (v := .bool true) rfl rfl) rfl ?_
             refine rs (v := .bool true) (mv (v := .bool true) rfl) rfl ?_
             refine rs (v := .bool r18.1) (mv (v := .bool r18.1) rfl) rfl ?_
             cases hb26 : r18.1
             · replace hp := gneg hp (by rw [hb26]; exact Bool.false_ne_true)
               refine rs (v := .bool true) (ntf rfl) rfl ?_
               refine rs (v := .bool true) (pkt (v := .bool true) rfl rfl) rfl ?_
               refine rs (v := .bool true) (mv (v := .bool true) rfl) rfl ?_
               refine rs (v := .bool r20.1) (mv (v := .bool r20.1) rfl) rfl ?_
               refine rs (v := .bool r20.1) (pkt (v := .bool r20.1) rfl rfl) rfl ?_
               refine rs (v := .bool r20.1) (mv (v := .bool r20.1) rfl) rfl ?_
               cases hb27 : r20.1
               · replace hp := gneg hp (by rw [hb27]; exact Bool.false_ne_true)
                 refine r0 rfl ?_
                 refine r0 rfl ?_
                 refine r0 rfl ?_
                 refine rs (v := .bool false) (pkf (v := .bool false) rfl rfl) rfl ?_
                 refine rs (v := .bool false) (mv (v := .bool false) rfl) rfl ?_
                 refine r0 rfl ?_
                 refine r0 rfl ?_
                 refine r0 rfl ?_
                 refine rs (v := .bool false) (pkf (v := .bool false) rfl rfl) rfl ?_
                 refine rs (v := .bool false) (av (v := .bool false) rfl) rfl ?_
                 refine rn ?_
                 refine qn ?_
                 refine Wret ?_
                 replace hc := hc.rem 0 rfl rfl
                 injection hp with hp; subst hp
                 refine f1 (v := .bool false) Try.results6 Try.ntmps6 rfl ?_
                 exact ⟨_, rfl, k _ hc⟩
               · replace hp := gpos hp hb27
                 refine rs (v := .pointer (some ⟨b7, 0, none⟩)) (mv (v := .pointer (some ⟨b7, 0, none⟩)) rfl) rfl ?_
                 replace hp := bind_some hp; obtain ⟨r28, hr28, hp⟩ := hp
                 refine rc (cl Try.call17 rfl rfl) rfl ?_
                 refine beat_Watch_Epoch_any hc hr28 ?_
                 clear hc; intro w29 hc
                 refine rs (v := .bool (decide (r28 = 2))) (eqd rfl rfl) rfl ?_
                 refine rs (v := .bool (decide (r28 = 2))) (pkt (v := .bool (decide (r28 = 2))) rfl rfl) rfl ?_
                 refine rs (v := .bool (decide (r28 = 2))) (mv (v := .bool (decide (r28 = 2))) rfl) rfl ?_
                 cases hb30 : (decide (r28 = 2))
                 · replace hp := gneg hp (of_decide_eq_false hb30)
                   refine r0 rfl ?_
                   refine r0 rfl ?_
                   refine r0 rfl ?_
                   refine rs (v := .bool false) (pkf (v := .bool false) rfl rfl) rfl ?_
                   refine rs (v := .bool false) (av (v := .bool false) rfl) rfl ?_
                   refine rn ?_
                   refine qn ?_
                   refine Wret ?_
                   replace hc := hc.rem 0 rfl rfl
                   injection hp with hp; subst hp
                   refine f1 (v := .bool false) Try.results6 Try.ntmps6 rfl ?_
                   exact ⟨_, rfl, k _ hc⟩
                 · replace hp := gpos hp (of_decide_eq_true hb30)
                   refine rs (v := .pointer (some ⟨b7, 0, none⟩)) (mv (v := .pointer (some ⟨b7, 0, none⟩)) rfl) rfl ?_
                   replace hp := bind_some hp; obtain ⟨r31, hr31, hp⟩ := hp
                   refine rc (cl Try.call18 rfl rfl) rfl ?_
                   refine beat_Watch_Whole_any hc hr31 ?_
                   clear hc; intro w32 hc
                   cases hb33 : r31
                   · replace hp := gneg hp (by rw [hb33]; exact Bool.false_ne_true)
                     subst hb33
                     refine rs (v := .bool true) (ntf rfl) rfl ?_
                     refine rs (v := .bool true) (pkt (v := .bool true) rfl rfl) rfl ?_
                     refine rs (v := .bool true) (av (v := .bool true) rfl) rfl ?_
                     refine rn ?_
                     refine qn ?_
                     refine Wret ?_
                     replace hc := hc.rem 0 rfl rfl
                     injection hp with hp; subst hp
                     refine f1 (v := .bool true) Try.results6 Try.ntmps6 rfl ?_
                     exact ⟨_, rfl, k _ hc⟩
                   · replace hp := gpos hp hb33
                     subst hb33
                     refine rs (v := .bool false) (ntt rfl) rfl ?_
                     refine rs (v := .bool false) (pkt (v := .bool false) rfl rfl) rfl ?_
                     refine rs (v := .bool false) (av (v := .bool false) rfl) rfl ?_
                     refine rn ?_
                     refine qn ?_
                     refine Wret ?_
                     replace hc := hc.rem 0 rfl rfl
                     injection hp with hp; subst hp
                     refine f1 (v := .bool false) Try.results6 Try.ntmps6 rfl ?_
                     exact ⟨_, rfl, k _ hc⟩
             · replace hp := gpos hp hb26
               refine rs (v := .bool false) (ntt rfl) rfl ?_
               refine rs (v := .bool false) (pkt (v := .bool false) rfl rfl) rfl ?_
               refine rs (v := .bool false) (mv (v := .bool false) rfl) rfl ?_
               refine r0 rfl ?_
               refine rs (v := .bool false) (pkf (v := .bool false) rfl rfl) rfl ?_
               refine rs (v := .bool false) (mv (v := .bool false) rfl) rfl ?_
               refine r0 rfl ?_
               refine r0 rfl ?_
               refine r0 rfl ?_
               refine rs (v := .bool false) (pkf (v := .bool false) rfl rfl) rfl ?_
               refine rs (v := .bool false) (mv (v := .bool false) rfl) rfl ?_
               refine r0 rfl ?_
               refine r0 rfl ?_
               refine r0 rfl ?_
               refine rs (v := .bool false) (pkf (v := .bool false) rfl rfl) rfl ?_
               refine rs (v := .bool false) (av (v := .bool false) rfl) rfl ?_
               refine rn ?_
               refine qn ?_
               refine Wret ?_
               replace hc := hc.rem 0 rfl rfl
               injection hp with hp; subst hp
               refine f1 (v := .bool false) Try.results6 Try.ntmps6 rfl ?_
               exact ⟨_, rfl, k _ hc⟩
           · replace hp := gpos hp hb25
             refine rs (v := .bool false) (ntt rfl) rfl ?_
             refine rs (v := .bool false) (pkt (v := .bool false) rfl rfl) rfl ?_
             refine rs (v := .bool false) (mv (v := .bool false) rfl) rfl ?_
             refine r0 rfl ?_
             refine r0 rfl ?_
             refine rs (v := .bool false) (pkf (v := .bool false) rfl rfl) rfl ?_
             refine rs (v := .bool false) (mv (v := .bool false) rfl) rfl ?_
             refine r0 rfl ?_
             refine rs (v := .bool false) (pkf (v := .bool false) rfl rfl) rfl ?_
             refine rs (v := .bool false) (mv (v := .bool false) rfl) rfl ?_
             refine r0 rfl ?_
             refine r0 rfl ?_
             refine r0 rfl ?_
             refine rs (v := .bool false) (pkf (v := .bool false) rfl rfl) rfl ?_
             refine rs (v := .bool false) (mv (v := .bool false) rfl) rfl ?_
             refine r0 rfl ?_
             refine r0 rfl ?_
             refine r0 rfl ?_
             refine rs (v := .bool false) (pkf (v := .bool false) rfl rfl) rfl ?_
             refine rs (v := .bool false) (av (v := .bool false) rfl) rfl ?_
             refine rn ?_
             refine qn ?_
             refine Wret ?_
             replace hc := hc.rem 0 rfl rfl
             injection hp with hp; subst hp
             refine f1 (v := .bool false) Try.results6 Try.ntmps6 rfl ?_
             exact ⟨_, rfl, k _ hc⟩
       · replace hp := gpos hp hb23
         refine rs (v := .bool false) (ntt rfl) rfl ?_
         refine rs (v := .bool false) (pkt (v := .bool false) rfl rfl) rfl ?_
         refine rs (v := .bool false) (mv (v := .bool false) rfl) rfl ?_
         refine r0 rfl ?_
         refine rs (v := .bool false) (pkf (v := .bool false) rfl rfl) rfl ?_
         refine rs (v := .bool false) (mv (v := .bool false) rfl) rfl ?_
         refine r0 rfl ?_
         refine r0 rfl ?_
         refine rs (v := .bool false) (pkf (v := .bool false) rfl rfl) rfl ?_
         refine rs (v := .bool false) (mv (v := .bool false) rfl) rfl ?_
         refine r0 rfl ?_
         refine r0 rfl ?_
         refine rs (v := .bool false) (pkf (v := .bool false) rfl rfl) rfl ?_
         refine rs (v := .bool false) (mv (v := .bool false) rfl) rfl ?_
         refine r0 rfl ?_
         refine rs (v := .bool false) (pkf (v := .bool false) rfl rfl) rfl ?_
         refine rs (v := .bool false) (mv (v := .bool false) rfl) rfl ?_
         refine r0 rfl ?_
         refine r0 rfl ?_
         refine r0 rfl ?_
         refine rs (v := .bool false) (pkf (v := .bool false) rfl rfl) rfl ?_
         refine rs (v := .bool false) (mv (v := .bool false) rfl) rfl ?_
         refine r0 rfl ?_
         refine r0 rfl ?_
         refine r0 rfl ?_
         refine rs (v := .bool false) (pkf (v := .bool false) rfl rfl) rfl ?_
         refine rs (v := .bool false) (av (v := .bool false) rfl) rfl ?_
         refine rn ?_
         refine qn ?_
         refine Wret ?_
         replace hc := hc.rem 0 rfl rfl
         injection hp with hp; subst hp
         refine f1 (v := .bool false) Try.results6 Try.ntmps6 rfl ?_
         exact ⟨_, rfl, k _ hc⟩
     · replace hp := gpos hp hb22
       refine rs (v := .bool false) (ntt rfl) rfl ?_
       refine rs (v := .bool false) (mv (v := .bool false) rfl) rfl ?_
       refine r0 rfl ?_
       refine r0 rfl ?_
       refine rs (v := .bool false) (pkf (v := .bool false) rfl rfl) rfl ?_
       refine rs (v := .bool false) (mv (v := .bool false) rfl) rfl ?_
       refine r0 rfl ?_
       refine rs (v := .bool false) (pkf (v := .bool false) rfl rfl) rfl ?_
       refine rs (v := .bool false) (mv (v := .bool false) rfl) rfl ?_
       refine r0 rfl ?_
       refine r0 rfl ?_
       refine rs (v := .bool false) (pkf (v := .bool false) rfl rfl) rfl ?_
       refine rs (v := .bool false) (mv (v := .bool false) rfl) rfl ?_
       refine r0 rfl ?_
       refine r0 rfl ?_
       refine rs (v := .bool false) (pkf (v := .bool false) rfl rfl) rfl ?_
       refine rs (v := .bool false) (mv (v := .bool false) rfl) rfl ?_
       refine r0 rfl ?_
       refine rs (v := .bool false) (pkf (v := .bool false) rfl rfl) rfl ?_
       refine rs (v := .bool false) (mv (v := .bool false) rfl) rfl ?_
       refine r0 rfl ?_
       refine r0 rfl ?_
       refine r0 rfl ?_
       refine rs (v := .bool false) (pkf (v := .bool false) rfl rfl) rfl ?_
       refine rs (v := .bool false) (mv (v := .bool false) rfl) rfl ?_
       refine r0 rfl ?_
       refine r0 rfl ?_
       refine r0 rfl ?_
       refine rs (v := .bool false) (pkf (v := .bool false) rfl rfl) rfl ?_
       refine rs (v := .bool false) (av (v := .bool false) rfl) rfl ?_
       refine rn ?_
       refine qn ?_
       refine Wret ?_
       replace hc := hc.rem 0 rfl rfl
       injection hp with hp; subst hp
       refine f1 (v := .bool false) Try.results6 Try.ntmps6 rfl ?_
       exact ⟨_, rfl, k _ hc⟩
   · replace hp := gpos hp (of_decide_eq_true hb9)
     refine Wct rfl ?_
     refine Wseq ?_
     refine Wreg ?_
     refine rs (v := .bool false) (av (v := .bool false) rfl) rfl ?_
     refine rn ?_
     refine qn ?_
     refine Wret ?_
     refine qr ?_
     replace hc := hc.rem 0 rfl rfl
     injection hp with hp; subst hp
     refine f1 (v := .bool false) Try.results6 Try.ntmps6 rfl ?_
     exact ⟨_, rfl, k _ hc⟩

end Go.Proofs.Ytmphbmocpiolfaa
