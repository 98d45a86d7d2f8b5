/- Functions of the program as plain functions, and the proofs that walks compute them. Printed by a program of this session. -/
import Derived.Test.YtfhpmaphgkiegaaSl12
import Derived.Test.YtfhpmaphgkiegaaProg
namespace Go.Proofs.Ytfhpmaphgkiegaa
open Go Go.RowKit Go.Hp
set_option linter.unusedVariables false
set_option linter.unusedSimpArgs false
set_option maxRecDepth 100000

structure S_api_Request where
  ID : Int
  Most : Int
  Prompt : (List Int)
  deriving DecidableEq

def S_api_Request.pr : PR S_api_Request 3 := pMap (fun x : S_api_Request => (x.ID, x.Most, x.Prompt)) (pSeq (pInt .i64) (pSeq (pInt .i64) (pRo (pInt .i64))))

theorem S_api_Request.op {w : World} {l : List HP} {cs : List Value} {x : S_api_Request} (h : Ctx w (Hold S_api_Request.pr cs x :: l)) : ∃ a2 q2, cs = [.int .i64 x.ID, .int .i64 x.Most, .slice a2 x.Prompt.length q2] ∧ Ctx w (Hold (pRo (pInt .i64)) [.slice a2 x.Prompt.length q2] x.Prompt :: l) := by
  obtain ⟨R, Ss, hc⟩ := h
  match Ss, hc with
  | S :: Ss, hc =>
    obtain ⟨⟨rfl, ⟨_, _, rfl, rfl, ⟨_, _, rfl, rfl, ⟨_, rfl, a2, q2, rfl, hc2, hr2⟩⟩⟩⟩, h3⟩ := hc.all
    exact ⟨a2, q2, rfl, R, [] :: Ss, ⟨⟨rfl, _, rfl, a2, q2, rfl, hc2, hr2⟩, h3⟩, by simpa using hc.nodup, by simpa using hc.own, hc.fz⟩
theorem S_api_Request.cl {w : World} {l : List HP} {z0 : Int} {z1 : Int} {z2 : (List Int)} {v2 : Value} (h : Ctx w (Hold (pRo (pInt .i64)) [v2] z2 :: l)) : Ctx w (Hold S_api_Request.pr [.int .i64 z0, .int .i64 z1, v2] (⟨z0, z1, z2⟩ : S_api_Request) :: l) := by
  obtain ⟨R, Ss, hc⟩ := h
  match Ss, hc with
  | S2 :: Ss, hc =>
    obtain ⟨⟨rfl, _, e2, hr2⟩, h3⟩ := hc.all
    injection e2 with e2; subst e2
    exact ⟨R, [] :: Ss, ⟨⟨rfl, ⟨_, _, rfl, rfl, ⟨_, _, rfl, rfl, ⟨_, rfl, hr2⟩⟩⟩⟩, h3⟩, by simpa using hc.nodup, by simpa using hc.own, hc.fz⟩
  | [], hc => exact hc.all.elim

structure S_ledger_entry where
  Request : S_api_Request
  log : (List Int)
  fed : Int
  deriving DecidableEq

def S_ledger_entry.hp (b : Nat) (x : S_ledger_entry) : HP := Ex fun v2 : Value => Ex fun v3 : Value => Sep (Sep (B b [.int .i64 x.Request.ID, .int .i64 x.Request.Most, v2, v3, .int .i64 x.fed] 87) (Hold (pRo (pInt .i64)) [v2] x.Request.Prompt)) (Own (pInt .i64) 3 v3 x.log)

def S_ledger_entry.vp : VP S_ledger_entry 5 := ⟨fun cs x => Ex fun v2 : Value => Ex fun v3 : Value => Sep (Sep (Pu (cs = [.int .i64 x.Request.ID, .int .i64 x.Request.Most, v2, v3, .int .i64 x.fed] ∧ ([.int .i64 x.Request.ID, .int .i64 x.Request.Most, v2, v3, .int .i64 x.fed] : List Value).all (·.oneCell') = true)) (Hold (pRo (pInt .i64)) [v2] x.Request.Prompt)) (Own (pInt .i64) 3 v3 x.log),
  fun h => by obtain ⟨_, ⟨_, ⟨_, _, _, ⟨_, _, _, ⟨_, e, h1⟩, _⟩, _⟩⟩⟩ := h; rw [e]; rfl,
  fun h v hv => by obtain ⟨_, ⟨_, ⟨_, _, _, ⟨_, _, _, ⟨_, e, h1⟩, _⟩, _⟩⟩⟩ := h; rw [e] at hv; exact List.all_eq_true.1 h1 v hv⟩

structure S_ledger_Ledger where
  m : (List (Int × S_ledger_entry))
  deriving DecidableEq

def S_ledger_Ledger.hp (b : Nat) (x : S_ledger_Ledger) : HP := Ex fun v0 : Nat => Sep (B b [.map (some v0)] 83) (MpV (ekI .i64) vf1 (vPt S_ledger_entry.hp) v0 x.m)

def S_ledger_Ledger.vp : VP S_ledger_Ledger 1 := ⟨fun cs x => Ex fun v0 : Nat => Sep (Pu (cs = [.map (some v0)] ∧ ([.map (some v0)] : List Value).all (·.oneCell') = true)) (MpV (ekI .i64) vf1 (vPt S_ledger_entry.hp) v0 x.m),
  fun h => by obtain ⟨_, ⟨_, _, _, ⟨_, e, h1⟩, _⟩⟩ := h; rw [e]; rfl,
  fun h v hv => by obtain ⟨_, ⟨_, _, _, ⟨_, e, h1⟩, _⟩⟩ := h; rw [e] at hv; exact List.all_eq_true.1 h1 v hv⟩

structure S_api_Say where
  Request : Int
  Place : Int
  Token : Int
  deriving DecidableEq

def S_api_Say.pr : PR S_api_Say 3 := pC (fun x => [.int .i64 x.Request, .int .i64 x.Place, .int .i64 x.Token]) (fun _ => rfl) (fun _ => rfl)

def S_api_Say.cs (x : S_api_Say) : List Value := [.int .i64 x.Request, .int .i64 x.Place, .int .i64 x.Token]
def S_api_Say.ek (x : S_api_Say) : Value := .agg (S_api_Say.cs x).toArray
theorem S_api_Say.eql (w : World) (x y : S_api_Say) : (Op.equal 35 (.agg (S_api_Say.cs x).toArray) (.agg (S_api_Say.cs y).toArray)).run Try.prog w = .ok (decide (x = y)) w := by
  have hst : Try.prog.stoodInHeld 35 = false := by kernel_rfl
  have pt3 : ∀ {off : Nat} {xs : Array Value} {v : Value} {w : World}, xs[off]? = some v → (part 3 xs off).run Try.prog w = .ok v w := fun h => by simp [part, Try.isAgg3, h]
  have eq3 : ∀ (d : Nat) (k : IntKind) (a b : Int) (w : World), (Op.equalIn (d + 1) 3 (.int k a) (.int k b)).run Try.prog w = .ok (a == b) w := fun d k a b w => by simp [Op.equalIn, run_underlying Try.underlying3]
  have key : ∀ d, (Op.equalIn (d + 2) 35 (.agg (S_api_Say.cs x).toArray) (.agg (S_api_Say.cs y).toArray)).run Try.prog w = .ok (decide (x = y)) w := by
    intro d
    obtain ⟨a0, a1, a2⟩ := x
    obtain ⟨b0, b1, b2⟩ := y
    rw [Op.equalIn]
    simp [run_underlying Try.underlying35, S_api_Say.cs, hst, pt3, eq3]
    repeat' split
    all_goals simp_all
  exact key 9998
theorem S_api_Say.keyL : KeyL Try.prog 35 S_api_Say S_api_Say.ek := keyL_agg (f := S_api_Say.cs) Try.underlying35 S_api_Say.eql
  (fun b k w => by
    have h : ∀ n, (Instr.checkKey b (n + 2) 35 (.agg (S_api_Say.cs k).toArray)).run Try.prog w = .ok () w := by
      intro n
      simp [Instr.checkKey, run_underlying Try.underlying35, S_api_Say.cs, part, Try.isAgg3, run_underlying Try.underlying3]
    exact h 9998)
  (fun k => by
    have h : ∀ n, Instr.sameBits (n + 2) (.agg (S_api_Say.cs k).toArray) (.agg (S_api_Say.cs k).toArray) = true := by
      intro n
      simp [Instr.sameBits, S_api_Say.cs]
    exact h 9998)

-- FN slices.Index[[]int,int]
def slices_Index_s_int_int.L1 (x0 : (List Int)) (x1 : Int) : Nat → Int → Option (Int)
  | 0, _ => none
  | m1 + 1, j1 =>
    if j1 < ((x0.length : Nat) : Int) then
      (idx x0 j1).bind fun y4 =>
      if x1 = y4 then
        some j1
      else
        (slices_Index_s_int_int.L1 x0 x1 m1) (IntKind.i64.wrap (j1 + 1))
    else
      some (-1)

def slices_Index_s_int_int (N : Nat) (x0 : (List Int)) (x1 : Int) : Option (Int) :=
  slices_Index_s_int_int.L1 x0 x1 N 0

set_option maxHeartbeats 8000000 in
theorem slices_Index_s_int_int_any {N : Nat} {x0 : (List Int)} {ax0 : Option Addr} {nx0 : Nat} {qx0 : Nat} {P0 : HP} {x1 : Int} {Fr : List HP} {w : World} {r : Int} {K : Value → World → Prop} (hrd0 : Reads P0 (pInt .i64) (.slice ax0 nx0 qx0) x0) (hc : Ctx w (P0 :: Fr)) (hp : slices_Index_s_int_int N x0 x1 = some r)
    (k : ∀ w', Ctx w' (P0 :: Fr) → K (.int .i64 r) w') : Calls Try.prog 47 #[.slice ax0 nx0 qx0, .int .i64 x1] w (Ret K) := by
 unfold slices_Index_s_int_int at hp
 refine Center (args := [.slice ax0 nx0 qx0, .int .i64 x1]) (l := [(0, .slice ax0 nx0 qx0), (1, .int .i64 x1)]) Try.func47 Try.ntmps47 rfl rfl rfl ?_
 obtain ⟨hn0, _⟩ := Ctx.rdLen hc (k := 0) rfl rfl hrd0; subst hn0
 refine Wseq ?_
 refine Wreg ?_
 refine rs (v := .int .i64 0) (av (v := .int .i64 0) rfl) rfl ?_
 refine rn ?_
 refine qn ?_
 refine Wseq ?_
 refine Wseq ?_
 refine Wreg ?_
 refine rs (v := .slice ax0 x0.length qx0) (mv (v := .slice ax0 x0.length qx0) rfl) rfl ?_
 refine rs (v := .int .i64 ((x0.length : Nat) : Int)) (ln rfl Try.underlying23) rfl ?_
 refine rs (v := .int .i64 0) (mv (v := .int .i64 0) rfl) rfl ?_
 refine rn ?_
 refine qn ?_
 refine Wblk ?_
 refine Wloop [4, 5, 8, 9, 10, 11, 12, 13, 14, 15, 16, 17, 18] [8] (fun m vs w' => ∃ j1 : Int, vs = [.int .i64 j1] ∧ slices_Index_s_int_int.L1 x0 x1 m j1 = some r ∧ Ctx w' (P0 :: Fr)) N ?_ ?_
 · exact ⟨0, rfl, hp, hc⟩
 · clear hp hc; intro m vs u w2 hJ
   obtain ⟨j1, rfl, hp, hc⟩ := hJ
   rcases m with _ | m1
   · cases (show none = some r from hp)
   rw [slices_Index_s_int_int.L1] at hp
   refine Wseq ?_
   refine Wreg ?_
   refine rs (v := .bool (decide (j1 < ((x0.length : Nat) : Int)))) (lt' rfl rfl) rfl ?_
   refine rn ?_
   refine qn ?_
   refine Wseq ?_
   cases hb3 : (decide (j1 < ((x0.length : Nat) : Int)))
   · replace hp := gneg hp (of_decide_eq_false hb3)
     refine Wcf rfl ?_
     refine Wexit ?_
     refine qx ?_
     refine qx ?_
     refine be ?_
     refine qn ?_
     refine Wseq ?_
     refine Wreg ?_
     refine rs (v := .int .i64 (-1)) (av (v := .int .i64 (-1)) rfl) rfl ?_
     refine rn ?_
     refine qn ?_
     refine Wret ?_
     injection hp with hp; subst hp
     refine f1 (v := .int .i64 (-1)) Try.results47 Try.ntmps47 rfl ?_
     exact ⟨_, rfl, k _ hc⟩
   · replace hp := gpos hp (of_decide_eq_true hb3)
     refine Wct rfl ?_
     refine Wskip ?_
     refine qn ?_
     refine Wseq ?_
     refine Wblk ?_
     refine Wseq ?_
     refine Wreg ?_
     refine rs (v := .int .i64 j1) (mv (v := .int .i64 j1) rfl) rfl ?_
     refine rs (v := .int .i64 j1) (av (v := .int .i64 j1) rfl) rfl ?_
     refine rn ?_
     refine qn ?_
     refine Wseq ?_
     refine Wreg ?_
     refine rs (v := .int .i64 x1) (mv (v := .int .i64 x1) rfl) rfl ?_
     refine rs (v := .slice ax0 x0.length qx0) (mv (v := .slice ax0 x0.length qx0) rfl) rfl ?_
     refine rs (v := .int .i64 j1) (mv (v := .int .i64 j1) rfl) rfl ?_
     replace hp := bind_some hp; obtain ⟨y4, hy4, hp⟩ := hp
     obtain ⟨b7, o8, u9, hi5, hi6⟩ := Ctx.rdAt hc (k := 0) rfl rfl hrd0 hy4
     subst u9
     refine rs (v := .pointer (some ⟨b7, o8 + (j1).toNat * 1, none⟩)) (ixx rfl rfl Try.underlying23 Try.sizeOf3 hi5 hi6 rfl) rfl ?_
     replace hc := Ctx.rdCell hc (k := 0) rfl rfl hrd0 hy4; obtain ⟨cs10, hc, hcell11⟩ := hc
     replace hc := Ctx.holdC hc; obtain ⟨u12, hc⟩ := hc; subst u12
     refine rs (v := .int .i64 y4) (ld rfl Try.isAgg3 (hcell11 0 _ rfl)) rfl ?_
     refine rs (v := .bool (decide (x1 = y4))) (eqd rfl rfl) rfl ?_
     refine rn ?_
     refine qn ?_
     cases hb13 : (decide (x1 = y4))
     · replace hp := gneg hp (of_decide_eq_false hb13)
       refine Wcf rfl ?_
       refine Wskip ?_
       refine bn ?_
       refine qn ?_
       refine Wreg ?_
       refine rs (v := .int .i64 (IntKind.i64.wrap (j1 + 1))) (adw rfl rfl) rfl ?_
       refine rs (v := .int .i64 (IntKind.i64.wrap (j1 + 1))) (mv (v := .int .i64 (IntKind.i64.wrap (j1 + 1))) rfl) rfl ?_
       refine rn ?_
       refine qn ?_
       exact ⟨m1, Nat.lt_succ_self _, ⟨(IntKind.i64.wrap (j1 + 1)), rfl, hp, hc⟩, (kl rfl k0)⟩
     · replace hp := gpos hp (of_decide_eq_true hb13)
       refine Wct rfl ?_
       refine Wseq ?_
       refine Wreg ?_
       refine rs (v := .int .i64 j1) (mv (v := .int .i64 j1) rfl) rfl ?_
       refine rs (v := .int .i64 j1) (av (v := .int .i64 j1) rfl) rfl ?_
       refine rn ?_
       refine qn ?_
       refine Wret ?_
       refine br ?_
       refine qr ?_
       refine qr ?_
       refine br ?_
       refine qr ?_
       injection hp with hp; subst hp
       refine f1 (v := .int .i64 j1) Try.results47 Try.ntmps47 rfl ?_
       exact ⟨_, rfl, k _ hc⟩

-- FN slices.Contains[[]int,int]
def slices_Contains_s_int_int (N : Nat) (x0 : (List Int)) (x1 : Int) : Option (Bool) :=
  (slices_Index_s_int_int N x0 x1).bind fun r1 =>
  some (decide (r1 ≥ 0))

set_option maxHeartbeats 8000000 in
theorem slices_Contains_s_int_int_any {N : Nat} {x0 : (List Int)} {ax0 : Option Addr} {nx0 : Nat} {qx0 : Nat} {P0 : HP} {x1 : Int} {Fr : List HP} {w : World} {r : Bool} {K : Value → World → Prop} (hrd0 : Reads P0 (pInt .i64) (.slice ax0 nx0 qx0) x0) (hc : Ctx w (P0 :: Fr)) (hp : slices_Contains_s_int_int N x0 x1 = some r)
    (k : ∀ w', Ctx w' (P0 :: Fr) → K (.bool r) w') : Calls Try.prog 31 #[.slice ax0 nx0 qx0, .int .i64 x1] w (Ret K) := by
 unfold slices_Contains_s_int_int at hp
 refine Center (args := [.slice ax0 nx0 qx0, .int .i64 x1]) (l := [(0, .slice ax0 nx0 qx0), (1, .int .i64 x1)]) Try.func31 Try.ntmps31 rfl rfl rfl ?_
 obtain ⟨hn0, _⟩ := Ctx.rdLen hc (k := 0) rfl rfl hrd0; subst hn0
 refine Wseq ?_
 refine Wreg ?_
 refine rs (v := .bool false) (av (v := .bool false) rfl) rfl ?_
 refine rn ?_
 refine qn ?_
 refine Wseq ?_
 refine Wreg ?_
 refine rs (v := .slice ax0 x0.length qx0) (mv (v := .slice ax0 x0.length qx0) rfl) rfl ?_
 refine rs (v := .int .i64 x1) (mv (v := .int .i64 x1) rfl) rfl ?_
 replace hp := bind_some hp; obtain ⟨r1, hr1, hp⟩ := hp
 refine rc (cl Try.call47 rfl rfl) rfl ?_
 refine slices_Index_s_int_int_any hrd0 hc hr1 ?_
 clear hc; intro w2 hc
 refine rs (v := .bool (decide (r1 ≥ 0))) (ge' rfl rfl) rfl ?_
 refine rs (v := .bool (decide (r1 ≥ 0))) (av (v := .bool (decide (r1 ≥ 0))) rfl) rfl ?_
 refine rn ?_
 refine qn ?_
 refine Wret ?_
 injection hp with hp; subst hp
 refine f1 (v := .bool (decide (r1 ≥ 0))) Try.results31 Try.ntmps31 rfl ?_
 exact ⟨_, rfl, k _ hc⟩

-- FN slices.Clone[[]int,int]
def slices_Clone_s_int_int (x0 : (List Int)) : Option ((List Int)) :=
  (app ([]) x0).bind fun z3 =>
  some z3

set_option maxHeartbeats 8000000 in
theorem slices_Clone_s_int_int_any {x0 : (List Int)} {ax0 : Option Addr} {nx0 : Nat} {qx0 : Nat} {P0 : HP} {Fr : List HP} {w : World} {r : (List Int)} {K : Value → World → Prop} (hrd0 : Reads P0 (pInt .i64) (.slice ax0 nx0 qx0) x0) (hc : Ctx w (P0 :: Fr)) (hp : slices_Clone_s_int_int x0 = some r)
    (k : ∀ (a9 : Option Addr) (n10 : Nat) (q11 : Nat) w', Ctx w' (Own (pInt .i64) 3 (.slice a9 n10 q11) r :: P0 :: Fr) → K (.slice a9 n10 q11) w') : Calls Try.prog 28 #[.slice ax0 nx0 qx0] w (Ret K) := by
 unfold slices_Clone_s_int_int at hp
 refine Center (args := [.slice ax0 nx0 qx0]) (l := [(0, .slice ax0 nx0 qx0)]) Try.func28 Try.ntmps28 rfl rfl rfl ?_
 obtain ⟨hn0, _⟩ := Ctx.rdLen hc (k := 0) rfl rfl hrd0; subst hn0
 rcases ax0 with _ | ax0
 · have hx := Ctx.nilRows hc (k := 0) rfl rfl hrd0; subst hx
   replace hp := bind_some hp; obtain ⟨z, hz, hp⟩ := hp
   injection hp with hp; subst hp; obtain ⟨_, hz⟩ := app_some hz; subst hz
   refine Wseq ?_
   refine Wreg ?_
   refine rs (v := .slice none 0 0) (av (v := .slice none 0 0) rfl) rfl ?_
   refine rn ?_
   refine qn ?_
   refine Wseq ?_
   refine Wseq ?_
   refine Wreg ?_
   refine rs (v := .slice none (([] : List Int).length) qx0) (mv (v := .slice none (([] : List Int).length) qx0) rfl) rfl ?_
   refine rs (v := .bool true) (esnT Try.underlying23 rfl rfl) rfl ?_
   refine rn ?_
   refine qn ?_
   refine Wct rfl ?_
   refine Wseq ?_
   refine Wreg ?_
   refine rs (v := .slice none 0 0) (av (v := .slice none 0 0) rfl) rfl ?_
   refine rn ?_
   refine qn ?_
   refine Wret ?_
   refine qr ?_
   replace hc := hc.nilOwn (pInt .i64) 3
   refine f1 (v := .slice none 0 0) Try.results28 Try.ntmps28 rfl ?_
   exact ⟨_, rfl, k _ _ _ _ hc⟩
 · refine Wseq ?_
   refine Wreg ?_
   refine rs (v := .slice none 0 0) (av (v := .slice none 0 0) rfl) rfl ?_
   refine rn ?_
   refine qn ?_
   refine Wseq ?_
   refine Wseq ?_
   refine Wreg ?_
   refine rs (v := .slice (some ax0) x0.length qx0) (mv (v := .slice (some ax0) x0.length qx0) rfl) rfl ?_
   refine rs (v := .bool false) (esnF Try.underlying23 rfl rfl) rfl ?_
   refine rn ?_
   refine qn ?_
   refine Wcf rfl ?_
   refine Wskip ?_
   refine qn ?_
   refine Wseq ?_
   refine Wreg ?_
   refine rsE (Ctx.builtOp (css := []) (xs := ([] : List Int)) (E := (pInt .i64)) hc Try.underlying23 Try.sizeOf3 Try.zeroValue3 rfl rfl rfl rfl rfl rfl rfl rfl) rfl ?_
   clear hc; rintro _ w2 ⟨a1, rfl, hc⟩
   refine rs (v := .slice (some ax0) x0.length qx0) (mv (v := .slice (some ax0) x0.length qx0) rfl) rfl ?_
   replace hp := bind_some hp; obtain ⟨z3, hz3, hp⟩ := hp
   obtain ⟨hg4, e5⟩ := app_some hz3
   refine rsE (Ctx.append hc (k := 0) rfl rfl (k2 := 1) rfl rfl hrd0 Try.underlying23 (i := Try.t3) rfl rfl rfl rfl rfl rfl rfl rfl hg4) rfl ?_
   clear hc; rintro _ w8 ⟨a6, q7, rfl, hc⟩
   rw [← e5] at hc ⊢
   refine rs (v := .slice a6 z3.length q7) (av (v := .slice a6 z3.length q7) rfl) rfl ?_
   refine rn ?_
   refine qn ?_
   refine Wret ?_
   injection hp with hp; subst hp
   refine f1 (v := .slice a6 z3.length q7) Try.results28 Try.ntmps28 rfl ?_
   exact ⟨_, rfl, k _ _ _ _ hc⟩

-- FN peloton/ledger.New
theorem bd_83_0 {ρ : Operand → Value} {w : World} {dst : Option Nat} {ty : TypeId} {pos : String} {after : Array Edge} {g : Option (Nat × Bool)} {x0 : Operand} {a0 : Option Nat} (h0 : ρ x0 = (.map a0)) :
    (execOp ρ ⟨dst, .build 83 #[(0, x0)], ty, pos, after, g⟩).run Try.prog w = .ok (.value (.agg #[(.map a0)])) w := by
  simp [execOp, Instr.build, Instr.fill, Try.zeroValue83, Try.runUnderlying83, Try.sizeOf81, h0, Value.cells]

def ledger_New  : Option (S_ledger_Ledger) :=
  some (⟨[]⟩ : S_ledger_Ledger)

set_option maxHeartbeats 8000000 in
theorem ledger_New_any {Fr : List HP} {w : World} {r : S_ledger_Ledger} {K : Value → World → Prop}  (hc : Ctx w (Fr)) (hp : ledger_New = some r)
    (k : ∀ (b6 : Nat) w', Ctx w' (S_ledger_Ledger.hp b6 r :: Fr) → K (.pointer (some ⟨b6, 0, none⟩)) w') : Calls Try.prog 7 #[] w (Ret K) := by
 unfold ledger_New at hp
 refine Center (args := []) (l := []) Try.func7 Try.ntmps7 rfl rfl rfl ?_
 refine Wseq ?_
 refine Wreg ?_
 refine rs (v := .pointer none) (av (v := .pointer none) rfl) rfl ?_
 refine rn ?_
 refine qn ?_
 refine Wseq ?_
 refine Wreg ?_
 refine rsE (Ctx.mpvMake (ekI .i64) vf1 (vPt S_ledger_entry.hp) hc) rfl ?_
 clear hc; rintro _ w2 ⟨b1, rfl, hc⟩
 refine rs (v := .agg #[.map (some b1)]) (bd_83_0 rfl) rfl ?_
 refine rsE (Ctx.boxOp (cs := [.map (some b1)]) (v := .agg #[.map (some b1)]) hc rfl rfl) rfl ?_
 clear hc; rintro _ w5 ⟨b3, rfl, hc⟩
 refine rs (v := .pointer (some ⟨b3, 0, none⟩)) (av (v := .pointer (some ⟨b3, 0, none⟩)) rfl) rfl ?_
 refine rn ?_
 refine qn ?_
 refine Wret ?_
 replace hc := hc.pull 1 rfl rfl
 replace hc := hc.pull 1 rfl rfl
 replace hc : Ctx w5 (S_ledger_Ledger.hp b3 (⟨[]⟩ : S_ledger_Ledger) :: Fr) := Ctx.exB _ _ (Ctx.sepB hc)
 injection hp with hp; subst hp
 refine f1 (v := .pointer (some ⟨b3, 0, none⟩)) Try.results7 Try.ntmps7 rfl ?_
 exact ⟨_, rfl, k _ _ hc⟩

-- FN (*peloton/ledger.entry).done
def ledger_entry_done (x0 : S_ledger_entry) : Option (Bool) :=
  some (decide (((x0.log.length : Nat) : Int) ≥ x0.Request.Most))

set_option maxHeartbeats 8000000 in
theorem ledger_entry_done_any {b0 : Nat} {x0 : S_ledger_entry} {Fr : List HP} {w : World} {r : Bool} {K : Value → World → Prop}  (hc : Ctx w (S_ledger_entry.hp b0 x0 :: Fr)) (hp : ledger_entry_done x0 = some r)
    (k : ∀ w', Ctx w' (S_ledger_entry.hp b0 x0 :: Fr) → K (.bool r) w') : Calls Try.prog 29 #[.pointer (some ⟨b0, 0, none⟩)] w (Ret K) := by
 unfold ledger_entry_done at hp
 refine Center (args := [.pointer (some ⟨b0, 0, none⟩)]) (l := [(0, .pointer (some ⟨b0, 0, none⟩))]) Try.func29 Try.ntmps29 rfl rfl rfl ?_
 refine Wseq ?_
 refine Wreg ?_
 refine rs (v := .bool false) (av (v := .bool false) rfl) rfl ?_
 refine rn ?_
 refine qn ?_
 refine Wseq ?_
 replace hc := Ctx.exF hc; obtain ⟨v1, hc⟩ := hc
 replace hc := Ctx.exF hc; obtain ⟨v2, hc⟩ := hc
 replace hc := Ctx.sepF hc
 replace hc := Ctx.sepF hc
 obtain ⟨a3, q4, u5⟩ := hc.rd (k := 1) rfl rfl reads_ro; subst u5
 obtain ⟨a6, q7, u8⟩ := hc.rd (k := 2) rfl rfl reads_own; subst u8
 replace hc := hc.drew
 refine Wdrw (fun _ w' => w' = World.drew w) [0, 1, 3, 7, 15, 0, 32, 96, 224, 480, 1023, 2047] 0 0 rfl (by kernel_rfl) (fun _ _ => rfl) ?_
 generalize hw : World.drew w = w9 at *
 clear hw
 refine ds (v := .pointer (some ⟨b0, 0, none⟩)) rfl (fun w' hF => by subst hF; exact mv (v := .pointer (some ⟨b0, 0, none⟩)) rfl) rfl ?_
 refine ds (v := .pointer (some ⟨b0, 0, none⟩)) rfl (fun w' hF => by subst hF; exact nl rfl) rfl ?_
 refine ds (v := .pointer (some ⟨b0, 3, none⟩)) rfl (fun w' hF => by subst hF; exact fax 3 rfl Try.underlying87 rfl Try.sizeOf23 rfl rfl rfl) rfl ?_
 refine ds (v := .slice a6 x0.log.length q7) rfl (fun w' hF => by subst hF; exact ld rfl Try.isAgg23 (Ctx.cell hc (k := 0) rfl rfl rfl)) rfl ?_
 refine ds (v := .int .i64 ((x0.log.length : Nat) : Int)) rfl (fun w' hF => by subst hF; exact ln rfl Try.underlying23) rfl ?_
 refine ds (v := .pointer (some ⟨b0, 0, none⟩)) rfl (fun w' hF => by subst hF; exact mv (v := .pointer (some ⟨b0, 0, none⟩)) rfl) rfl ?_
 refine ds (v := .pointer (some ⟨b0, 0, none⟩)) rfl (fun w' hF => by subst hF; exact nl rfl) rfl ?_
 refine ds (v := .pointer (some ⟨b0, 0, none⟩)) rfl (fun w' hF => by subst hF; exact fax 0 rfl Try.underlying87 rfl Try.sizeOf29 rfl rfl rfl) rfl ?_
 refine ds (v := .pointer (some ⟨b0, 1, none⟩)) rfl (fun w' hF => by subst hF; exact fax 1 rfl Try.underlying29 rfl Try.sizeOf3 rfl rfl rfl) rfl ?_
 refine ds (v := .int .i64 x0.Request.Most) rfl (fun w' hF => by subst hF; exact ld rfl Try.isAgg3 (Ctx.cell hc (k := 0) rfl rfl rfl)) rfl ?_
 refine ds (v := .bool (decide (((x0.log.length : Nat) : Int) ≥ x0.Request.Most))) rfl (fun w' hF => by subst hF; exact ge' rfl rfl) rfl ?_
 refine ds (v := .bool (decide (((x0.log.length : Nat) : Int) ≥ x0.Request.Most))) rfl (fun w' hF => av (v := .bool (decide (((x0.log.length : Nat) : Int) ≥ x0.Request.Most))) rfl) rfl ?_
 refine dn ?_
 refine qn ?_
 refine Wret ?_
 replace hc := hc.pull 2 rfl rfl
 replace hc := hc.pull 2 rfl rfl
 replace hc := hc.pull 2 rfl rfl
 replace hc : Ctx w9 (S_ledger_entry.hp b0 x0 :: Fr) := Ctx.exB _ _ (Ctx.exB _ _ (Ctx.sepB (Ctx.sepB hc)))
 injection hp with hp; subst hp
 refine f1 (v := .bool (decide (((x0.log.length : Nat) : Int) ≥ x0.Request.Most))) Try.results29 Try.ntmps29 rfl ?_
 exact ⟨_, rfl, k _ hc⟩

-- FN (*peloton/ledger.entry).token
def ledger_entry_token (x0 : S_ledger_entry) (x1 : Int) : Option (Int) :=
  if x1 < ((x0.Request.Prompt.length : Nat) : Int) then
    (idx x0.Request.Prompt x1).bind fun y20 =>
    some y20
  else
    (idx x0.log (IntKind.i64.wrap (x1 - ((x0.Request.Prompt.length : Nat) : Int)))).bind fun y11 =>
    some y11

set_option maxHeartbeats 8000000 in
theorem ledger_entry_token_any {b0 : Nat} {x0 : S_ledger_entry} {x1 : Int} {Fr : List HP} {w : World} {r : Int} {K : Value → World → Prop}  (hc : Ctx w (S_ledger_entry.hp b0 x0 :: Fr)) (hp : ledger_entry_token x0 x1 = some r)
    (k : ∀ w', Ctx w' (S_ledger_entry.hp b0 x0 :: Fr) → K (.int .i64 r) w') : Calls Try.prog 30 #[.pointer (some ⟨b0, 0, none⟩), .int .i64 x1] w (Ret K) := by
 unfold ledger_entry_token at hp
 refine Center (args := [.pointer (some ⟨b0, 0, none⟩), .int .i64 x1]) (l := [(0, .pointer (some ⟨b0, 0, none⟩)), (1, .int .i64 x1)]) Try.func30 Try.ntmps30 rfl rfl rfl ?_
 refine Wseq ?_
 refine Wreg ?_
 refine rs (v := .int .i64 0) (av (v := .int .i64 0) rfl) rfl ?_
 refine rn ?_
 refine qn ?_
 refine Wseq ?_
 refine Wseq ?_
 refine Wreg ?_
 refine rs (v := .int .i64 x1) (mv (v := .int .i64 x1) rfl) rfl ?_
 refine rs (v := .pointer (some ⟨b0, 0, none⟩)) (mv (v := .pointer (some ⟨b0, 0, none⟩)) rfl) rfl ?_
 refine rs (v := .pointer (some ⟨b0, 0, none⟩)) (nl rfl) rfl ?_
 refine rs (v := .pointer (some ⟨b0, 0, none⟩)) (fax 0 rfl Try.underlying87 rfl Try.sizeOf29 rfl rfl rfl) rfl ?_
 refine rs (v := .pointer (some ⟨b0, 2, none⟩)) (fax 2 rfl Try.underlying29 rfl Try.sizeOf23 rfl rfl rfl) rfl ?_
 replace hc := Ctx.exF hc; obtain ⟨v1, hc⟩ := hc
 replace hc := Ctx.exF hc; obtain ⟨v2, hc⟩ := hc
 replace hc := Ctx.sepF hc
 replace hc := Ctx.sepF hc
 obtain ⟨a3, q4, u5⟩ := hc.rd (k := 1) rfl rfl reads_ro; subst u5
 obtain ⟨a6, q7, u8⟩ := hc.rd (k := 2) rfl rfl reads_own; subst u8
 refine rs (v := .slice a3 x0.Request.Prompt.length q4) (ld rfl Try.isAgg23 (Ctx.cell hc (k := 0) rfl rfl rfl)) rfl ?_
 refine rs (v := .int .i64 ((x0.Request.Prompt.length : Nat) : Int)) (ln rfl Try.underlying23) rfl ?_
 refine rs (v := .bool (decide (x1 < ((x0.Request.Prompt.length : Nat) : Int)))) (lt' rfl rfl) rfl ?_
 refine rn ?_
 refine qn ?_
 cases hb9 : (decide (x1 < ((x0.Request.Prompt.length : Nat) : Int)))
 · replace hp := gneg hp (of_decide_eq_false hb9)
   refine Wcf rfl ?_
   refine Wskip ?_
   refine qn ?_
   refine Wseq ?_
   replace hc := hc.drew
   refine Wdrw (fun _ w' => w' = World.drew w) [0, 1, 3, 7, 0, 0, 32, 96, 224, 480, 992, 2032, 4095, 8191, 16383] 0 0 rfl (by kernel_rfl) (fun _ _ => rfl) ?_
   generalize hw : World.drew w = w10 at *
   clear hw
   refine ds (v := .pointer (some ⟨b0, 0, none⟩)) rfl (fun w' hF => by subst hF; exact mv (v := .pointer (some ⟨b0, 0, none⟩)) rfl) rfl ?_
   refine ds (v := .pointer (some ⟨b0, 0, none⟩)) rfl (fun w' hF => by subst hF; exact nl rfl) rfl ?_
   refine ds (v := .pointer (some ⟨b0, 3, none⟩)) rfl (fun w' hF => by subst hF; exact fax 3 rfl Try.underlying87 rfl Try.sizeOf23 rfl rfl rfl) rfl ?_
   refine ds (v := .slice a6 x0.log.length q7) rfl (fun w' hF => by subst hF; exact ld rfl Try.isAgg23 (Ctx.cell hc (k := 0) rfl rfl rfl)) rfl ?_
   refine ds (v := .int .i64 x1) rfl (fun w' hF => by subst hF; exact mv (v := .int .i64 x1) rfl) rfl ?_
   refine ds (v := .pointer (some ⟨b0, 0, none⟩)) rfl (fun w' hF => by subst hF; exact mv (v := .pointer (some ⟨b0, 0, none⟩)) rfl) rfl ?_
   refine ds (v := .pointer (some ⟨b0, 0, none⟩)) rfl (fun w' hF => by subst hF; exact nl rfl) rfl ?_
   refine ds (v := .pointer (some ⟨b0, 0, none⟩)) rfl (fun w' hF => by subst hF; exact fax 0 rfl Try.underlying87 rfl Try.sizeOf29 rfl rfl rfl) rfl ?_
   refine ds (v := .pointer (some ⟨b0, 2, none⟩)) rfl (fun w' hF => by subst hF; exact fax 2 rfl Try.underlying29 rfl Try.sizeOf23 rfl rfl rfl) rfl ?_
   refine ds (v := .slice a3 x0.Request.Prompt.length q4) rfl (fun w' hF => by subst hF; exact ld rfl Try.isAgg23 (Ctx.cell hc (k := 0) rfl rfl rfl)) rfl ?_
   refine ds (v := .int .i64 ((x0.Request.Prompt.length : Nat) : Int)) rfl (fun w' hF => by subst hF; exact ln rfl Try.underlying23) rfl ?_
   refine ds (v := .int .i64 (IntKind.i64.wrap (x1 - ((x0.Request.Prompt.length : Nat) : Int)))) rfl (fun w' hF => by subst hF; exact sbw rfl rfl) rfl ?_
   replace hp := bind_some hp; obtain ⟨y11, hy11, hp⟩ := hp
   obtain ⟨b14, o15, u16, hi12, hi13⟩ := Ctx.rdAt hc (k := 2) rfl rfl reads_own hy11
   subst u16
   refine ds (v := .pointer (some ⟨b14, o15 + ((IntKind.i64.wrap (x1 - ((x0.Request.Prompt.length : Nat) : Int)))).toNat * 1, none⟩)) rfl (fun w' hF => by subst hF; exact ixx rfl rfl Try.underlying23 Try.sizeOf3 hi12 hi13 rfl) rfl ?_
   replace hc := Ctx.rdCell hc (k := 2) rfl rfl reads_own hy11; obtain ⟨cs17, hc, hcell18⟩ := hc
   replace hc := Ctx.holdC hc; obtain ⟨u19, hc⟩ := hc; subst u19
   refine ds (v := .int .i64 y11) rfl (fun w' hF => by subst hF; exact ld rfl Try.isAgg3 (hcell18 0 _ rfl)) rfl ?_
   refine ds (v := .int .i64 y11) rfl (fun w' hF => av (v := .int .i64 y11) rfl) rfl ?_
   refine dn ?_
   refine qn ?_
   refine Wret ?_
   replace hc := hc.pull 2 rfl rfl
   replace hc := hc.pull 2 rfl rfl
   replace hc := hc.pull 2 rfl rfl
   replace hc : Ctx w10 (S_ledger_entry.hp b0 x0 :: Fr) := Ctx.exB _ _ (Ctx.exB _ _ (Ctx.sepB (Ctx.sepB hc)))
   injection hp with hp; subst hp
   refine f1 (v := .int .i64 y11) Try.results30 Try.ntmps30 rfl ?_
   exact ⟨_, rfl, k _ hc⟩
 · replace hp := gpos hp (of_decide_eq_true hb9)
   refine Wct rfl ?_
   refine Wseq ?_
   refine Wreg ?_
   refine rs (v := .pointer (some ⟨b0, 0, none⟩)) (mv (v := .pointer (some ⟨b0, 0, none⟩)) rfl) rfl ?_
   refine rs (v := .pointer (some ⟨b0, 0, none⟩)) (nl rfl) rfl ?_
   refine rs (v := .pointer (some ⟨b0, 0, none⟩)) (fax 0 rfl Try.underlying87 rfl Try.sizeOf29 rfl rfl rfl) rfl ?_
   refine rs (v := .pointer (some ⟨b0, 2, none⟩)) (fax 2 rfl Try.underlying29 rfl Try.sizeOf23 rfl rfl rfl) rfl ?_
   refine rs (v := .slice a3 x0.Request.Prompt.length q4) (ld rfl Try.isAgg23 (Ctx.cell hc (k := 0) rfl rfl rfl)) rfl ?_
   refine rs (v := .int .i64 x1) (mv (v := .int .i64 x1) rfl) rfl ?_
   replace hp := bind_some hp; obtain ⟨y20, hy20, hp⟩ := hp
   obtain ⟨b23, o24, u25, hi21, hi22⟩ := Ctx.rdAt hc (k := 1) rfl rfl reads_ro hy20
   subst u25
   refine rs (v := .pointer (some ⟨b23, o24 + (x1).toNat * 1, none⟩)) (ixx rfl rfl Try.underlying23 Try.sizeOf3 hi21 hi22 rfl) rfl ?_
   replace hc := Ctx.rdCell hc (k := 1) rfl rfl reads_ro hy20; obtain ⟨cs26, hc, hcell27⟩ := hc
   replace hc := Ctx.holdC hc; obtain ⟨u28, hc⟩ := hc; subst u28
   refine rs (v := .int .i64 y20) (ld rfl Try.isAgg3 (hcell27 0 _ rfl)) rfl ?_
   refine rs (v := .int .i64 y20) (av (v := .int .i64 y20) rfl) rfl ?_
   refine rn ?_
   refine qn ?_
   refine Wret ?_
   refine qr ?_
   replace hc := hc.pull 2 rfl rfl
   replace hc := hc.pull 2 rfl rfl
   replace hc := hc.pull 2 rfl rfl
   replace hc : Ctx w (S_ledger_entry.hp b0 x0 :: Fr) := Ctx.exB _ _ (Ctx.exB _ _ (Ctx.sepB (Ctx.sepB hc)))
   injection hp with hp; subst hp
   refine f1 (v := .int .i64 y20) Try.results30 Try.ntmps30 rfl ?_
   exact ⟨_, rfl, k _ hc⟩

-- FN (*peloton/ledger.Ledger).Open
theorem bd_87_0 {ρ : Operand → Value} {w : World} {dst : Option Nat} {ty : TypeId} {pos : String} {after : Array Edge} {g : Option (Nat × Bool)} {x0 : Operand} {c0_0 c0_1 c0_2 : Value} (h0 : ρ x0 = .agg #[c0_0, c0_1, c0_2]) :
    (execOp ρ ⟨dst, .build 87 #[(0, x0)], ty, pos, after, g⟩).run Try.prog w = .ok (.value (.agg #[c0_0, c0_1, c0_2, (.slice none 0 0), (.int .i64 0)])) w := by
  simp [execOp, Instr.build, Instr.fill, Try.zeroValue87, Try.runUnderlying87, Try.sizeOf23, Try.sizeOf29, Try.sizeOf3, h0, Value.cells]

def ledger_Ledger_Open (x0 : S_ledger_Ledger) (x1 : S_api_Request) : Option (Int × S_ledger_Ledger) :=
  optc (mget x0.m x1.ID) (
    if ((x1.Prompt.length : Nat) : Int) = 0 then
      some (90, x0)
    else
      if x1.Most < 1 then
        some (2, x0)
      else
        (slices_Clone_s_int_int x1.Prompt).bind fun r14 =>
        some (0, (⟨(mset x0.m x1.ID (⟨(⟨x1.ID, x1.Most, r14⟩ : S_api_Request), [], 0⟩ : S_ledger_entry))⟩ : S_ledger_Ledger))) fun y11 =>
    some (210, x0)

set_option maxHeartbeats 8000000 in
theorem ledger_Ledger_Open_any {b0 : Nat} {x0 : S_ledger_Ledger} {x1 : S_api_Request} {a1 : Option Addr} {n2 : Nat} {q3 : Nat} {Fr : List HP} {w : World} {r : Int × S_ledger_Ledger} {K : Value → World → Prop}  (hc : Ctx w (S_ledger_Ledger.hp b0 x0 :: Hold (pRo (pInt .i64)) [.slice a1 n2 q3] x1.Prompt :: Fr)) (hp : ledger_Ledger_Open x0 x1 = some r)
    (k : ∀ w', Ctx w' (S_ledger_Ledger.hp b0 r.2 :: Fr) → K (.int .i64 r.1) w') : Calls Try.prog 8 #[.pointer (some ⟨b0, 0, none⟩), .agg #[.int .i64 x1.ID, .int .i64 x1.Most, .slice a1 n2 q3]] w (Ret K) := by
 unfold ledger_Ledger_Open at hp
 refine Center (args := [.pointer (some ⟨b0, 0, none⟩), .agg #[.int .i64 x1.ID, .int .i64 x1.Most, .slice a1 n2 q3]]) (l := [(0, .pointer (some ⟨b0, 0, none⟩)), (1, .agg #[.int .i64 x1.ID, .int .i64 x1.Most, .slice a1 n2 q3])]) Try.func8 Try.ntmps8 rfl rfl rfl ?_
 obtain ⟨u4, _⟩ := Ctx.rdLen hc (k := 1) rfl rfl reads_ro; subst u4
 refine Wseq ?_
 refine Wreg ?_
 refine rsE (Ctx.boxOp (cs := [.int .i64 x1.ID, .int .i64 x1.Most, .slice a1 x1.Prompt.length q3]) (v := .agg #[.int .i64 x1.ID, .int .i64 x1.Most, .slice a1 x1.Prompt.length q3]) hc rfl rfl) rfl ?_
 clear hc; rintro _ w7 ⟨b5, rfl, hc⟩
 refine rs (v := .int .i64 0) (av (v := .int .i64 0) rfl) rfl ?_
 refine rn ?_
 refine qn ?_
 refine Wseq ?_
 refine Wblk ?_
 refine Wseq ?_
 replace hc := hc.pull 1 rfl rfl
 replace hc := Ctx.exF hc; obtain ⟨v8, hc⟩ := hc
 replace hc := Ctx.sepF hc
 replace hc := hc.drew
 refine Wdrw (fun _ w' => w' = World.drew w7) [0, 1, 3, 7, 0, 16, 63, 127, 255] 0 0 rfl (by kernel_rfl) (fun _ _ => rfl) ?_
 generalize hw : World.drew w7 = w9 at *
 clear hw
 refine ds (v := .pointer (some ⟨b0, 0, none⟩)) rfl (fun w' hF => by subst hF; exact mv (v := .pointer (some ⟨b0, 0, none⟩)) rfl) rfl ?_
 refine ds (v := .pointer (some ⟨b0, 0, none⟩)) rfl (fun w' hF => by subst hF; exact nl rfl) rfl ?_
 refine ds (v := .pointer (some ⟨b0, 0, none⟩)) rfl (fun w' hF => by subst hF; exact fax 0 rfl Try.underlying83 rfl Try.sizeOf81 rfl rfl rfl) rfl ?_
 refine ds (v := .map (some v8)) rfl (fun w' hF => by subst hF; exact ld rfl Try.isAgg81 (Ctx.cell hc (k := 0) rfl rfl rfl)) rfl ?_
 refine ds (v := .pointer (some ⟨b5, 0, none⟩)) rfl (fun w' hF => by subst hF; exact fax 0 rfl Try.underlying29 rfl Try.sizeOf3 rfl rfl rfl) rfl ?_
 refine ds (v := .int .i64 x1.ID) rfl (fun w' hF => by subst hF; exact ld rfl Try.isAgg3 (Ctx.cell hc (k := 2) rfl rfl rfl)) rfl ?_
 cases hb10 : mget x0.m x1.ID
 · replace hp := optN hp hb10
   refine ds (v := .pointer none) rfl (fun w' hF => by subst hF; exact Ctx.mpvGetN (k := x1.ID) false (keyL_int Try.underlying3) hc (i := 1) rfl rfl Try.underlying81 rfl rfl Try.zeroValue84 hb10) rfl ?_
   refine ds (v := .bool false) rfl (fun w' hF => by subst hF; exact npt Try.underlying84 rfl rfl) rfl ?_
   refine ds (v := .bool false) rfl (fun w' hF => av (v := .bool false) rfl) rfl ?_
   refine dn ?_
   refine qn ?_
   refine Wcf rfl ?_
   refine Wseq ?_
   refine Wreg ?_
   refine rs (v := .pointer (some ⟨b5, 2, none⟩)) (fax 2 rfl Try.underlying29 rfl Try.sizeOf23 rfl rfl rfl) rfl ?_
   refine rs (v := .slice a1 x1.Prompt.length q3) (ld rfl Try.isAgg23 (Ctx.cell hc (k := 2) rfl rfl rfl)) rfl ?_
   refine rs (v := .int .i64 ((x1.Prompt.length : Nat) : Int)) (ln rfl Try.underlying23) rfl ?_
   refine rs (v := .bool (decide (((x1.Prompt.length : Nat) : Int) = 0))) (eqd rfl rfl) rfl ?_
   refine rs (v := .bool (decide (((x1.Prompt.length : Nat) : Int) = 0))) (av (v := .bool (decide (((x1.Prompt.length : Nat) : Int) = 0))) rfl) rfl ?_
   refine rn ?_
   refine qn ?_
   cases hb12 : (decide (((x1.Prompt.length : Nat) : Int) = 0))
   · replace hp := gneg hp (of_decide_eq_false hb12)
     refine Wcf rfl ?_
     refine Wseq ?_
     refine Wreg ?_
     refine rs (v := .pointer (some ⟨b5, 1, none⟩)) (fax 1 rfl Try.underlying29 rfl Try.sizeOf3 rfl rfl rfl) rfl ?_
     refine rs (v := .int .i64 x1.Most) (ld rfl Try.isAgg3 (Ctx.cell hc (k := 2) rfl rfl rfl)) rfl ?_
     refine rs (v := .bool (decide (x1.Most < 1))) (lt' rfl rfl) rfl ?_
     refine rs (v := .bool (decide (x1.Most < 1))) (av (v := .bool (decide (x1.Most < 1))) rfl) rfl ?_
     refine rn ?_
     refine qn ?_
     cases hb13 : (decide (x1.Most < 1))
     · replace hp := gneg hp (of_decide_eq_false hb13)
       refine Wcf rfl ?_
       refine Wskip ?_
       refine bn ?_
       refine qn ?_
       refine Wseq ?_
       refine Wreg ?_
       refine rs (v := .pointer (some ⟨b5, 2, none⟩)) (fax 2 rfl Try.underlying29 rfl Try.sizeOf23 rfl rfl rfl) rfl ?_
       refine rs (v := .slice a1 x1.Prompt.length q3) (ld rfl Try.isAgg23 (Ctx.cell hc (k := 2) rfl rfl rfl)) rfl ?_
       replace hc := hc.dup (k := 3) rfl rfl
       replace hp := bind_some hp; obtain ⟨r14, hr14, hp⟩ := hp
       refine rc (cl Try.call28 rfl rfl) rfl ?_
       refine slices_Clone_s_int_int_any reads_ro hc hr14 ?_
       clear hc; intro a15 n16 q17 w18 hc
       obtain ⟨u19, _⟩ := Ctx.rdLen hc (k := 0) rfl rfl reads_own; subst u19
       refine rs (v := .pointer (some ⟨b5, 2, none⟩)) (fax 2 rfl Try.underlying29 rfl Try.sizeOf23 rfl rfl rfl) rfl ?_
       refine ruE (A := fun w' => Ctx w' (Own (pInt .i64) 3 (.slice a15 r14.length q17) r14 :: Hold (pRo (pInt .i64)) [.slice a1 x1.Prompt.length q3] x1.Prompt :: B b0 [.map (some v8)] 83 :: MpV (ekI .i64) vf1 (vPt S_ledger_entry.hp) v8 x0.m :: B b5 [.int .i64 x1.ID, .int .i64 x1.Most, .slice a15 r14.length q17] 29 :: Hold (pRo (pInt .i64)) [.slice a1 x1.Prompt.length q3] x1.Prompt :: Fr)) (Ctx.putOp hc (k := 4) rfl rfl (v := .slice a15 r14.length q17) rfl rfl rfl Try.sizeOf23 rfl rfl rfl) rfl ?_
       clear hc; rintro w20 hc
       refine rn ?_
       refine qn ?_
       refine Wseq ?_
       replace hc := hc.drew
       have hF : ∀ j, free [0, 1, 3, 7, 0, 16, 0, 64, 192, 511] 0 j = true → (fun j w' => (j = 3 → w'.cell? ⟨b0, 0, none⟩ = some (.map (some v8))) ∧ (j = 5 → w'.cell? ⟨b5, 0, none⟩ = some (.int .i64 x1.ID)) ∧ True) j (World.drew w20) := fun j hj => ⟨fun _ => hc.cell (k := 2) rfl rfl rfl, fun _ => hc.cell (k := 4) rfl rfl rfl, trivial⟩
       refine Wdrw (fun j w' => (j = 3 → w'.cell? ⟨b0, 0, none⟩ = some (.map (some v8))) ∧ (j = 5 → w'.cell? ⟨b5, 0, none⟩ = some (.int .i64 x1.ID)) ∧ True) [0, 1, 3, 7, 0, 16, 0, 64, 192, 511] 0 64 rfl (by kernel_rfl) (hF) ?_
       generalize hw : World.drew w20 = w21 at *
       clear hw
       refine ds (v := .pointer (some ⟨b0, 0, none⟩)) rfl (fun w' hF => mv (v := .pointer (some ⟨b0, 0, none⟩)) rfl) rfl ?_
       refine ds (v := .pointer (some ⟨b0, 0, none⟩)) rfl (fun w' hF => nl rfl) rfl ?_
       refine ds (v := .pointer (some ⟨b0, 0, none⟩)) rfl (fun w' hF => fax 0 rfl Try.underlying83 rfl Try.sizeOf81 rfl rfl rfl) rfl ?_
       refine ds (v := .map (some v8)) rfl (fun w' hF => ld rfl Try.isAgg81 ((hF.1 rfl))) rfl ?_
       refine ds (v := .pointer (some ⟨b5, 0, none⟩)) rfl (fun w' hF => fax 0 rfl Try.underlying29 rfl Try.sizeOf3 rfl rfl rfl) rfl ?_
       refine ds (v := .int .i64 x1.ID) rfl (fun w' hF => ld rfl Try.isAgg3 ((hF.2.1 rfl))) rfl ?_
       refine dx (v := .agg #[.int .i64 x1.ID, .int .i64 x1.Most, .slice a15 r14.length q17]) rfl (ldg rfl Try.isAgg29 Try.sizeOf29 rfl (Ctx.cells hc (k := 4) rfl rfl 0 (vs := [.int .i64 x1.ID, .int .i64 x1.Most, .slice a15 r14.length q17]) rfl)) rfl rfl ?_
       refine ds (v := .agg #[.int .i64 x1.ID, .int .i64 x1.Most, .slice a15 r14.length q17, .slice none 0 0, .int .i64 0]) rfl (fun w' hF => bd_87_0 rfl) rfl ?_
       refine deE (Ctx.boxOp (cs := [.int .i64 x1.ID, .int .i64 x1.Most, .slice a15 r14.length q17, .slice none 0 0, .int .i64 0]) (v := .agg #[.int .i64 x1.ID, .int .i64 x1.Most, .slice a15 r14.length q17, .slice none 0 0, .int .i64 0]) hc rfl rfl) rfl rfl ?_
       clear hc; rintro _ w24 ⟨b22, rfl, hc⟩
       refine ⟨fun j hj hb => ⟨fun _ => hc.cell (k := 3) rfl rfl rfl, fun _ => hc.cell (k := 5) rfl rfl rfl, trivial⟩, ?_⟩
       replace hc := hc.freeze (k := 1) rfl rfl rfl
       replace hc := hc.nilOwn (pInt .i64) 3
       replace hc := hc.pull 2 rfl rfl
       replace hc := hc.pull 2 rfl rfl
       replace hc : Ctx w24 (S_ledger_entry.hp b22 (⟨(⟨x1.ID, x1.Most, r14⟩ : S_api_Request), [], 0⟩ : S_ledger_entry) :: Hold (pRo (pInt .i64)) [.slice a1 x1.Prompt.length q3] x1.Prompt :: B b0 [.map (some v8)] 83 :: MpV (ekI .i64) vf1 (vPt S_ledger_entry.hp) v8 x0.m :: B b5 [.int .i64 x1.ID, .int .i64 x1.Most, .slice a15 r14.length q17] 29 :: Hold (pRo (pInt .i64)) [.slice a1 x1.Prompt.length q3] x1.Prompt :: Fr) := Ctx.exB _ _ (Ctx.exB _ _ (Ctx.sepB (Ctx.sepB hc)))
       replace hc : Ctx w24 ((vPt S_ledger_entry.hp).r [.pointer (some ⟨b22, 0, none⟩)] (⟨(⟨x1.ID, x1.Most, r14⟩ : S_api_Request), [], 0⟩ : S_ledger_entry) :: Hold (pRo (pInt .i64)) [.slice a1 x1.Prompt.length q3] x1.Prompt :: B b0 [.map (some v8)] 83 :: MpV (ekI .i64) vf1 (vPt S_ledger_entry.hp) v8 x0.m :: B b5 [.int .i64 x1.ID, .int .i64 x1.Most, .slice a15 r14.length q17] 29 :: Hold (pRo (pInt .i64)) [.slice a1 x1.Prompt.length q3] x1.Prompt :: Fr) := Ctx.exB _ _ (Ctx.sepB (Ctx.puB rfl hc))
       replace hc := hc.pull 3 rfl rfl
       replace hc := hc.swap
       refine duE (A := fun w' => Ctx w' (MpV (ekI .i64) vf1 (vPt S_ledger_entry.hp) v8 (mset x0.m x1.ID (⟨(⟨x1.ID, x1.Most, r14⟩ : S_api_Request), [], 0⟩ : S_ledger_entry)) :: Hold (pRo (pInt .i64)) [.slice a1 x1.Prompt.length q3] x1.Prompt :: B b0 [.map (some v8)] 83 :: B b5 [.int .i64 x1.ID, .int .i64 x1.Most, .slice a15 r14.length q17] 29 :: Hold (pRo (pInt .i64)) [.slice a1 x1.Prompt.length q3] x1.Prompt :: Fr)) (Ctx.mpvSet (k := x1.ID) (keyL_int Try.underlying3) hc Try.underlying81 rfl rfl rfl) rfl rfl ?_
       clear hc; rintro w25 hc
       refine ⟨fun j hj hb => ⟨fun e => (by subst e; exact absurd hj (by decide)), fun e => (by subst e; exact absurd hj (by decide)), trivial⟩, ?_⟩
       refine dn ?_
       refine qn ?_
       refine Wseq ?_
       refine Wreg ?_
       refine rs (v := .int .i64 0) (av (v := .int .i64 0) rfl) rfl ?_
       refine rn ?_
       refine qn ?_
       refine Wret ?_
       replace hc := hc.pull 2 rfl rfl
       replace hc : Ctx w25 (S_ledger_Ledger.hp b0 (⟨(mset x0.m x1.ID (⟨(⟨x1.ID, x1.Most, r14⟩ : S_api_Request), [], 0⟩ : S_ledger_entry))⟩ : S_ledger_Ledger) :: Hold (pRo (pInt .i64)) [.slice a1 x1.Prompt.length q3] x1.Prompt :: B b5 [.int .i64 x1.ID, .int .i64 x1.Most, .slice a15 r14.length q17] 29 :: Hold (pRo (pInt .i64)) [.slice a1 x1.Prompt.length q3] x1.Prompt :: Fr) := Ctx.exB _ _ (Ctx.sepB hc)
       replace hc := hc.rem 3 rfl rfl
       replace hc := hc.rem 2 rfl rfl
       replace hc := hc.rem 1 rfl rfl
       injection hp with hp; subst hp
       refine f1 (v := .int .i64 0) Try.results8 Try.ntmps8 rfl ?_
       exact ⟨_, rfl, k _ hc⟩
     · replace hp := gpos hp (of_decide_eq_true hb13)
       refine Wct rfl ?_
       refine Wseq ?_
       refine Wreg ?_
       refine rs (v := .int .i64 2) (av (v := .int .i64 2) rfl) rfl ?_
       refine rn ?_
       refine qn ?_
       refine Wret ?_
       refine br ?_
       refine qr ?_
       replace hc := hc.pull 1 rfl rfl
       replace hc := hc.pull 1 rfl rfl
       replace hc : Ctx w9 (S_ledger_Ledger.hp b0 x0 :: B b5 [.int .i64 x1.ID, .int .i64 x1.Most, .slice a1 x1.Prompt.length q3] 29 :: Hold (pRo (pInt .i64)) [.slice a1 x1.Prompt.length q3] x1.Prompt :: Fr) := Ctx.exB _ _ (Ctx.sepB hc)
       replace hc := hc.rem 2 rfl rfl
       replace hc := hc.rem 1 rfl rfl
       injection hp with hp; subst hp
       refine f1 (v := .int .i64 2) Try.results8 Try.ntmps8 rfl ?_
       exact ⟨_, rfl, k _ hc⟩
   · replace hp := gpos hp (of_decide_eq_true hb12)
     refine Wct rfl ?_
     refine Wseq ?_
     refine Wreg ?_
     refine rs (v := .int .i64 90) (av (v := .int .i64 90) rfl) rfl ?_
     refine rn ?_
     refine qn ?_
     refine Wret ?_
     refine br ?_
     refine qr ?_
     replace hc := hc.pull 1 rfl rfl
     replace hc := hc.pull 1 rfl rfl
     replace hc : Ctx w9 (S_ledger_Ledger.hp b0 x0 :: B b5 [.int .i64 x1.ID, .int .i64 x1.Most, .slice a1 x1.Prompt.length q3] 29 :: Hold (pRo (pInt .i64)) [.slice a1 x1.Prompt.length q3] x1.Prompt :: Fr) := Ctx.exB _ _ (Ctx.sepB hc)
     replace hc := hc.rem 2 rfl rfl
     replace hc := hc.rem 1 rfl rfl
     injection hp with hp; subst hp
     refine f1 (v := .int .i64 90) Try.results8 Try.ntmps8 rfl ?_
     exact ⟨_, rfl, k _ hc⟩
 · rename_i y11
   replace hp := optS hp hb10
   replace hc := hc.pull 1 rfl rfl
   replace hc := Ctx.mpVF hc; obtain ⟨lh26, hK27, hc⟩ := hc
   replace hc := Ctx.bigGetS hc.swap hb10; obtain ⟨c29, hg28, hc⟩ := hc
   replace hc := Ctx.exF hc; obtain ⟨b31, hc⟩ := hc
   replace hc := Ctx.sepF hc
   replace hc := Ctx.puF hc; obtain ⟨u30, hc⟩ := hc; subst u30
   replace hc : Ctx w9 (S_ledger_entry.hp b31 y11 :: Big (VK (vPt S_ledger_entry.hp)) (mdel lh26 x1.ID) (mdel x0.m x1.ID) :: Mp (ekI .i64) (HV vf1 (pAny 1)) v8 lh26 :: B b0 [.map (some v8)] 83 :: B b5 [.int .i64 x1.ID, .int .i64 x1.Most, .slice a1 x1.Prompt.length q3] 29 :: Hold (pRo (pInt .i64)) [.slice a1 x1.Prompt.length q3] x1.Prompt :: Fr) := hc
   refine ds (v := .pointer (some ⟨b31, 0, none⟩)) rfl (fun w' hF => by subst hF; exact Ctx.mpGetH (k := x1.ID) false (keyL_int Try.underlying3) hc (i := 2) rfl rfl Try.underlying81 rfl rfl hg28) rfl ?_
   refine ds (v := .bool true) rfl (fun w' hF => by subst hF; exact npf Try.underlying84 rfl rfl) rfl ?_
   refine ds (v := .bool true) rfl (fun w' hF => av (v := .bool true) rfl) rfl ?_
   refine dn ?_
   refine qn ?_
   refine Wct rfl ?_
   refine Wseq ?_
   refine Wreg ?_
   refine rs (v := .int .i64 210) (av (v := .int .i64 210) rfl) rfl ?_
   refine rn ?_
   refine qn ?_
   refine Wret ?_
   refine br ?_
   refine qr ?_
   replace hc : Ctx w9 ((vPt S_ledger_entry.hp).r [.pointer (some ⟨b31, 0, none⟩)] y11 :: Big (VK (vPt S_ledger_entry.hp)) (mdel lh26 x1.ID) (mdel x0.m x1.ID) :: Mp (ekI .i64) (HV vf1 (pAny 1)) v8 lh26 :: B b0 [.map (some v8)] 83 :: B b5 [.int .i64 x1.ID, .int .i64 x1.Most, .slice a1 x1.Prompt.length q3] 29 :: Hold (pRo (pInt .i64)) [.slice a1 x1.Prompt.length q3] x1.Prompt :: Fr) := Ctx.exB _ _ (Ctx.sepB (Ctx.puB rfl hc))
   replace hc := hc.pull 2 rfl rfl
   replace hc := hc.pull 2 rfl rfl
   replace hc := hc.pull 2 rfl rfl
   replace hc := Ctx.bigBack0 hc hK27 hg28 hb10
   replace hc : Ctx w9 (MpV (ekI .i64) vf1 (vPt S_ledger_entry.hp) v8 x0.m :: B b0 [.map (some v8)] 83 :: B b5 [.int .i64 x1.ID, .int .i64 x1.Most, .slice a1 x1.Prompt.length q3] 29 :: Hold (pRo (pInt .i64)) [.slice a1 x1.Prompt.length q3] x1.Prompt :: Fr) := Ctx.mpVB hc.swap
   replace hc := hc.pull 1 rfl rfl
   replace hc : Ctx w9 (S_ledger_Ledger.hp b0 x0 :: B b5 [.int .i64 x1.ID, .int .i64 x1.Most, .slice a1 x1.Prompt.length q3] 29 :: Hold (pRo (pInt .i64)) [.slice a1 x1.Prompt.length q3] x1.Prompt :: Fr) := Ctx.exB _ _ (Ctx.sepB hc)
   replace hc := hc.rem 2 rfl rfl
   replace hc := hc.rem 1 rfl rfl
   injection hp with hp; subst hp
   refine f1 (v := .int .i64 210) Try.results8 Try.ntmps8 rfl ?_
   exact ⟨_, rfl, k _ hc⟩

-- FN (*peloton/ledger.Ledger).Next
def ledger_Ledger_Next (x0 : S_ledger_Ledger) (x1 : Int) : Option (Int × Int × Bool) :=
  optc (mget x0.m x1) (
    some (0, 0, false)) fun y3 =>
    (ledger_entry_done y3).bind fun r10 =>
    if r10 = true then
      some (0, 0, false)
    else
      (ledger_entry_token y3 y3.fed).bind fun r22 =>
      some (y3.fed, r22, true)

set_option maxHeartbeats 8000000 in
theorem ledger_Ledger_Next_any {b0 : Nat} {x0 : S_ledger_Ledger} {x1 : Int} {Fr : List HP} {w : World} {r : Int × Int × Bool} {K : Value → World → Prop}  (hc : Ctx w (S_ledger_Ledger.hp b0 x0 :: Fr)) (hp : ledger_Ledger_Next x0 x1 = some r)
    (k : ∀ w', Ctx w' (S_ledger_Ledger.hp b0 x0 :: Fr) → K (.tuple #[.int .i64 r.1, .int .i64 r.2.1, .bool r.2.2]) w') : Calls Try.prog 9 #[.pointer (some ⟨b0, 0, none⟩), .int .i64 x1] w (Ret K) := by
 unfold ledger_Ledger_Next at hp
 refine Center (args := [.pointer (some ⟨b0, 0, none⟩), .int .i64 x1]) (l := [(0, .pointer (some ⟨b0, 0, none⟩)), (1, .int .i64 x1)]) Try.func9 Try.ntmps9 rfl rfl rfl ?_
 refine Wseq ?_
 refine Wreg ?_
 refine rs (v := .int .i64 0) (av (v := .int .i64 0) rfl) rfl ?_
 refine rs (v := .int .i64 0) (av (v := .int .i64 0) rfl) rfl ?_
 refine rs (v := .bool false) (av (v := .bool false) rfl) rfl ?_
 refine rn ?_
 refine qn ?_
 refine Wseq ?_
 refine Wreg ?_
 refine rs (v := .pointer (some ⟨b0, 0, none⟩)) (mv (v := .pointer (some ⟨b0, 0, none⟩)) rfl) rfl ?_
 refine rs (v := .pointer (some ⟨b0, 0, none⟩)) (nl rfl) rfl ?_
 refine rs (v := .pointer (some ⟨b0, 0, none⟩)) (fax 0 rfl Try.underlying83 rfl Try.sizeOf81 rfl rfl rfl) rfl ?_
 replace hc := Ctx.exF hc; obtain ⟨v1, hc⟩ := hc
 replace hc := Ctx.sepF hc
 refine rs (v := .map (some v1)) (ld rfl Try.isAgg81 (Ctx.cell hc (k := 0) rfl rfl rfl)) rfl ?_
 refine rs (v := .int .i64 x1) (mv (v := .int .i64 x1) rfl) rfl ?_
 cases hb2 : mget x0.m x1
 · replace hp := optN hp hb2
   refine rs (v := .pointer none) (Ctx.mpvGetN (k := x1) false (keyL_int Try.underlying3) hc (i := 1) rfl rfl Try.underlying81 rfl rfl Try.zeroValue84 hb2) rfl ?_
   refine rs (v := .pointer none) (av (v := .pointer none) rfl) rfl ?_
   refine rn ?_
   refine qn ?_
   refine Wseq ?_
   refine Wseq ?_
   refine Wreg ?_
   refine rs (v := .pointer none) (mv (v := .pointer none) rfl) rfl ?_
   refine rs (v := .bool true) (ept Try.underlying84 rfl rfl) rfl ?_
   refine rs (v := .bool true) (mv (v := .bool true) rfl) rfl ?_
   refine r0 rfl ?_
   refine r0 rfl ?_
   refine rs (v := .bool true) (pkt (v := .bool true) rfl rfl) rfl ?_
   refine rn ?_
   refine qn ?_
   refine Wct rfl ?_
   refine Wseq ?_
   refine Wreg ?_
   refine rs (v := .int .i64 0) (av (v := .int .i64 0) rfl) rfl ?_
   refine rs (v := .int .i64 0) (av (v := .int .i64 0) rfl) rfl ?_
   refine rs (v := .bool false) (av (v := .bool false) rfl) rfl ?_
   refine rn ?_
   refine qn ?_
   refine Wret ?_
   refine qr ?_
   replace hc := hc.pull 1 rfl rfl
   replace hc := hc.pull 1 rfl rfl
   replace hc : Ctx w (S_ledger_Ledger.hp b0 x0 :: Fr) := Ctx.exB _ _ (Ctx.sepB hc)
   injection hp with hp; subst hp
   refine f3 (v := .int .i64 0) (u := .int .i64 0) (z := .bool false) Try.results9 Try.ntmps9 rfl rfl rfl ?_
   exact ⟨_, rfl, k _ hc⟩
 · rename_i y3
   replace hp := optS hp hb2
   replace hc := hc.pull 1 rfl rfl
   replace hc := Ctx.mpVF hc; obtain ⟨lh4, hK5, hc⟩ := hc
   replace hc := Ctx.bigGetS hc.swap hb2; obtain ⟨c7, hg6, hc⟩ := hc
   replace hc := Ctx.exF hc; obtain ⟨b9, hc⟩ := hc
   replace hc := Ctx.sepF hc
   replace hc := Ctx.puF hc; obtain ⟨u8, hc⟩ := hc; subst u8
   replace hc : Ctx w (S_ledger_entry.hp b9 y3 :: Big (VK (vPt S_ledger_entry.hp)) (mdel lh4 x1) (mdel x0.m x1) :: Mp (ekI .i64) (HV vf1 (pAny 1)) v1 lh4 :: B b0 [.map (some v1)] 83 :: Fr) := hc
   refine rs (v := .pointer (some ⟨b9, 0, none⟩)) (Ctx.mpGetH (k := x1) false (keyL_int Try.underlying3) hc (i := 2) rfl rfl Try.underlying81 rfl rfl hg6) rfl ?_
   refine rs (v := .pointer (some ⟨b9, 0, none⟩)) (av (v := .pointer (some ⟨b9, 0, none⟩)) rfl) rfl ?_
   refine rn ?_
   refine qn ?_
   refine Wseq ?_
   refine Wseq ?_
   refine Wreg ?_
   refine rs (v := .pointer (some ⟨b9, 0, none⟩)) (mv (v := .pointer (some ⟨b9, 0, none⟩)) rfl) rfl ?_
   refine rs (v := .bool false) (epf Try.underlying84 rfl rfl) rfl ?_
   refine rs (v := .bool false) (mv (v := .bool false) rfl) rfl ?_
   refine rs (v := .pointer (some ⟨b9, 0, none⟩)) (mv (v := .pointer (some ⟨b9, 0, none⟩)) rfl) rfl ?_
   replace hp := bind_some hp; obtain ⟨r10, hr10, hp⟩ := hp
   refine rc (cl Try.call29 rfl rfl) rfl ?_
   refine ledger_entry_done_any hc hr10 ?_
   clear hc; intro w11 hc
   refine rs (v := .bool r10) (pkf (v := .bool r10) rfl rfl) rfl ?_
   refine rn ?_
   refine qn ?_
   cases hb12 : r10
   · replace hp := gneg hp (by rw [hb12]; exact Bool.false_ne_true)
     subst hb12
     refine Wcf rfl ?_
     refine Wskip ?_
     refine qn ?_
     refine Wseq ?_
     replace hc := Ctx.exF hc; obtain ⟨v13, hc⟩ := hc
     replace hc := Ctx.exF hc; obtain ⟨v14, hc⟩ := hc
     replace hc := Ctx.sepF hc
     replace hc := Ctx.sepF hc
     obtain ⟨a15, q16, u17⟩ := hc.rd (k := 1) rfl rfl reads_ro; subst u17
     obtain ⟨a18, q19, u20⟩ := hc.rd (k := 2) rfl rfl reads_own; subst u20
     replace hc := hc.drew
     have hF : ∀ j, free [0, 1, 3, 7, 0, 0, 32, 96, 224, 496, 1023, 2047, 4095] 0 j = true → (fun j w' => (j = 3 → w'.cell? ⟨b9, 4, none⟩ = some (.int .i64 y3.fed)) ∧ True) j (World.drew w11) := fun j hj => ⟨fun _ => hc.cell (k := 0) rfl rfl rfl, trivial⟩
     refine Wdrw (fun j w' => (j = 3 → w'.cell? ⟨b9, 4, none⟩ = some (.int .i64 y3.fed)) ∧ True) [0, 1, 3, 7, 0, 0, 32, 96, 224, 496, 1023, 2047, 4095] 0 256 rfl (by kernel_rfl) (hF) ?_
     generalize hw : World.drew w11 = w21 at *
     clear hw
     refine ds (v := .pointer (some ⟨b9, 0, none⟩)) rfl (fun w' hF => mv (v := .pointer (some ⟨b9, 0, none⟩)) rfl) rfl ?_
     refine ds (v := .pointer (some ⟨b9, 0, none⟩)) rfl (fun w' hF => nl rfl) rfl ?_
     refine ds (v := .pointer (some ⟨b9, 4, none⟩)) rfl (fun w' hF => fax 4 rfl Try.underlying87 rfl Try.sizeOf3 rfl rfl rfl) rfl ?_
     refine ds (v := .int .i64 y3.fed) rfl (fun w' hF => ld rfl Try.isAgg3 ((hF.1 rfl))) rfl ?_
     refine ds (v := .pointer (some ⟨b9, 0, none⟩)) rfl (fun w' hF => mv (v := .pointer (some ⟨b9, 0, none⟩)) rfl) rfl ?_
     refine ds (v := .pointer (some ⟨b9, 0, none⟩)) rfl (fun w' hF => mv (v := .pointer (some ⟨b9, 0, none⟩)) rfl) rfl ?_
     refine ds (v := .pointer (some ⟨b9, 0, none⟩)) rfl (fun w' hF => nl rfl) rfl ?_
     refine ds (v := .pointer (some ⟨b9, 4, none⟩)) rfl (fun w' hF => fax 4 rfl Try.underlying87 rfl Try.sizeOf3 rfl rfl rfl) rfl ?_
     refine dx (v := .int .i64 y3.fed) rfl (ld rfl Try.isAgg3 (Ctx.cell hc (k := 0) rfl rfl rfl)) rfl rfl ?_
     replace hc := hc.pull 2 rfl rfl
     replace hc := hc.pull 2 rfl rfl
     replace hc := hc.pull 2 rfl rfl
     replace hc : Ctx w21 (S_ledger_entry.hp b9 y3 :: Big (VK (vPt S_ledger_entry.hp)) (mdel lh4 x1) (mdel x0.m x1) :: Mp (ekI .i64) (HV vf1 (pAny 1)) v1 lh4 :: B b0 [.map (some v1)] 83 :: Fr) := Ctx.exB _ _ (Ctx.exB _ _ (Ctx.sepB (Ctx.sepB hc)))
     replace hp := bind_some hp; obtain ⟨r22, hr22, hp⟩ := hp
     refine dc (cl Try.call30 rfl rfl) rfl rfl ?_
     refine ledger_entry_token_any hc hr22 ?_
     clear hc; intro w23 hc
     replace hc := Ctx.exF hc; obtain ⟨v24, hc⟩ := hc
     replace hc := Ctx.exF hc; obtain ⟨v25, hc⟩ := hc
     replace hc := Ctx.sepF hc
     replace hc := Ctx.sepF hc
     obtain ⟨a26, q27, u28⟩ := hc.rd (k := 1) rfl rfl reads_ro; subst u28
     obtain ⟨a29, q30, u31⟩ := hc.rd (k := 2) rfl rfl reads_own; subst u31
     refine ⟨fun j hj hb => ⟨fun _ => hc.cell (k := 0) rfl rfl rfl, trivial⟩, ?_⟩
     refine ds (v := .int .i64 y3.fed) rfl (fun w' hF => av (v := .int .i64 y3.fed) rfl) rfl ?_
     refine ds (v := .int .i64 r22) rfl (fun w' hF => av (v := .int .i64 r22) rfl) rfl ?_
     refine ds (v := .bool true) rfl (fun w' hF => av (v := .bool true) rfl) rfl ?_
     refine dn ?_
     refine qn ?_
     refine Wret ?_
     replace hc := hc.pull 2 rfl rfl
     replace hc := hc.pull 2 rfl rfl
     replace hc := hc.pull 2 rfl rfl
     replace hc : Ctx w23 (S_ledger_entry.hp b9 y3 :: Big (VK (vPt S_ledger_entry.hp)) (mdel lh4 x1) (mdel x0.m x1) :: Mp (ekI .i64) (HV vf1 (pAny 1)) v1 lh4 :: B b0 [.map (some v1)] 83 :: Fr) := Ctx.exB _ _ (Ctx.exB _ _ (Ctx.sepB (Ctx.sepB hc)))
     replace hc : Ctx w23 ((vPt S_ledger_entry.hp).r [.pointer (some ⟨b9, 0, none⟩)] y3 :: Big (VK (vPt S_ledger_entry.hp)) (mdel lh4 x1) (mdel x0.m x1) :: Mp (ekI .i64) (HV vf1 (pAny 1)) v1 lh4 :: B b0 [.map (some v1)] 83 :: Fr) := Ctx.exB _ _ (Ctx.sepB (Ctx.puB rfl hc))
     replace hc := hc.pull 2 rfl rfl
     replace hc := hc.pull 2 rfl rfl
     replace hc := hc.pull 2 rfl rfl
     replace hc := Ctx.bigBack0 hc hK5 hg6 hb2
     replace hc : Ctx w23 (MpV (ekI .i64) vf1 (vPt S_ledger_entry.hp) v1 x0.m :: B b0 [.map (some v1)] 83 :: Fr) := Ctx.mpVB hc.swap
     replace hc := hc.pull 1 rfl rfl
     replace hc : Ctx w23 (S_ledger_Ledger.hp b0 x0 :: Fr) := Ctx.exB _ _ (Ctx.sepB hc)
     injection hp with hp; subst hp
     refine f3 (v := .int .i64 y3.fed) (u := .int .i64 r22) (z := .bool true) Try.results9 Try.ntmps9 rfl rfl rfl ?_
     exact ⟨_, rfl, k _ hc⟩
   · replace hp := gpos hp hb12
     subst hb12
     refine Wct rfl ?_
     refine Wseq ?_
     refine Wreg ?_
     refine rs (v := .int .i64 0) (av (v := .int .i64 0) rfl) rfl ?_
     refine rs (v := .int .i64 0) (av (v := .int .i64 0) rfl) rfl ?_
     refine rs (v := .bool false) (av (v := .bool false) rfl) rfl ?_
     refine rn ?_
     refine qn ?_
     refine Wret ?_
     refine qr ?_
     replace hc : Ctx w11 ((vPt S_ledger_entry.hp).r [.pointer (some ⟨b9, 0, none⟩)] y3 :: Big (VK (vPt S_ledger_entry.hp)) (mdel lh4 x1) (mdel x0.m x1) :: Mp (ekI .i64) (HV vf1 (pAny 1)) v1 lh4 :: B b0 [.map (some v1)] 83 :: Fr) := Ctx.exB _ _ (Ctx.sepB (Ctx.puB rfl hc))
     replace hc := hc.pull 2 rfl rfl
     replace hc := hc.pull 2 rfl rfl
     replace hc := hc.pull 2 rfl rfl
     replace hc := Ctx.bigBack0 hc hK5 hg6 hb2
     replace hc : Ctx w11 (MpV (ekI .i64) vf1 (vPt S_ledger_entry.hp) v1 x0.m :: B b0 [.map (some v1)] 83 :: Fr) := Ctx.mpVB hc.swap
     replace hc := hc.pull 1 rfl rfl
     replace hc : Ctx w11 (S_ledger_Ledger.hp b0 x0 :: Fr) := Ctx.exB _ _ (Ctx.sepB hc)
     injection hp with hp; subst hp
     refine f3 (v := .int .i64 0) (u := .int .i64 0) (z := .bool false) Try.results9 Try.ntmps9 rfl rfl rfl ?_
     exact ⟨_, rfl, k _ hc⟩

-- FN (*peloton/ledger.Ledger).Answer
theorem bd_35_ {ρ : Operand → Value} {w : World} {dst : Option Nat} {ty : TypeId} {pos : String} {after : Array Edge} {g : Option (Nat × Bool)}    :
    (execOp ρ ⟨dst, .build 35 #[], ty, pos, after, g⟩).run Try.prog w = .ok (.value (.agg #[(.int .i64 0), (.int .i64 0), (.int .i64 0)])) w := by
  simp [execOp, Instr.build, Instr.fill, Try.zeroValue35, Try.runUnderlying35, Try.sizeOf3, Value.cells]

theorem bd_35_0_1_2 {ρ : Operand → Value} {w : World} {dst : Option Nat} {ty : TypeId} {pos : String} {after : Array Edge} {g : Option (Nat × Bool)} {x0 x1 x2 : Operand} {k0 : IntKind} {a0 : Int} {k1 : IntKind} {a1 : Int} {k2 : IntKind} {a2 : Int} (h0 : ρ x0 = (.int k0 a0)) (h1 : ρ x1 = (.int k1 a1)) (h2 : ρ x2 = (.int k2 a2)) :
    (execOp ρ ⟨dst, .build 35 #[(0, x0), (1, x1), (2, x2)], ty, pos, after, g⟩).run Try.prog w = .ok (.value (.agg #[(.int k0 a0), (.int k1 a1), (.int k2 a2)])) w := by
  simp [execOp, Instr.build, Instr.fill, Try.zeroValue35, Try.runUnderlying35, Try.sizeOf3, h0, h1, h2, Value.cells]

def ledger_Ledger_Answer (x0 : S_ledger_Ledger) (x1 : Int) (x2 : Int) (x3 : Int) : Option (S_api_Say × Bool × Int × S_ledger_Ledger) :=
  optc (mget x0.m x1) (
    some ((⟨0, 0, 0⟩ : S_api_Say), false, 121, x0)) fun y6 =>
    (ledger_entry_done y6).bind fun r14 =>
    if r14 = true then
      some ((⟨0, 0, 0⟩ : S_api_Say), false, 2, x0)
    else
      if x2 ≠ y6.fed then
        some ((⟨0, 0, 0⟩ : S_api_Say), false, 2, x0)
      else
        (some (IntKind.i64.wrap (x2 - (IntKind.i64.wrap (((y6.Request.Prompt.length : Nat) : Int) - 1))))).bind fun e27 =>
        if e27 < ((y6.log.length : Nat) : Int) then
          some ((⟨0, 0, 0⟩ : S_api_Say), false, 0, (⟨(mset x0.m x1 (⟨y6.Request, y6.log, (IntKind.i64.wrap (y6.fed + 1))⟩ : S_ledger_entry))⟩ : S_ledger_Ledger))
        else
          (app y6.log ([x3])).bind fun z31 =>
          some ((⟨x1, e27, x3⟩ : S_api_Say), true, 0, (⟨(mset x0.m x1 (⟨y6.Request, z31, (IntKind.i64.wrap (y6.fed + 1))⟩ : S_ledger_entry))⟩ : S_ledger_Ledger))

set_option maxHeartbeats 8000000 in
theorem ledger_Ledger_Answer_any {b0 : Nat} {x0 : S_ledger_Ledger} {x1 : Int} {x2 : Int} {x3 : Int} {Fr : List HP} {w : World} {r : S_api_Say × Bool × Int × S_ledger_Ledger} {K : Value → World → Prop}  (hc : Ctx w (S_ledger_Ledger.hp b0 x0 :: Fr)) (hp : ledger_Ledger_Answer x0 x1 x2 x3 = some r)
    (k : ∀ w', Ctx w' (S_ledger_Ledger.hp b0 r.2.2.2 :: Fr) → K (.tuple #[.agg #[.int .i64 r.1.Request, .int .i64 r.1.Place, .int .i64 r.1.Token], .bool r.2.1, .int .i64 r.2.2.1]) w') : Calls Try.prog 10 #[.pointer (some ⟨b0, 0, none⟩), .int .i64 x1, .int .i64 x2, .int .i64 x3] w (Ret K) := by
 unfold ledger_Ledger_Answer at hp
 refine Center (args := [.pointer (some ⟨b0, 0, none⟩), .int .i64 x1, .int .i64 x2, .int .i64 x3]) (l := [(0, .pointer (some ⟨b0, 0, none⟩)), (1, .int .i64 x1), (2, .int .i64 x2), (3, .int .i64 x3)]) Try.func10 Try.ntmps10 rfl rfl rfl ?_
 refine Wseq ?_
 refine Wreg ?_
 refine rsE (Ctx.allocOp (cs := [.int .i64 0, .int .i64 0, .int .i64 0]) hc Try.zeroValue35 rfl) rfl ?_
 clear hc; rintro _ w3 ⟨b1, rfl, hc⟩
 refine rs (v := .bool false) (av (v := .bool false) rfl) rfl ?_
 refine rs (v := .int .i64 0) (av (v := .int .i64 0) rfl) rfl ?_
 refine rn ?_
 refine qn ?_
 refine Wseq ?_
 refine Wreg ?_
 refine rs (v := .pointer (some ⟨b0, 0, none⟩)) (mv (v := .pointer (some ⟨b0, 0, none⟩)) rfl) rfl ?_
 refine rs (v := .pointer (some ⟨b0, 0, none⟩)) (nl rfl) rfl ?_
 refine rs (v := .pointer (some ⟨b0, 0, none⟩)) (fax 0 rfl Try.underlying83 rfl Try.sizeOf81 rfl rfl rfl) rfl ?_
 replace hc := hc.pull 1 rfl rfl
 replace hc := Ctx.exF hc; obtain ⟨v4, hc⟩ := hc
 replace hc := Ctx.sepF hc
 refine rs (v := .map (some v4)) (ld rfl Try.isAgg81 (Ctx.cell hc (k := 0) rfl rfl rfl)) rfl ?_
 refine rs (v := .int .i64 x1) (mv (v := .int .i64 x1) rfl) rfl ?_
 cases hb5 : mget x0.m x1
 · replace hp := optN hp hb5
   refine rs (v := .pointer none) (Ctx.mpvGetN (k := x1) false (keyL_int Try.underlying3) hc (i := 1) rfl rfl Try.underlying81 rfl rfl Try.zeroValue84 hb5) rfl ?_
   refine rs (v := .pointer none) (av (v := .pointer none) rfl) rfl ?_
   refine rn ?_
   refine qn ?_
   refine Wseq ?_
   refine Wblk ?_
   refine Wseq ?_
   refine Wreg ?_
   refine rs (v := .pointer none) (mv (v := .pointer none) rfl) rfl ?_
   refine rs (v := .bool true) (ept Try.underlying84 rfl rfl) rfl ?_
   refine rs (v := .bool true) (av (v := .bool true) rfl) rfl ?_
   refine rn ?_
   refine qn ?_
   refine Wct rfl ?_
   refine Wseq ?_
   refine Wreg ?_
   refine rs (v := .agg #[.int .i64 0, .int .i64 0, .int .i64 0]) (bd_35_ ) rfl ?_
   refine ruE (A := fun w' => Ctx w' (B b0 [.map (some v4)] 83 :: MpV (ekI .i64) vf1 (vPt S_ledger_entry.hp) v4 x0.m :: B b1 [.int .i64 0, .int .i64 0, .int .i64 0] 35 :: Fr)) (Ctx.putAgg hc (k := 2) rfl rfl (vs := [.int .i64 0, .int .i64 0, .int .i64 0]) rfl rfl rfl Try.sizeOf35 rfl rfl rfl) rfl ?_
   clear hc; rintro w7 hc
   refine rs (v := .bool false) (av (v := .bool false) rfl) rfl ?_
   refine rs (v := .int .i64 121) (av (v := .int .i64 121) rfl) rfl ?_
   refine rn ?_
   refine qn ?_
   refine Wret ?_
   refine br ?_
   refine qr ?_
   have hres := Ctx.cells hc (k := 2) rfl rfl 0 (vs := [.int .i64 0, .int .i64 0, .int .i64 0]) rfl
   replace hc := hc.pull 1 rfl rfl
   replace hc := hc.pull 1 rfl rfl
   replace hc : Ctx w7 (S_ledger_Ledger.hp b0 x0 :: B b1 [.int .i64 0, .int .i64 0, .int .i64 0] 35 :: Fr) := Ctx.exB _ _ (Ctx.sepB hc)
   replace hc := hc.rem 1 rfl rfl
   injection hp with hp; subst hp
   refine f3c (cs := [.int .i64 0, .int .i64 0, .int .i64 0]) (u := .bool false) (z := .int .i64 121) Try.results10 Try.ntmps10 rfl Try.isAgg35 Try.sizeOf35 rfl hres rfl rfl ?_
   exact ⟨_, rfl, k _ hc⟩
 · rename_i y6
   replace hp := optS hp hb5
   replace hc := hc.pull 1 rfl rfl
   replace hc := Ctx.mpVF hc; obtain ⟨lh8, hK9, hc⟩ := hc
   replace hc := Ctx.bigGetS hc.swap hb5; obtain ⟨c11, hg10, hc⟩ := hc
   replace hc := Ctx.exF hc; obtain ⟨b13, hc⟩ := hc
   replace hc := Ctx.sepF hc
   replace hc := Ctx.puF hc; obtain ⟨u12, hc⟩ := hc; subst u12
   replace hc : Ctx w3 (S_ledger_entry.hp b13 y6 :: Big (VK (vPt S_ledger_entry.hp)) (mdel lh8 x1) (mdel x0.m x1) :: Mp (ekI .i64) (HV vf1 (pAny 1)) v4 lh8 :: B b0 [.map (some v4)] 83 :: B b1 [.int .i64 0, .int .i64 0, .int .i64 0] 35 :: Fr) := hc
   refine rs (v := .pointer (some ⟨b13, 0, none⟩)) (Ctx.mpGetH (k := x1) false (keyL_int Try.underlying3) hc (i := 2) rfl rfl Try.underlying81 rfl rfl hg10) rfl ?_
   refine rs (v := .pointer (some ⟨b13, 0, none⟩)) (av (v := .pointer (some ⟨b13, 0, none⟩)) rfl) rfl ?_
   refine rn ?_
   refine qn ?_
   refine Wseq ?_
   refine Wblk ?_
   refine Wseq ?_
   refine Wreg ?_
   refine rs (v := .pointer (some ⟨b13, 0, none⟩)) (mv (v := .pointer (some ⟨b13, 0, none⟩)) rfl) rfl ?_
   refine rs (v := .bool false) (epf Try.underlying84 rfl rfl) rfl ?_
   refine rs (v := .bool false) (av (v := .bool false) rfl) rfl ?_
   refine rn ?_
   refine qn ?_
   refine Wcf rfl ?_
   refine Wseq ?_
   refine Wreg ?_
   refine rs (v := .pointer (some ⟨b13, 0, none⟩)) (mv (v := .pointer (some ⟨b13, 0, none⟩)) rfl) rfl ?_
   replace hp := bind_some hp; obtain ⟨r14, hr14, hp⟩ := hp
   refine rc (cl Try.call29 rfl rfl) rfl ?_
   refine ledger_entry_done_any hc hr14 ?_
   clear hc; intro w15 hc
   refine rs (v := .bool r14) (mv (v := .bool r14) rfl) rfl ?_
   cases hb16 : r14
   · replace hp := gneg hp (by rw [hb16]; exact Bool.false_ne_true)
     subst hb16
     refine rs (v := .int .i64 x2) (mv (v := .int .i64 x2) rfl) rfl ?_
     refine rs (v := .pointer (some ⟨b13, 0, none⟩)) (mv (v := .pointer (some ⟨b13, 0, none⟩)) rfl) rfl ?_
     refine rs (v := .pointer (some ⟨b13, 0, none⟩)) (nl rfl) rfl ?_
     refine rs (v := .pointer (some ⟨b13, 4, none⟩)) (fax 4 rfl Try.underlying87 rfl Try.sizeOf3 rfl rfl rfl) rfl ?_
     replace hc := Ctx.exF hc; obtain ⟨v17, hc⟩ := hc
     replace hc := Ctx.exF hc; obtain ⟨v18, hc⟩ := hc
     replace hc := Ctx.sepF hc
     replace hc := Ctx.sepF hc
     obtain ⟨a19, q20, u21⟩ := hc.rd (k := 1) rfl rfl reads_ro; subst u21
     obtain ⟨a22, q23, u24⟩ := hc.rd (k := 2) rfl rfl reads_own; subst u24
     refine rs (v := .int .i64 y6.fed) (ld rfl Try.isAgg3 (Ctx.cell hc (k := 0) rfl rfl rfl)) rfl ?_
     refine rs (v := .bool (decide (x2 ≠ y6.fed))) (ned rfl rfl) rfl ?_
     refine rs (v := .bool (decide (x2 ≠ y6.fed))) (pkf (v := .bool (decide (x2 ≠ y6.fed))) rfl rfl) rfl ?_
     refine rs (v := .bool (decide (x2 ≠ y6.fed))) (av (v := .bool (decide (x2 ≠ y6.fed))) rfl) rfl ?_
     refine rn ?_
     refine qn ?_
     cases hb25 : (decide (x2 ≠ y6.fed))
     · replace hp := gneg hp (of_decide_eq_false hb25)
       refine Wcf rfl ?_
       refine Wskip ?_
       refine bn ?_
       refine qn ?_
       refine Wseq ?_
       refine Wreg ?_
       refine rs (v := .pointer (some ⟨b13, 0, none⟩)) (mv (v := .pointer (some ⟨b13, 0, none⟩)) rfl) rfl ?_
       refine rs (v := .pointer (some ⟨b13, 0, none⟩)) (nl rfl) rfl ?_
       refine rs (v := .pointer (some ⟨b13, 4, none⟩)) (fax 4 rfl Try.underlying87 rfl Try.sizeOf3 rfl rfl rfl) rfl ?_
       refine rs (v := .int .i64 y6.fed) (ld rfl Try.isAgg3 (Ctx.cell hc (k := 0) rfl rfl rfl)) rfl ?_
       refine rs (v := .int .i64 (IntKind.i64.wrap (y6.fed + 1))) (adw rfl rfl) rfl ?_
       refine rs (v := .pointer (some ⟨b13, 0, none⟩)) (nl rfl) rfl ?_
       refine rs (v := .pointer (some ⟨b13, 4, none⟩)) (fax 4 rfl Try.underlying87 rfl Try.sizeOf3 rfl rfl rfl) rfl ?_
       refine ruE (A := fun w' => Ctx w' (B b13 [.int .i64 y6.Request.ID, .int .i64 y6.Request.Most, .slice a19 y6.Request.Prompt.length q20, .slice a22 y6.log.length q23, .int .i64 (IntKind.i64.wrap (y6.fed + 1))] 87 :: Hold (pRo (pInt .i64)) [.slice a19 y6.Request.Prompt.length q20] y6.Request.Prompt :: Own (pInt .i64) 3 (.slice a22 y6.log.length q23) y6.log :: Big (VK (vPt S_ledger_entry.hp)) (mdel lh8 x1) (mdel x0.m x1) :: Mp (ekI .i64) (HV vf1 (pAny 1)) v4 lh8 :: B b0 [.map (some v4)] 83 :: B b1 [.int .i64 0, .int .i64 0, .int .i64 0] 35 :: Fr)) (Ctx.putOp hc (k := 0) rfl rfl (v := .int .i64 (IntKind.i64.wrap (y6.fed + 1))) rfl rfl rfl Try.sizeOf3 rfl rfl rfl) rfl ?_
       clear hc; rintro w26 hc
       refine rn ?_
       refine qn ?_
       refine Wseq ?_
       refine Wreg ?_
       refine rs (v := .int .i64 x2) (mv (v := .int .i64 x2) rfl) rfl ?_
       refine rs (v := .pointer (some ⟨b13, 0, none⟩)) (mv (v := .pointer (some ⟨b13, 0, none⟩)) rfl) rfl ?_
       refine rs (v := .pointer (some ⟨b13, 0, none⟩)) (nl rfl) rfl ?_
       refine rs (v := .pointer (some ⟨b13, 0, none⟩)) (fax 0 rfl Try.underlying87 rfl Try.sizeOf29 rfl rfl rfl) rfl ?_
       refine rs (v := .pointer (some ⟨b13, 2, none⟩)) (fax 2 rfl Try.underlying29 rfl Try.sizeOf23 rfl rfl rfl) rfl ?_
       refine rs (v := .slice a19 y6.Request.Prompt.length q20) (ld rfl Try.isAgg23 (Ctx.cell hc (k := 0) rfl rfl rfl)) rfl ?_
       refine rs (v := .int .i64 ((y6.Request.Prompt.length : Nat) : Int)) (ln rfl Try.underlying23) rfl ?_
       refine rs (v := .int .i64 (IntKind.i64.wrap (((y6.Request.Prompt.length : Nat) : Int) - 1))) (sbw rfl rfl) rfl ?_
       refine rs (v := .int .i64 (IntKind.i64.wrap (x2 - (IntKind.i64.wrap (((y6.Request.Prompt.length : Nat) : Int) - 1))))) (sbw rfl rfl) rfl ?_
       replace hp := bind_some hp; obtain ⟨e27, he27, hp⟩ := hp
       injection he27 with he27
       refine rs (v := .int .i64 e27) (av (v := .int .i64 e27) (by rw [← he27]; rfl)) rfl ?_
       refine rn ?_
       refine qn ?_
       refine Wseq ?_
       refine Wseq ?_
       refine Wreg ?_
       refine rs (v := .int .i64 e27) (mv (v := .int .i64 e27) rfl) rfl ?_
       refine rs (v := .pointer (some ⟨b13, 0, none⟩)) (mv (v := .pointer (some ⟨b13, 0, none⟩)) rfl) rfl ?_
       refine rs (v := .pointer (some ⟨b13, 0, none⟩)) (nl rfl) rfl ?_
       refine rs (v := .pointer (some ⟨b13, 3, none⟩)) (fax 3 rfl Try.underlying87 rfl Try.sizeOf23 rfl rfl rfl) rfl ?_
       refine rs (v := .slice a22 y6.log.length q23) (ld rfl Try.isAgg23 (Ctx.cell hc (k := 0) rfl rfl rfl)) rfl ?_
       refine rs (v := .int .i64 ((y6.log.length : Nat) : Int)) (ln rfl Try.underlying23) rfl ?_
       refine rs (v := .bool (decide (e27 < ((y6.log.length : Nat) : Int)))) (lt' rfl rfl) rfl ?_
       refine rn ?_
       refine qn ?_
       cases hb28 : (decide (e27 < ((y6.log.length : Nat) : Int)))
       · replace hp := gneg hp (of_decide_eq_false hb28)
         refine Wcf rfl ?_
         refine Wskip ?_
         refine qn ?_
         refine Wseq ?_
         refine Wreg ?_
         refine rs (v := .pointer (some ⟨b13, 0, none⟩)) (mv (v := .pointer (some ⟨b13, 0, none⟩)) rfl) rfl ?_
         refine rs (v := .pointer (some ⟨b13, 0, none⟩)) (mv (v := .pointer (some ⟨b13, 0, none⟩)) rfl) rfl ?_
         refine rs (v := .pointer (some ⟨b13, 0, none⟩)) (nl rfl) rfl ?_
         refine rs (v := .pointer (some ⟨b13, 3, none⟩)) (fax 3 rfl Try.underlying87 rfl Try.sizeOf23 rfl rfl rfl) rfl ?_
         refine rs (v := .slice a22 y6.log.length q23) (ld rfl Try.isAgg23 (Ctx.cell hc (k := 0) rfl rfl rfl)) rfl ?_
         refine rs (v := .int .i64 x3) (mv (v := .int .i64 x3) rfl) rfl ?_
         replace hc : Ctx w26 (Hold (pInt .i64) [.int .i64 x3] x3 :: B b13 [.int .i64 y6.Request.ID, .int .i64 y6.Request.Most, .slice a19 y6.Request.Prompt.length q20, .slice a22 y6.log.length q23, .int .i64 (IntKind.i64.wrap (y6.fed + 1))] 87 :: Hold (pRo (pInt .i64)) [.slice a19 y6.Request.Prompt.length q20] y6.Request.Prompt :: Own (pInt .i64) 3 (.slice a22 y6.log.length q23) y6.log :: Big (VK (vPt S_ledger_entry.hp)) (mdel lh8 x1) (mdel x0.m x1) :: Mp (ekI .i64) (HV vf1 (pAny 1)) v4 lh8 :: B b0 [.map (some v4)] 83 :: B b1 [.int .i64 0, .int .i64 0, .int .i64 0] 35 :: Fr) := hc.add _ fun _ _ _ => ⟨rfl, rfl⟩
         refine rsE (Ctx.builtOp (css := [[.int .i64 x3]]) (xs := ([x3] : List Int)) (E := (pInt .i64)) hc Try.underlying23 Try.sizeOf3 Try.zeroValue3 rfl rfl rfl rfl rfl rfl rfl rfl) rfl ?_
         clear hc; rintro _ w30 ⟨a29, rfl, hc⟩
         replace hp := bind_some hp; obtain ⟨z31, hz31, hp⟩ := hp
         obtain ⟨hg32, e33⟩ := app_some hz31
         refine rsE (Ctx.append hc (k := 3) rfl rfl (k2 := 0) rfl rfl reads_own Try.underlying23 (i := Try.t3) rfl rfl rfl rfl rfl rfl rfl rfl hg32) rfl ?_
         clear hc; rintro _ w36 ⟨a34, q35, rfl, hc⟩
         rw [← e33] at hc ⊢
         refine rs (v := .pointer (some ⟨b13, 0, none⟩)) (nl rfl) rfl ?_
         refine rs (v := .pointer (some ⟨b13, 3, none⟩)) (fax 3 rfl Try.underlying87 rfl Try.sizeOf23 rfl rfl rfl) rfl ?_
         refine ruE (A := fun w' => Ctx w' (Own (pInt .i64) 3 (.slice a29 1 1) ([x3]) :: B b13 [.int .i64 y6.Request.ID, .int .i64 y6.Request.Most, .slice a19 y6.Request.Prompt.length q20, .slice a34 z31.length q35, .int .i64 (IntKind.i64.wrap (y6.fed + 1))] 87 :: Hold (pRo (pInt .i64)) [.slice a19 y6.Request.Prompt.length q20] y6.Request.Prompt :: Own (pInt .i64) 3 (.slice a34 z31.length q35) z31 :: Big (VK (vPt S_ledger_entry.hp)) (mdel lh8 x1) (mdel x0.m x1) :: Mp (ekI .i64) (HV vf1 (pAny 1)) v4 lh8 :: B b0 [.map (some v4)] 83 :: B b1 [.int .i64 0, .int .i64 0, .int .i64 0] 35 :: Fr)) (Ctx.putOp hc (k := 1) rfl rfl (v := .slice a34 z31.length q35) rfl rfl rfl Try.sizeOf23 rfl rfl rfl) rfl ?_
         clear hc; rintro w37 hc
         refine rn ?_
         refine qn ?_
         refine Wseq ?_
         refine Wreg ?_
         refine rs (v := .int .i64 x1) (mv (v := .int .i64 x1) rfl) rfl ?_
         refine rs (v := .int .i64 e27) (mv (v := .int .i64 e27) rfl) rfl ?_
         refine rs (v := .int .i64 x3) (mv (v := .int .i64 x3) rfl) rfl ?_
         refine rs (v := .agg #[.int .i64 x1, .int .i64 e27, .int .i64 x3]) (bd_35_0_1_2 rfl rfl rfl) rfl ?_
         refine ruE (A := fun w' => Ctx w' (Own (pInt .i64) 3 (.slice a29 1 1) ([x3]) :: B b13 [.int .i64 y6.Request.ID, .int .i64 y6.Request.Most, .slice a19 y6.Request.Prompt.length q20, .slice a34 z31.length q35, .int .i64 (IntKind.i64.wrap (y6.fed + 1))] 87 :: Hold (pRo (pInt .i64)) [.slice a19 y6.Request.Prompt.length q20] y6.Request.Prompt :: Own (pInt .i64) 3 (.slice a34 z31.length q35) z31 :: Big (VK (vPt S_ledger_entry.hp)) (mdel lh8 x1) (mdel x0.m x1) :: Mp (ekI .i64) (HV vf1 (pAny 1)) v4 lh8 :: B b0 [.map (some v4)] 83 :: B b1 [.int .i64 x1, .int .i64 e27, .int .i64 x3] 35 :: Fr)) (Ctx.putAgg hc (k := 7) rfl rfl (vs := [.int .i64 x1, .int .i64 e27, .int .i64 x3]) rfl rfl rfl Try.sizeOf35 rfl rfl rfl) rfl ?_
         clear hc; rintro w38 hc
         refine rs (v := .bool true) (av (v := .bool true) rfl) rfl ?_
         refine rs (v := .int .i64 0) (av (v := .int .i64 0) rfl) rfl ?_
         refine rn ?_
         refine qn ?_
         refine Wret ?_
         have hres := Ctx.cells hc (k := 7) rfl rfl 0 (vs := [.int .i64 x1, .int .i64 e27, .int .i64 x3]) rfl
         replace hc := hc.pull 3 rfl rfl
         replace hc := hc.pull 3 rfl rfl
         replace hc := hc.pull 3 rfl rfl
         replace hc : Ctx w38 (S_ledger_entry.hp b13 (⟨y6.Request, z31, (IntKind.i64.wrap (y6.fed + 1))⟩ : S_ledger_entry) :: Own (pInt .i64) 3 (.slice a29 1 1) ([x3]) :: Big (VK (vPt S_ledger_entry.hp)) (mdel lh8 x1) (mdel x0.m x1) :: Mp (ekI .i64) (HV vf1 (pAny 1)) v4 lh8 :: B b0 [.map (some v4)] 83 :: B b1 [.int .i64 x1, .int .i64 e27, .int .i64 x3] 35 :: Fr) := Ctx.exB _ _ (Ctx.exB _ _ (Ctx.sepB (Ctx.sepB hc)))
         replace hc : Ctx w38 ((vPt S_ledger_entry.hp).r [.pointer (some ⟨b13, 0, none⟩)] (⟨y6.Request, z31, (IntKind.i64.wrap (y6.fed + 1))⟩ : S_ledger_entry) :: Own (pInt .i64) 3 (.slice a29 1 1) ([x3]) :: Big (VK (vPt S_ledger_entry.hp)) (mdel lh8 x1) (mdel x0.m x1) :: Mp (ekI .i64) (HV vf1 (pAny 1)) v4 lh8 :: B b0 [.map (some v4)] 83 :: B b1 [.int .i64 x1, .int .i64 e27, .int .i64 x3] 35 :: Fr) := Ctx.exB _ _ (Ctx.sepB (Ctx.puB rfl hc))
         replace hc := hc.pull 3 rfl rfl
         replace hc := hc.pull 3 rfl rfl
         replace hc := hc.pull 2 rfl rfl
         replace hc := Ctx.bigBack1 hc hK9 hg10 hb5
         replace hc : Ctx w38 (MpV (ekI .i64) vf1 (vPt S_ledger_entry.hp) v4 (mset x0.m x1 (⟨y6.Request, z31, (IntKind.i64.wrap (y6.fed + 1))⟩ : S_ledger_entry)) :: Own (pInt .i64) 3 (.slice a29 1 1) ([x3]) :: B b0 [.map (some v4)] 83 :: B b1 [.int .i64 x1, .int .i64 e27, .int .i64 x3] 35 :: Fr) := Ctx.mpVB hc.swap
         replace hc := hc.pull 2 rfl rfl
         replace hc : Ctx w38 (S_ledger_Ledger.hp b0 (⟨(mset x0.m x1 (⟨y6.Request, z31, (IntKind.i64.wrap (y6.fed + 1))⟩ : S_ledger_entry))⟩ : S_ledger_Ledger) :: Own (pInt .i64) 3 (.slice a29 1 1) ([x3]) :: B b1 [.int .i64 x1, .int .i64 e27, .int .i64 x3] 35 :: Fr) := Ctx.exB _ _ (Ctx.sepB hc)
         replace hc := hc.rem 2 rfl rfl
         replace hc := hc.rem 1 rfl rfl
         injection hp with hp; subst hp
         refine f3c (cs := [.int .i64 x1, .int .i64 e27, .int .i64 x3]) (u := .bool true) (z := .int .i64 0) Try.results10 Try.ntmps10 rfl Try.isAgg35 Try.sizeOf35 rfl hres rfl rfl ?_
         exact ⟨_, rfl, k _ hc⟩
       · replace hp := gpos hp (of_decide_eq_true hb28)
         refine Wct rfl ?_
         refine Wseq ?_
         refine Wreg ?_
         refine rs (v := .agg #[.int .i64 0, .int .i64 0, .int .i64 0]) (bd_35_ ) rfl ?_
         refine ruE (A := fun w' => Ctx w' (B b13 [.int .i64 y6.Request.ID, .int .i64 y6.Request.Most, .slice a19 y6.Request.Prompt.length q20, .slice a22 y6.log.length q23, .int .i64 (IntKind.i64.wrap (y6.fed + 1))] 87 :: Hold (pRo (pInt .i64)) [.slice a19 y6.Request.Prompt.length q20] y6.Request.Prompt :: Own (pInt .i64) 3 (.slice a22 y6.log.length q23) y6.log :: Big (VK (vPt S_ledger_entry.hp)) (mdel lh8 x1) (mdel x0.m x1) :: Mp (ekI .i64) (HV vf1 (pAny 1)) v4 lh8 :: B b0 [.map (some v4)] 83 :: B b1 [.int .i64 0, .int .i64 0, .int .i64 0] 35 :: Fr)) (Ctx.putAgg hc (k := 6) rfl rfl (vs := [.int .i64 0, .int .i64 0, .int .i64 0]) rfl rfl rfl Try.sizeOf35 rfl rfl rfl) rfl ?_
         clear hc; rintro w39 hc
         refine rs (v := .bool false) (av (v := .bool false) rfl) rfl ?_
         refine rs (v := .int .i64 0) (av (v := .int .i64 0) rfl) rfl ?_
         refine rn ?_
         refine qn ?_
         refine Wret ?_
         refine qr ?_
         have hres := Ctx.cells hc (k := 6) rfl rfl 0 (vs := [.int .i64 0, .int .i64 0, .int .i64 0]) rfl
         replace hc := hc.pull 2 rfl rfl
         replace hc := hc.pull 2 rfl rfl
         replace hc := hc.pull 2 rfl rfl
         replace hc : Ctx w39 (S_ledger_entry.hp b13 (⟨y6.Request, y6.log, (IntKind.i64.wrap (y6.fed + 1))⟩ : S_ledger_entry) :: Big (VK (vPt S_ledger_entry.hp)) (mdel lh8 x1) (mdel x0.m x1) :: Mp (ekI .i64) (HV vf1 (pAny 1)) v4 lh8 :: B b0 [.map (some v4)] 83 :: B b1 [.int .i64 0, .int .i64 0, .int .i64 0] 35 :: Fr) := Ctx.exB _ _ (Ctx.exB _ _ (Ctx.sepB (Ctx.sepB hc)))
         replace hc : Ctx w39 ((vPt S_ledger_entry.hp).r [.pointer (some ⟨b13, 0, none⟩)] (⟨y6.Request, y6.log, (IntKind.i64.wrap (y6.fed + 1))⟩ : S_ledger_entry) :: Big (VK (vPt S_ledger_entry.hp)) (mdel lh8 x1) (mdel x0.m x1) :: Mp (ekI .i64) (HV vf1 (pAny 1)) v4 lh8 :: B b0 [.map (some v4)] 83 :: B b1 [.int .i64 0, .int .i64 0, .int .i64 0] 35 :: Fr) := Ctx.exB _ _ (Ctx.sepB (Ctx.puB rfl hc))
         replace hc := hc.pull 2 rfl rfl
         replace hc := hc.pull 2 rfl rfl
         replace hc := hc.pull 2 rfl rfl
         replace hc := Ctx.bigBack1 hc hK9 hg10 hb5
         replace hc : Ctx w39 (MpV (ekI .i64) vf1 (vPt S_ledger_entry.hp) v4 (mset x0.m x1 (⟨y6.Request, y6.log, (IntKind.i64.wrap (y6.fed + 1))⟩ : S_ledger_entry)) :: B b0 [.map (some v4)] 83 :: B b1 [.int .i64 0, .int .i64 0, .int .i64 0] 35 :: Fr) := Ctx.mpVB hc.swap
         replace hc := hc.pull 1 rfl rfl
         replace hc : Ctx w39 (S_ledger_Ledger.hp b0 (⟨(mset x0.m x1 (⟨y6.Request, y6.log, (IntKind.i64.wrap (y6.fed + 1))⟩ : S_ledger_entry))⟩ : S_ledger_Ledger) :: B b1 [.int .i64 0, .int .i64 0, .int .i64 0] 35 :: Fr) := Ctx.exB _ _ (Ctx.sepB hc)
         replace hc := hc.rem 1 rfl rfl
         injection hp with hp; subst hp
         refine f3c (cs := [.int .i64 0, .int .i64 0, .int .i64 0]) (u := .bool false) (z := .int .i64 0) Try.results10 Try.ntmps10 rfl Try.isAgg35 Try.sizeOf35 rfl hres rfl rfl ?_
         exact ⟨_, rfl, k _ hc⟩
     · replace hp := gpos hp (of_decide_eq_true hb25)
       refine Wct rfl ?_
       refine Wseq ?_
       refine Wreg ?_
       refine rs (v := .agg #[.int .i64 0, .int .i64 0, .int .i64 0]) (bd_35_ ) rfl ?_
       refine ruE (A := fun w' => Ctx w' (B b13 [.int .i64 y6.Request.ID, .int .i64 y6.Request.Most, .slice a19 y6.Request.Prompt.length q20, .slice a22 y6.log.length q23, .int .i64 y6.fed] 87 :: Hold (pRo (pInt .i64)) [.slice a19 y6.Request.Prompt.length q20] y6.Request.Prompt :: Own (pInt .i64) 3 (.slice a22 y6.log.length q23) y6.log :: Big (VK (vPt S_ledger_entry.hp)) (mdel lh8 x1) (mdel x0.m x1) :: Mp (ekI .i64) (HV vf1 (pAny 1)) v4 lh8 :: B b0 [.map (some v4)] 83 :: B b1 [.int .i64 0, .int .i64 0, .int .i64 0] 35 :: Fr)) (Ctx.putAgg hc (k := 6) rfl rfl (vs := [.int .i64 0, .int .i64 0, .int .i64 0]) rfl rfl rfl Try.sizeOf35 rfl rfl rfl) rfl ?_
       clear hc; rintro w40 hc
       refine rs (v := .bool false) (av (v := .bool false) rfl) rfl ?_
       refine rs (v := .int .i64 2) (av (v := .int .i64 2) rfl) rfl ?_
       refine rn ?_
       refine qn ?_
       refine Wret ?_
       refine br ?_
       refine qr ?_
       have hres := Ctx.cells hc (k := 6) rfl rfl 0 (vs := [.int .i64 0, .int .i64 0, .int .i64 0]) rfl
       replace hc := hc.pull 2 rfl rfl
       replace hc := hc.pull 2 rfl rfl
       replace hc := hc.pull 2 rfl rfl
       replace hc : Ctx w40 (S_ledger_entry.hp b13 y6 :: Big (VK (vPt S_ledger_entry.hp)) (mdel lh8 x1) (mdel x0.m x1) :: Mp (ekI .i64) (HV vf1 (pAny 1)) v4 lh8 :: B b0 [.map (some v4)] 83 :: B b1 [.int .i64 0, .int .i64 0, .int .i64 0] 35 :: Fr) := Ctx.exB _ _ (Ctx.exB _ _ (Ctx.sepB (Ctx.sepB hc)))
       replace hc : Ctx w40 ((vPt S_ledger_entry.hp).r [.pointer (some ⟨b13, 0, none⟩)] y6 :: Big (VK (vPt S_ledger_entry.hp)) (mdel lh8 x1) (mdel x0.m x1) :: Mp (ekI .i64) (HV vf1 (pAny 1)) v4 lh8 :: B b0 [.map (some v4)] 83 :: B b1 [.int .i64 0, .int .i64 0, .int .i64 0] 35 :: Fr) := Ctx.exB _ _ (Ctx.sepB (Ctx.puB rfl hc))
       replace hc := hc.pull 2 rfl rfl
       replace hc := hc.pull 2 rfl rfl
       replace hc := hc.pull 2 rfl rfl
       replace hc := Ctx.bigBack0 hc hK9 hg10 hb5
       replace hc : Ctx w40 (MpV (ekI .i64) vf1 (vPt S_ledger_entry.hp) v4 x0.m :: B b0 [.map (some v4)] 83 :: B b1 [.int .i64 0, .int .i64 0, .int .i64 0] 35 :: Fr) := Ctx.mpVB hc.swap
       replace hc := hc.pull 1 rfl rfl
       replace hc : Ctx w40 (S_ledger_Ledger.hp b0 x0 :: B b1 [.int .i64 0, .int .i64 0, .int .i64 0] 35 :: Fr) := Ctx.exB _ _ (Ctx.sepB hc)
       replace hc := hc.rem 1 rfl rfl
       injection hp with hp; subst hp
       refine f3c (cs := [.int .i64 0, .int .i64 0, .int .i64 0]) (u := .bool false) (z := .int .i64 2) Try.results10 Try.ntmps10 rfl Try.isAgg35 Try.sizeOf35 rfl hres rfl rfl ?_
       exact ⟨_, rfl, k _ hc⟩
   · replace hp := gpos hp hb16
     subst hb16
     refine r0 rfl ?_
     refine r0 rfl ?_
     refine r0 rfl ?_
     refine r0 rfl ?_
     refine r0 rfl ?_
     refine r0 rfl ?_
     refine rs (v := .bool true) (pkt (v := .bool true) rfl rfl) rfl ?_
     refine rs (v := .bool true) (av (v := .bool true) rfl) rfl ?_
     refine rn ?_
     refine qn ?_
     refine Wct rfl ?_
     refine Wseq ?_
     refine Wreg ?_
     refine rs (v := .agg #[.int .i64 0, .int .i64 0, .int .i64 0]) (bd_35_ ) rfl ?_
     refine ruE (A := fun w' => Ctx w' (S_ledger_entry.hp b13 y6 :: Big (VK (vPt S_ledger_entry.hp)) (mdel lh8 x1) (mdel x0.m x1) :: Mp (ekI .i64) (HV vf1 (pAny 1)) v4 lh8 :: B b0 [.map (some v4)] 83 :: B b1 [.int .i64 0, .int .i64 0, .int .i64 0] 35 :: Fr)) (Ctx.putAgg hc (k := 4) rfl rfl (vs := [.int .i64 0, .int .i64 0, .int .i64 0]) rfl rfl rfl Try.sizeOf35 rfl rfl rfl) rfl ?_
     clear hc; rintro w41 hc
     refine rs (v := .bool false) (av (v := .bool false) rfl) rfl ?_
     refine rs (v := .int .i64 2) (av (v := .int .i64 2) rfl) rfl ?_
     refine rn ?_
     refine qn ?_
     refine Wret ?_
     refine br ?_
     refine qr ?_
     have hres := Ctx.cells hc (k := 4) rfl rfl 0 (vs := [.int .i64 0, .int .i64 0, .int .i64 0]) rfl
     replace hc : Ctx w41 ((vPt S_ledger_entry.hp).r [.pointer (some ⟨b13, 0, none⟩)] y6 :: Big (VK (vPt S_ledger_entry.hp)) (mdel lh8 x1) (mdel x0.m x1) :: Mp (ekI .i64) (HV vf1 (pAny 1)) v4 lh8 :: B b0 [.map (some v4)] 83 :: B b1 [.int .i64 0, .int .i64 0, .int .i64 0] 35 :: Fr) := Ctx.exB _ _ (Ctx.sepB (Ctx.puB rfl hc))
     replace hc := hc.pull 2 rfl rfl
     replace hc := hc.pull 2 rfl rfl
     replace hc := hc.pull 2 rfl rfl
     replace hc := Ctx.bigBack0 hc hK9 hg10 hb5
     replace hc : Ctx w41 (MpV (ekI .i64) vf1 (vPt S_ledger_entry.hp) v4 x0.m :: B b0 [.map (some v4)] 83 :: B b1 [.int .i64 0, .int .i64 0, .int .i64 0] 35 :: Fr) := Ctx.mpVB hc.swap
     replace hc := hc.pull 1 rfl rfl
     replace hc : Ctx w41 (S_ledger_Ledger.hp b0 x0 :: B b1 [.int .i64 0, .int .i64 0, .int .i64 0] 35 :: Fr) := Ctx.exB _ _ (Ctx.sepB hc)
     replace hc := hc.rem 1 rfl rfl
     injection hp with hp; subst hp
     refine f3c (cs := [.int .i64 0, .int .i64 0, .int .i64 0]) (u := .bool false) (z := .int .i64 2) Try.results10 Try.ntmps10 rfl Try.isAgg35 Try.sizeOf35 rfl hres rfl rfl ?_
     exact ⟨_, rfl, k _ hc⟩

-- FN (*peloton/ledger.Ledger).Rewind
def ledger_Ledger_Rewind.J2 (j7 : (List (Int × S_ledger_entry))) (j8 : (List Int)) (kk11 : Int) (y19 : S_ledger_entry) (k1 : (List (Int × S_ledger_entry)) → (List Int) → Option (S_ledger_Ledger)) (j22 : Bool) : Option (S_ledger_Ledger) :=
  if j22 = true then
    k1 (mset j7 kk11 (⟨y19.Request, y19.log, 0⟩ : S_ledger_entry)) (kk11 :: j8)
  else
    k1 j7 (kk11 :: j8)

def ledger_Ledger_Rewind.L1 (N : Nat) (x1 : (List Int)) : Nat → (List (Int × S_ledger_entry)) → (List Int) → Option (S_ledger_Ledger)
  | 0, _, _ => none
  | m1 + 1, j7, j8 =>
    anyK (remK j7 j8) (
      some (⟨j7⟩ : S_ledger_Ledger)) fun kk11 =>
      (mget j7 kk11).bind fun y19 =>
      if ((x1.length : Nat) : Int) = 0 then
        ledger_Ledger_Rewind.J2 j7 j8 kk11 y19 (ledger_Ledger_Rewind.L1 N x1 m1) true
      else
        (slices_Contains_s_int_int N x1 kk11).bind fun r24 =>
        ledger_Ledger_Rewind.J2 j7 j8 kk11 y19 (ledger_Ledger_Rewind.L1 N x1 m1) r24

def ledger_Ledger_Rewind (N : Nat) (x0 : S_ledger_Ledger) (x1 : (List Int)) : Option (S_ledger_Ledger) :=
  chk ((x0.m.map Prod.fst).Nodup) <|
  ledger_Ledger_Rewind.L1 N x1 N x0.m ([])

set_option maxHeartbeats 8000000 in
theorem ledger_Ledger_Rewind_any {N : Nat} {b0 : Nat} {x0 : S_ledger_Ledger} {x1 : (List Int)} {ax1 : Option Addr} {nx1 : Nat} {qx1 : Nat} {P1 : HP} {Fr : List HP} {w : World} {r : S_ledger_Ledger} {K : Value → World → Prop} (hrd1 : Reads P1 (pInt .i64) (.slice ax1 nx1 qx1) x1) (hc : Ctx w (S_ledger_Ledger.hp b0 x0 :: P1 :: Fr)) (hp : ledger_Ledger_Rewind N x0 x1 = some r)
    (k : ∀ w', Ctx w' (S_ledger_Ledger.hp b0 r :: P1 :: Fr) → K (.tuple #[]) w') : Calls Try.prog 13 #[.pointer (some ⟨b0, 0, none⟩), .slice ax1 nx1 qx1] w (Ret K) := by
 unfold ledger_Ledger_Rewind at hp
 refine Center (args := [.pointer (some ⟨b0, 0, none⟩), .slice ax1 nx1 qx1]) (l := [(0, .pointer (some ⟨b0, 0, none⟩)), (1, .slice ax1 nx1 qx1)]) Try.func13 Try.ntmps13 rfl rfl rfl ?_
 obtain ⟨hn1, _⟩ := Ctx.rdLen hc (k := 1) rfl rfl hrd1; subst hn1
 refine Wseq ?_
 refine Wreg ?_
 refine rs (v := .pointer (some ⟨b0, 0, none⟩)) (mv (v := .pointer (some ⟨b0, 0, none⟩)) rfl) rfl ?_
 refine rs (v := .pointer (some ⟨b0, 0, none⟩)) (nl rfl) rfl ?_
 refine rs (v := .pointer (some ⟨b0, 0, none⟩)) (fax 0 rfl Try.underlying83 rfl Try.sizeOf81 rfl rfl rfl) rfl ?_
 replace hc := Ctx.exF hc; obtain ⟨v1, hc⟩ := hc
 replace hc := Ctx.sepF hc
 refine rs (v := .map (some v1)) (ld rfl Try.isAgg81 (Ctx.cell hc (k := 0) rfl rfl rfl)) rfl ?_
 replace hp := chk_some hp; obtain ⟨hg2, hp⟩ := hp
 replace hc := hc.pull 1 rfl rfl
 refine rsE (Ctx.itvMake hc Try.underlying81 rfl hg2) rfl ?_
 clear hc; rintro _ w6 ⟨b3, lh4, rfl, hK5, hc⟩
 refine rn ?_
 refine qn ?_
 refine Wblk ?_
 refine Wloop [4, 5, 11, 12, 13, 14, 15, 16, 17, 18, 19, 20, 21, 22, 23, 24, 25, 26] [] (fun m vs w' => ∃ j7 : (List (Int × S_ledger_entry)), ∃ j8 : (List Int), ∃ c9 : Option (Int × Value), vs = [] ∧ ledger_Ledger_Rewind.L1 N x1 m j7 j8 = some r ∧ Ctx w' (MpI (ekI .i64) (HV vf1 (pAny 1)) v1 b3 lh4 j8 c9 :: Big (VK (vPt S_ledger_entry.hp)) lh4 j7 :: B b0 [.map (some v1)] 83 :: P1 :: Fr)) N ?_ ?_
 · exact ⟨x0.m, [], none, rfl, hp, hc⟩
 · clear hp hc; intro m vs u w10 hJ
   obtain ⟨j7, j8, c9, rfl, hp, hc⟩ := hJ
   rcases m with _ | m1
   · cases (show none = some r from hp)
   rw [ledger_Ledger_Rewind.L1] at hp
   refine Wseq ?_
   refine Wreg ?_
   replace hc := hc.pull 1 rfl rfl
   replace hc := hc.pull 1 rfl rfl
   have hK16 := Ctx.bigKeys hc.drop
   refine rsE (Ctx.itvNext hc rfl hK16) rfl ?_
   clear hc; rintro _ w15 (⟨hr12, rfl, hc⟩ | ⟨kk11, y19, c18, hk13, hg14, hlh17, rfl, hc⟩)
   · replace hp := anyK_nil hp hr12
     replace hc : Ctx w15 (MpV (ekI .i64) vf1 (vPt S_ledger_entry.hp) v1 j7 :: B b0 [.map (some v1)] 83 :: P1 :: Fr) := hc
     refine rs (v := .bool false) (ext (v := .bool false) rfl rfl) rfl ?_
     refine rn ?_
     refine qn ?_
     refine Wseq ?_
     refine Wcf rfl ?_
     refine Wexit ?_
     refine qx ?_
     refine qx ?_
     refine be ?_
     refine f0n Try.results13 ?_
     replace hc := hc.pull 1 rfl rfl
     replace hc : Ctx w15 (S_ledger_Ledger.hp b0 (⟨j7⟩ : S_ledger_Ledger) :: P1 :: Fr) := Ctx.exB _ _ (Ctx.sepB hc)
     injection hp with hp; subst hp
     exact ⟨_, rfl, k _ hc⟩
   · replace hp := anyK_mem hp hk13
     replace hp := bind_of hp hg14
     replace hc := Ctx.exF hc; obtain ⟨b21, hc⟩ := hc
     replace hc := Ctx.sepF hc
     replace hc := Ctx.puF hc; obtain ⟨u20, hc⟩ := hc; subst u20
     replace hc : Ctx w15 (S_ledger_entry.hp b21 y19 :: Big (VK (vPt S_ledger_entry.hp)) (mdel lh4 kk11) (mdel j7 kk11) :: MpI (ekI .i64) (HV vf1 (pAny 1)) v1 b3 lh4 (kk11 :: j8) (some (kk11, vf1 [.pointer (some ⟨b21, 0, none⟩)])) :: B b0 [.map (some v1)] 83 :: P1 :: Fr) := hc
     refine rs (v := .bool true) (ext (v := .bool true) rfl rfl) rfl ?_
     refine rn ?_
     refine qn ?_
     refine Wseq ?_
     refine Wct rfl ?_
     refine Wskip ?_
     refine qn ?_
     refine Wblk ?_
     refine Wseq ?_
     refine Wreg ?_
     refine rs (v := .tuple #[.int .i64 kk11, .pointer (some ⟨b21, 0, none⟩)]) (Ctx.itEntry (k := kk11) hc (i := 2) rfl rfl rfl) rfl ?_
     refine rs (v := .int .i64 kk11) (ext (v := .int .i64 kk11) rfl rfl) rfl ?_
     refine rs (v := .pointer (some ⟨b21, 0, none⟩)) (ext (v := .pointer (some ⟨b21, 0, none⟩)) rfl rfl) rfl ?_
     refine rs (v := .int .i64 kk11) (av (v := .int .i64 kk11) rfl) rfl ?_
     refine rs (v := .pointer (some ⟨b21, 0, none⟩)) (av (v := .pointer (some ⟨b21, 0, none⟩)) rfl) rfl ?_
     refine rn ?_
     refine qn ?_
     refine Wseqm [16, 17, 18, 19, 20, 21, 22, 23] [23] (fun vs w' => ∃ j22 : Bool, vs = [.bool j22] ∧ ledger_Ledger_Rewind.J2 j7 j8 kk11 y19 (ledger_Ledger_Rewind.L1 N x1 m1) j22 = some r ∧ Ctx w' (S_ledger_entry.hp b21 y19 :: Big (VK (vPt S_ledger_entry.hp)) (mdel lh4 kk11) (mdel j7 kk11) :: MpI (ekI .i64) (HV vf1 (pAny 1)) v1 b3 lh4 (kk11 :: j8) (some (kk11, vf1 [.pointer (some ⟨b21, 0, none⟩)])) :: B b0 [.map (some v1)] 83 :: P1 :: Fr)) ?_ ?_
     · refine Wreg ?_
       refine rs (v := .slice ax1 x1.length qx1) (mv (v := .slice ax1 x1.length qx1) rfl) rfl ?_
       refine rs (v := .int .i64 ((x1.length : Nat) : Int)) (ln rfl Try.underlying23) rfl ?_
       refine rs (v := .bool (decide (((x1.length : Nat) : Int) = 0))) (eqd rfl rfl) rfl ?_
       refine rs (v := .bool (decide (((x1.length : Nat) : Int) = 0))) (mv (v := .bool (decide (((x1.length : Nat) : Int) = 0))) rfl) rfl ?_
       cases hb23 : (decide (((x1.length : Nat) : Int) = 0))
       · replace hp := gneg hp (of_decide_eq_false hb23)
         refine rs (v := .slice ax1 x1.length qx1) (mv (v := .slice ax1 x1.length qx1) rfl) rfl ?_
         refine rs (v := .int .i64 kk11) (mv (v := .int .i64 kk11) rfl) rfl ?_
         replace hp := bind_some hp; obtain ⟨r24, hr24, hp⟩ := hp
         replace hc := hc.pull 4 rfl rfl
         refine rc (cl Try.call31 rfl rfl) rfl ?_
         refine slices_Contains_s_int_int_any hrd1 hc hr24 ?_
         clear hc; intro w25 hc
         refine rs (v := .bool r24) (pkf (v := .bool r24) rfl rfl) rfl ?_
         refine rn ?_
         refine qn ?_
         replace hc := hc.pull 4 rfl rfl
         replace hc := hc.pull 4 rfl rfl
         replace hc := hc.pull 4 rfl rfl
         replace hc := hc.pull 4 rfl rfl
         exact ⟨⟨r24, rfl, hp, hc⟩, (kl rfl kb)⟩
       · replace hp := gpos hp (of_decide_eq_true hb23)
         refine r0 rfl ?_
         refine r0 rfl ?_
         refine r0 rfl ?_
         refine rs (v := .bool true) (pkt (v := .bool true) rfl rfl) rfl ?_
         refine rn ?_
         refine qn ?_
         exact ⟨⟨true, rfl, hp, hc⟩, (kl rfl kb)⟩
     · clear hp hc; intro vs u w26 hJ
       obtain ⟨j22, rfl, hp, hc⟩ := hJ
       unfold ledger_Ledger_Rewind.J2 at hp
       cases hb27 : j22
       · replace hp := gneg hp (by rw [hb27]; exact Bool.false_ne_true)
         subst hb27
         refine Wcf rfl ?_
         refine Wskip ?_
         refine bn ?_
         refine qn ?_
         replace hc : Ctx w26 ((vPt S_ledger_entry.hp).r [.pointer (some ⟨b21, 0, none⟩)] y19 :: Big (VK (vPt S_ledger_entry.hp)) (mdel lh4 kk11) (mdel j7 kk11) :: MpI (ekI .i64) (HV vf1 (pAny 1)) v1 b3 lh4 (kk11 :: j8) (some (kk11, vf1 [.pointer (some ⟨b21, 0, none⟩)])) :: B b0 [.map (some v1)] 83 :: P1 :: Fr) := Ctx.exB _ _ (Ctx.sepB (Ctx.puB rfl hc))
         replace hc := hc.pull 1 rfl rfl
         replace hc := hc.pull 1 rfl rfl
         replace hc := Ctx.bigBack0 hc hK16 hlh17 hg14
         replace hc : Ctx w26 (Big (VK (vPt S_ledger_entry.hp)) lh4 j7 :: MpI (ekI .i64) (HV vf1 (pAny 1)) v1 b3 lh4 (kk11 :: j8) (some (kk11, vf1 [.pointer (some ⟨b21, 0, none⟩)])) :: B b0 [.map (some v1)] 83 :: P1 :: Fr) := hc
         replace hc := hc.pull 3 rfl rfl
         replace hc := hc.pull 3 rfl rfl
         replace hc := hc.pull 2 rfl rfl
         replace hc := hc.pull 3 rfl rfl
         exact ⟨m1, Nat.lt_succ_self _, ⟨j7, (kk11 :: j8), (some (kk11, vf1 [.pointer (some ⟨b21, 0, none⟩)])), rfl, hp, hc⟩, (kl rfl (km rfl (kl rfl k0)))⟩
       · replace hp := gpos hp hb27
         subst hb27
         refine Wct rfl ?_
         refine Wreg ?_
         refine rs (v := .pointer (some ⟨b21, 0, none⟩)) (mv (v := .pointer (some ⟨b21, 0, none⟩)) rfl) rfl ?_
         refine rs (v := .pointer (some ⟨b21, 0, none⟩)) (nl rfl) rfl ?_
         refine rs (v := .pointer (some ⟨b21, 4, none⟩)) (fax 4 rfl Try.underlying87 rfl Try.sizeOf3 rfl rfl rfl) rfl ?_
         replace hc := Ctx.exF hc; obtain ⟨v28, hc⟩ := hc
         replace hc := Ctx.exF hc; obtain ⟨v29, hc⟩ := hc
         replace hc := Ctx.sepF hc
         replace hc := Ctx.sepF hc
         obtain ⟨a30, q31, u32⟩ := hc.rd (k := 1) rfl rfl reads_ro; subst u32
         obtain ⟨a33, q34, u35⟩ := hc.rd (k := 2) rfl rfl reads_own; subst u35
         refine ruE (A := fun w' => Ctx w' (B b21 [.int .i64 y19.Request.ID, .int .i64 y19.Request.Most, .slice a30 y19.Request.Prompt.length q31, .slice a33 y19.log.length q34, .int .i64 0] 87 :: Hold (pRo (pInt .i64)) [.slice a30 y19.Request.Prompt.length q31] y19.Request.Prompt :: Own (pInt .i64) 3 (.slice a33 y19.log.length q34) y19.log :: Big (VK (vPt S_ledger_entry.hp)) (mdel lh4 kk11) (mdel j7 kk11) :: MpI (ekI .i64) (HV vf1 (pAny 1)) v1 b3 lh4 (kk11 :: j8) (some (kk11, vf1 [.pointer (some ⟨b21, 0, none⟩)])) :: B b0 [.map (some v1)] 83 :: P1 :: Fr)) (Ctx.putOp hc (k := 0) rfl rfl (v := .int .i64 0) rfl rfl rfl Try.sizeOf3 rfl rfl rfl) rfl ?_
         clear hc; rintro w36 hc
         refine rn ?_
         refine bn ?_
         refine qn ?_
         replace hc := hc.pull 2 rfl rfl
         replace hc := hc.pull 2 rfl rfl
         replace hc := hc.pull 2 rfl rfl
         replace hc : Ctx w36 (S_ledger_entry.hp b21 (⟨y19.Request, y19.log, 0⟩ : S_ledger_entry) :: Big (VK (vPt S_ledger_entry.hp)) (mdel lh4 kk11) (mdel j7 kk11) :: MpI (ekI .i64) (HV vf1 (pAny 1)) v1 b3 lh4 (kk11 :: j8) (some (kk11, vf1 [.pointer (some ⟨b21, 0, none⟩)])) :: B b0 [.map (some v1)] 83 :: P1 :: Fr) := Ctx.exB _ _ (Ctx.exB _ _ (Ctx.sepB (Ctx.sepB hc)))
         replace hc : Ctx w36 ((vPt S_ledger_entry.hp).r [.pointer (some ⟨b21, 0, none⟩)] (⟨y19.Request, y19.log, 0⟩ : S_ledger_entry) :: Big (VK (vPt S_ledger_entry.hp)) (mdel lh4 kk11) (mdel j7 kk11) :: MpI (ekI .i64) (HV vf1 (pAny 1)) v1 b3 lh4 (kk11 :: j8) (some (kk11, vf1 [.pointer (some ⟨b21, 0, none⟩)])) :: B b0 [.map (some v1)] 83 :: P1 :: Fr) := Ctx.exB _ _ (Ctx.sepB (Ctx.puB rfl hc))
         replace hc := hc.pull 1 rfl rfl
         replace hc := hc.pull 1 rfl rfl
         replace hc := Ctx.bigBack1 hc hK16 hlh17 hg14
         replace hc : Ctx w36 (Big (VK (vPt S_ledger_entry.hp)) lh4 (mset j7 kk11 (⟨y19.Request, y19.log, 0⟩ : S_ledger_entry)) :: MpI (ekI .i64) (HV vf1 (pAny 1)) v1 b3 lh4 (kk11 :: j8) (some (kk11, vf1 [.pointer (some ⟨b21, 0, none⟩)])) :: B b0 [.map (some v1)] 83 :: P1 :: Fr) := hc
         replace hc := hc.pull 3 rfl rfl
         replace hc := hc.pull 3 rfl rfl
         replace hc := hc.pull 2 rfl rfl
         replace hc := hc.pull 3 rfl rfl
         exact ⟨m1, Nat.lt_succ_self _, ⟨(mset j7 kk11 (⟨y19.Request, y19.log, 0⟩ : S_ledger_entry)), (kk11 :: j8), (some (kk11, vf1 [.pointer (some ⟨b21, 0, none⟩)])), rfl, hp, hc⟩, (kl rfl (km rfl (kl rfl k0)))⟩

-- FN (*peloton/ledger.Ledger).Close
def ledger_Ledger_Close.L1 (x0 : S_ledger_Ledger) (x1 : (List Int)) : Nat → S_ledger_Ledger → Int → Option (Int × S_ledger_Ledger)
  | 0, _, _ => none
  | m1 + 1, j2, j3 =>
    if j3 < ((x1.length : Nat) : Int) then
      (idx x1 j3).bind fun y8 =>
      (ledger_Ledger_Close.L1 x0 x1 m1) (⟨(mdel j2.m y8)⟩ : S_ledger_Ledger) (IntKind.i64.wrap (j3 + 1))
    else
      (some (IntKind.i64.wrap (((x0.m.length : Nat) : Int) - ((j2.m.length : Nat) : Int)))).bind fun e7 =>
      some (e7, j2)

def ledger_Ledger_Close (N : Nat) (x0 : S_ledger_Ledger) (x1 : (List Int)) : Option (Int × S_ledger_Ledger) :=
  ledger_Ledger_Close.L1 x0 x1 N x0 0

set_option maxHeartbeats 8000000 in
theorem ledger_Ledger_Close_any {N : Nat} {b0 : Nat} {x0 : S_ledger_Ledger} {x1 : (List Int)} {ax1 : Option Addr} {nx1 : Nat} {qx1 : Nat} {P1 : HP} {Fr : List HP} {w : World} {r : Int × S_ledger_Ledger} {K : Value → World → Prop} (hrd1 : Reads P1 (pInt .i64) (.slice ax1 nx1 qx1) x1) (hc : Ctx w (S_ledger_Ledger.hp b0 x0 :: P1 :: Fr)) (hp : ledger_Ledger_Close N x0 x1 = some r)
    (k : ∀ w', Ctx w' (S_ledger_Ledger.hp b0 r.2 :: P1 :: Fr) → K (.int .i64 r.1) w') : Calls Try.prog 26 #[.pointer (some ⟨b0, 0, none⟩), .slice ax1 nx1 qx1] w (Ret K) := by
 unfold ledger_Ledger_Close at hp
 refine Center (args := [.pointer (some ⟨b0, 0, none⟩), .slice ax1 nx1 qx1]) (l := [(0, .pointer (some ⟨b0, 0, none⟩)), (1, .slice ax1 nx1 qx1)]) Try.func26 Try.ntmps26 rfl rfl rfl ?_
 obtain ⟨hn1, _⟩ := Ctx.rdLen hc (k := 1) rfl rfl hrd1; subst hn1
 refine Wseq ?_
 refine Wreg ?_
 refine rs (v := .int .i64 0) (av (v := .int .i64 0) rfl) rfl ?_
 refine rn ?_
 refine qn ?_
 refine Wseq ?_
 refine Wreg ?_
 refine rs (v := .pointer (some ⟨b0, 0, none⟩)) (mv (v := .pointer (some ⟨b0, 0, none⟩)) rfl) rfl ?_
 refine rs (v := .pointer (some ⟨b0, 0, none⟩)) (nl rfl) rfl ?_
 refine rs (v := .pointer (some ⟨b0, 0, none⟩)) (fax 0 rfl Try.underlying83 rfl Try.sizeOf81 rfl rfl rfl) rfl ?_
 replace hc := Ctx.exF hc; obtain ⟨v1, hc⟩ := hc
 replace hc := Ctx.sepF hc
 refine rs (v := .map (some v1)) (ld rfl Try.isAgg81 (Ctx.cell hc (k := 0) rfl rfl rfl)) rfl ?_
 refine rs (v := .int .i64 ((x0.m.length : Nat) : Int)) (Ctx.mpvLen hc (i := 1) rfl rfl Try.underlying81 rfl) rfl ?_
 refine rs (v := .int .i64 ((x0.m.length : Nat) : Int)) (av (v := .int .i64 ((x0.m.length : Nat) : Int)) rfl) rfl ?_
 refine rn ?_
 refine qn ?_
 refine Wseq ?_
 refine Wseq ?_
 refine Wreg ?_
 refine rs (v := .slice ax1 x1.length qx1) (mv (v := .slice ax1 x1.length qx1) rfl) rfl ?_
 refine rs (v := .int .i64 ((x1.length : Nat) : Int)) (ln rfl Try.underlying23) rfl ?_
 refine rs (v := .int .i64 0) (mv (v := .int .i64 0) rfl) rfl ?_
 refine rn ?_
 refine qn ?_
 refine Wblk ?_
 replace hc := hc.pull 1 rfl rfl
 replace hc := hc.pull 1 rfl rfl
 replace hc : Ctx w (S_ledger_Ledger.hp b0 x0 :: P1 :: Fr) := Ctx.exB _ _ (Ctx.sepB hc)
 refine Wloop [7, 15, 16, 17, 18, 19, 20, 21, 22, 23, 24] [15] (fun m vs w' => ∃ j2 : S_ledger_Ledger, ∃ j3 : Int, vs = [.int .i64 j3] ∧ ledger_Ledger_Close.L1 x0 x1 m j2 j3 = some r ∧ Ctx w' (S_ledger_Ledger.hp b0 j2 :: P1 :: Fr)) N ?_ ?_
 · exact ⟨x0, 0, rfl, hp, hc⟩
 · clear hp hc; intro m vs u w4 hJ
   obtain ⟨j2, j3, rfl, hp, hc⟩ := hJ
   rcases m with _ | m1
   · cases (show none = some r from hp)
   rw [ledger_Ledger_Close.L1] at hp
   refine Wseq ?_
   refine Wreg ?_
   refine rs (v := .bool (decide (j3 < ((x1.length : Nat) : Int)))) (lt' rfl rfl) rfl ?_
   refine rn ?_
   refine qn ?_
   refine Wseq ?_
   cases hb5 : (decide (j3 < ((x1.length : Nat) : Int)))
   · replace hp := gneg hp (of_decide_eq_false hb5)
     refine Wcf rfl ?_
     refine Wexit ?_
     refine qx ?_
     refine qx ?_
     refine be ?_
     refine qn ?_
     refine Wseq ?_
     refine Wreg ?_
     refine rs (v := .int .i64 ((x0.m.length : Nat) : Int)) (mv (v := .int .i64 ((x0.m.length : Nat) : Int)) rfl) rfl ?_
     refine rs (v := .pointer (some ⟨b0, 0, none⟩)) (mv (v := .pointer (some ⟨b0, 0, none⟩)) rfl) rfl ?_
     refine rs (v := .pointer (some ⟨b0, 0, none⟩)) (nl rfl) rfl ?_
     refine rs (v := .pointer (some ⟨b0, 0, none⟩)) (fax 0 rfl Try.underlying83 rfl Try.sizeOf81 rfl rfl rfl) rfl ?_
     replace hc := Ctx.exF hc; obtain ⟨v6, hc⟩ := hc
     replace hc := Ctx.sepF hc
     refine rs (v := .map (some v6)) (ld rfl Try.isAgg81 (Ctx.cell hc (k := 0) rfl rfl rfl)) rfl ?_
     refine rs (v := .int .i64 ((j2.m.length : Nat) : Int)) (Ctx.mpvLen hc (i := 1) rfl rfl Try.underlying81 rfl) rfl ?_
     refine rs (v := .int .i64 (IntKind.i64.wrap (((x0.m.length : Nat) : Int) - ((j2.m.length : Nat) : Int)))) (sbw rfl rfl) rfl ?_
     replace hp := bind_some hp; obtain ⟨e7, he7, hp⟩ := hp
     injection he7 with he7
     refine rs (v := .int .i64 e7) (av (v := .int .i64 e7) (by rw [← he7]; rfl)) rfl ?_
     refine rn ?_
     refine qn ?_
     refine Wret ?_
     replace hc := hc.pull 1 rfl rfl
     replace hc := hc.pull 1 rfl rfl
     replace hc : Ctx w4 (S_ledger_Ledger.hp b0 j2 :: P1 :: Fr) := Ctx.exB _ _ (Ctx.sepB hc)
     injection hp with hp; subst hp
     refine f1 (v := .int .i64 e7) Try.results26 Try.ntmps26 rfl ?_
     exact ⟨_, rfl, k _ hc⟩
   · replace hp := gpos hp (of_decide_eq_true hb5)
     refine Wct rfl ?_
     refine Wskip ?_
     refine qn ?_
     refine Wseq ?_
     refine Wblk ?_
     refine Wseq ?_
     refine Wreg ?_
     replace hp := bind_some hp; obtain ⟨y8, hy8, hp⟩ := hp
     obtain ⟨b11, o12, u13, hi9, hi10⟩ := Ctx.rdAt hc (k := 1) rfl rfl hrd1 hy8
     subst u13
     refine rs (v := .pointer (some ⟨b11, o12 + (j3).toNat * 1, none⟩)) (ixx rfl rfl Try.underlying23 Try.sizeOf3 hi9 hi10 rfl) rfl ?_
     replace hc := Ctx.rdCell hc (k := 1) rfl rfl hrd1 hy8; obtain ⟨cs14, hc, hcell15⟩ := hc
     replace hc := Ctx.holdC hc; obtain ⟨u16, hc⟩ := hc; subst u16
     refine rs (v := .int .i64 y8) (ld rfl Try.isAgg3 (hcell15 0 _ rfl)) rfl ?_
     refine rs (v := .int .i64 y8) (av (v := .int .i64 y8) rfl) rfl ?_
     refine rn ?_
     refine qn ?_
     refine Wreg ?_
     refine rs (v := .pointer (some ⟨b0, 0, none⟩)) (mv (v := .pointer (some ⟨b0, 0, none⟩)) rfl) rfl ?_
     refine rs (v := .pointer (some ⟨b0, 0, none⟩)) (nl rfl) rfl ?_
     refine rs (v := .pointer (some ⟨b0, 0, none⟩)) (fax 0 rfl Try.underlying83 rfl Try.sizeOf81 rfl rfl rfl) rfl ?_
     replace hc := Ctx.exF hc; obtain ⟨v17, hc⟩ := hc
     replace hc := Ctx.sepF hc
     refine rs (v := .map (some v17)) (ld rfl Try.isAgg81 (Ctx.cell hc (k := 0) rfl rfl rfl)) rfl ?_
     refine rs (v := .int .i64 y8) (mv (v := .int .i64 y8) rfl) rfl ?_
     replace hc := hc.pull 1 rfl rfl
     refine rvE (Ctx.mpvDel (k := y8) (keyL_int Try.underlying3) hc Try.underlying81 rfl rfl) rfl ?_
     clear hc; intro w18 hc
     refine rn ?_
     refine bn ?_
     refine qn ?_
     refine Wreg ?_
     refine rs (v := .int .i64 (IntKind.i64.wrap (j3 + 1))) (adw rfl rfl) rfl ?_
     refine rs (v := .int .i64 (IntKind.i64.wrap (j3 + 1))) (mv (v := .int .i64 (IntKind.i64.wrap (j3 + 1))) rfl) rfl ?_
     refine rn ?_
     refine qn ?_
     replace hc := hc.pull 1 rfl rfl
     replace hc : Ctx w18 (S_ledger_Ledger.hp b0 (⟨(mdel j2.m y8)⟩ : S_ledger_Ledger) :: P1 :: Fr) := Ctx.exB _ _ (Ctx.sepB hc)
     exact ⟨m1, Nat.lt_succ_self _, ⟨(⟨(mdel j2.m y8)⟩ : S_ledger_Ledger), (IntKind.i64.wrap (j3 + 1)), rfl, hp, hc⟩, (kl rfl k0)⟩

-- FN (*peloton/ledger.Ledger).Log
def ledger_Ledger_Log (x0 : S_ledger_Ledger) (x1 : Int) : Option ((List Int)) :=
  optc (mget x0.m x1) (
    some ([])) fun y3 =>
    (slices_Clone_s_int_int y3.log).bind fun r18 =>
    some r18

set_option maxHeartbeats 8000000 in
theorem ledger_Ledger_Log_any {b0 : Nat} {x0 : S_ledger_Ledger} {x1 : Int} {Fr : List HP} {w : World} {r : (List Int)} {K : Value → World → Prop}  (hc : Ctx w (S_ledger_Ledger.hp b0 x0 :: Fr)) (hp : ledger_Ledger_Log x0 x1 = some r)
    (k : ∀ (a24 : Option Addr) (n25 : Nat) (q26 : Nat) w', Ctx w' (Own (pInt .i64) 3 (.slice a24 n25 q26) r :: S_ledger_Ledger.hp b0 x0 :: Fr) → K (.slice a24 n25 q26) w') : Calls Try.prog 12 #[.pointer (some ⟨b0, 0, none⟩), .int .i64 x1] w (Ret K) := by
 unfold ledger_Ledger_Log at hp
 refine Center (args := [.pointer (some ⟨b0, 0, none⟩), .int .i64 x1]) (l := [(0, .pointer (some ⟨b0, 0, none⟩)), (1, .int .i64 x1)]) Try.func12 Try.ntmps12 rfl rfl rfl ?_
 refine Wseq ?_
 refine Wreg ?_
 refine rs (v := .slice none 0 0) (av (v := .slice none 0 0) rfl) rfl ?_
 refine rn ?_
 refine qn ?_
 refine Wseq ?_
 refine Wseq ?_
 refine Wreg ?_
 refine rs (v := .pointer (some ⟨b0, 0, none⟩)) (mv (v := .pointer (some ⟨b0, 0, none⟩)) rfl) rfl ?_
 refine rs (v := .pointer (some ⟨b0, 0, none⟩)) (nl rfl) rfl ?_
 refine rs (v := .pointer (some ⟨b0, 0, none⟩)) (fax 0 rfl Try.underlying83 rfl Try.sizeOf81 rfl rfl rfl) rfl ?_
 replace hc := Ctx.exF hc; obtain ⟨v1, hc⟩ := hc
 replace hc := Ctx.sepF hc
 refine rs (v := .map (some v1)) (ld rfl Try.isAgg81 (Ctx.cell hc (k := 0) rfl rfl rfl)) rfl ?_
 refine rs (v := .int .i64 x1) (mv (v := .int .i64 x1) rfl) rfl ?_
 cases hb2 : mget x0.m x1
 · replace hp := optN hp hb2
   refine rs (v := .pointer none) (Ctx.mpvGetN (k := x1) false (keyL_int Try.underlying3) hc (i := 1) rfl rfl Try.underlying81 rfl rfl Try.zeroValue84 hb2) rfl ?_
   refine rs (v := .pointer none) (av (v := .pointer none) rfl) rfl ?_
   refine rn ?_
   refine qn ?_
   refine Wseq ?_
   refine Wreg ?_
   refine rs (v := .pointer none) (mv (v := .pointer none) rfl) rfl ?_
   refine rs (v := .bool false) (npt Try.underlying84 rfl rfl) rfl ?_
   refine rn ?_
   refine qn ?_
   refine Wcf rfl ?_
   refine Wskip ?_
   refine qn ?_
   refine Wseq ?_
   refine Wreg ?_
   refine rs (v := .slice none 0 0) (av (v := .slice none 0 0) rfl) rfl ?_
   refine rn ?_
   refine qn ?_
   refine Wret ?_
   replace hc := hc.nilOwn (pInt .i64) 3
   replace hc := hc.pull 2 rfl rfl
   replace hc := hc.pull 2 rfl rfl
   replace hc : Ctx w (S_ledger_Ledger.hp b0 x0 :: Own (pInt .i64) 3 (.slice none 0 0) ([]) :: Fr) := Ctx.exB _ _ (Ctx.sepB hc)
   replace hc := hc.pull 1 rfl rfl
   injection hp with hp; subst hp
   refine f1 (v := .slice none 0 0) Try.results12 Try.ntmps12 rfl ?_
   exact ⟨_, rfl, k _ _ _ _ hc⟩
 · rename_i y3
   replace hp := optS hp hb2
   replace hc := hc.pull 1 rfl rfl
   replace hc := Ctx.mpVF hc; obtain ⟨lh4, hK5, hc⟩ := hc
   replace hc := Ctx.bigGetS hc.swap hb2; obtain ⟨c7, hg6, hc⟩ := hc
   replace hc := Ctx.exF hc; obtain ⟨b9, hc⟩ := hc
   replace hc := Ctx.sepF hc
   replace hc := Ctx.puF hc; obtain ⟨u8, hc⟩ := hc; subst u8
   replace hc : Ctx w (S_ledger_entry.hp b9 y3 :: Big (VK (vPt S_ledger_entry.hp)) (mdel lh4 x1) (mdel x0.m x1) :: Mp (ekI .i64) (HV vf1 (pAny 1)) v1 lh4 :: B b0 [.map (some v1)] 83 :: Fr) := hc
   refine rs (v := .pointer (some ⟨b9, 0, none⟩)) (Ctx.mpGetH (k := x1) false (keyL_int Try.underlying3) hc (i := 2) rfl rfl Try.underlying81 rfl rfl hg6) rfl ?_
   refine rs (v := .pointer (some ⟨b9, 0, none⟩)) (av (v := .pointer (some ⟨b9, 0, none⟩)) rfl) rfl ?_
   refine rn ?_
   refine qn ?_
   refine Wseq ?_
   refine Wreg ?_
   refine rs (v := .pointer (some ⟨b9, 0, none⟩)) (mv (v := .pointer (some ⟨b9, 0, none⟩)) rfl) rfl ?_
   refine rs (v := .bool true) (npf Try.underlying84 rfl rfl) rfl ?_
   refine rn ?_
   refine qn ?_
   refine Wct rfl ?_
   refine Wseq ?_
   refine Wreg ?_
   refine rs (v := .pointer (some ⟨b9, 0, none⟩)) (mv (v := .pointer (some ⟨b9, 0, none⟩)) rfl) rfl ?_
   refine rs (v := .pointer (some ⟨b9, 0, none⟩)) (nl rfl) rfl ?_
   refine rs (v := .pointer (some ⟨b9, 3, none⟩)) (fax 3 rfl Try.underlying87 rfl Try.sizeOf23 rfl rfl rfl) rfl ?_
   replace hc := Ctx.exF hc; obtain ⟨v10, hc⟩ := hc
   replace hc := Ctx.exF hc; obtain ⟨v11, hc⟩ := hc
   replace hc := Ctx.sepF hc
   replace hc := Ctx.sepF hc
   obtain ⟨a12, q13, u14⟩ := hc.rd (k := 1) rfl rfl reads_ro; subst u14
   obtain ⟨a15, q16, u17⟩ := hc.rd (k := 2) rfl rfl reads_own; subst u17
   refine rs (v := .slice a15 y3.log.length q16) (ld rfl Try.isAgg23 (Ctx.cell hc (k := 0) rfl rfl rfl)) rfl ?_
   replace hp := bind_some hp; obtain ⟨r18, hr18, hp⟩ := hp
   replace hc := hc.pull 2 rfl rfl
   refine rc (cl Try.call28 rfl rfl) rfl ?_
   refine slices_Clone_s_int_int_any reads_own hc hr18 ?_
   clear hc; intro a19 n20 q21 w22 hc
   obtain ⟨u23, _⟩ := Ctx.rdLen hc (k := 0) rfl rfl reads_own; subst u23
   refine rs (v := .slice a19 r18.length q21) (av (v := .slice a19 r18.length q21) rfl) rfl ?_
   refine rn ?_
   refine qn ?_
   refine Wret ?_
   refine qr ?_
   replace hc := hc.pull 1 rfl rfl
   replace hc := hc.pull 3 rfl rfl
   replace hc := hc.pull 3 rfl rfl
   replace hc : Ctx w22 (S_ledger_entry.hp b9 y3 :: Own (pInt .i64) 3 (.slice a19 r18.length q21) r18 :: Big (VK (vPt S_ledger_entry.hp)) (mdel lh4 x1) (mdel x0.m x1) :: Mp (ekI .i64) (HV vf1 (pAny 1)) v1 lh4 :: B b0 [.map (some v1)] 83 :: Fr) := Ctx.exB _ _ (Ctx.exB _ _ (Ctx.sepB (Ctx.sepB hc)))
   replace hc : Ctx w22 ((vPt S_ledger_entry.hp).r [.pointer (some ⟨b9, 0, none⟩)] y3 :: Own (pInt .i64) 3 (.slice a19 r18.length q21) r18 :: Big (VK (vPt S_ledger_entry.hp)) (mdel lh4 x1) (mdel x0.m x1) :: Mp (ekI .i64) (HV vf1 (pAny 1)) v1 lh4 :: B b0 [.map (some v1)] 83 :: Fr) := Ctx.exB _ _ (Ctx.sepB (Ctx.puB rfl hc))
   replace hc := hc.pull 3 rfl rfl
   replace hc := hc.pull 3 rfl rfl
   replace hc := hc.pull 2 rfl rfl
   replace hc := Ctx.bigBack0 hc hK5 hg6 hb2
   replace hc : Ctx w22 (MpV (ekI .i64) vf1 (vPt S_ledger_entry.hp) v1 x0.m :: Own (pInt .i64) 3 (.slice a19 r18.length q21) r18 :: B b0 [.map (some v1)] 83 :: Fr) := Ctx.mpVB hc.swap
   replace hc := hc.pull 2 rfl rfl
   replace hc : Ctx w22 (S_ledger_Ledger.hp b0 x0 :: Own (pInt .i64) 3 (.slice a19 r18.length q21) r18 :: Fr) := Ctx.exB _ _ (Ctx.sepB hc)
   replace hc := hc.pull 1 rfl rfl
   injection hp with hp; subst hp
   refine f1 (v := .slice a19 r18.length q21) Try.results12 Try.ntmps12 rfl ?_
   exact ⟨_, rfl, k _ _ _ _ hc⟩

-- FN (*peloton/ledger.Ledger).Done
def ledger_Ledger_Done (x0 : S_ledger_Ledger) (x1 : Int) : Option (Bool) :=
  optc (mget x0.m x1) (
    some false) fun y3 =>
    (ledger_entry_done y3).bind fun r10 =>
    some r10

set_option maxHeartbeats 8000000 in
theorem ledger_Ledger_Done_any {b0 : Nat} {x0 : S_ledger_Ledger} {x1 : Int} {Fr : List HP} {w : World} {r : Bool} {K : Value → World → Prop}  (hc : Ctx w (S_ledger_Ledger.hp b0 x0 :: Fr)) (hp : ledger_Ledger_Done x0 x1 = some r)
    (k : ∀ w', Ctx w' (S_ledger_Ledger.hp b0 x0 :: Fr) → K (.bool r) w') : Calls Try.prog 17 #[.pointer (some ⟨b0, 0, none⟩), .int .i64 x1] w (Ret K) := by
 unfold ledger_Ledger_Done at hp
 refine Center (args := [.pointer (some ⟨b0, 0, none⟩), .int .i64 x1]) (l := [(0, .pointer (some ⟨b0, 0, none⟩)), (1, .int .i64 x1)]) Try.func17 Try.ntmps17 rfl rfl rfl ?_
 refine Wseq ?_
 refine Wreg ?_
 refine rs (v := .bool false) (av (v := .bool false) rfl) rfl ?_
 refine rn ?_
 refine qn ?_
 refine Wseq ?_
 refine Wreg ?_
 refine rs (v := .pointer (some ⟨b0, 0, none⟩)) (mv (v := .pointer (some ⟨b0, 0, none⟩)) rfl) rfl ?_
 refine rs (v := .pointer (some ⟨b0, 0, none⟩)) (nl rfl) rfl ?_
 refine rs (v := .pointer (some ⟨b0, 0, none⟩)) (fax 0 rfl Try.underlying83 rfl Try.sizeOf81 rfl rfl rfl) rfl ?_
 replace hc := Ctx.exF hc; obtain ⟨v1, hc⟩ := hc
 replace hc := Ctx.sepF hc
 refine rs (v := .map (some v1)) (ld rfl Try.isAgg81 (Ctx.cell hc (k := 0) rfl rfl rfl)) rfl ?_
 refine rs (v := .int .i64 x1) (mv (v := .int .i64 x1) rfl) rfl ?_
 cases hb2 : mget x0.m x1
 · replace hp := optN hp hb2
   refine rs (v := .pointer none) (Ctx.mpvGetN (k := x1) false (keyL_int Try.underlying3) hc (i := 1) rfl rfl Try.underlying81 rfl rfl Try.zeroValue84 hb2) rfl ?_
   refine rs (v := .bool false) (npt Try.underlying84 rfl rfl) rfl ?_
   refine rs (v := .bool false) (mv (v := .bool false) rfl) rfl ?_
   refine r0 rfl ?_
   refine r0 rfl ?_
   refine r0 rfl ?_
   refine r0 rfl ?_
   refine r0 rfl ?_
   refine r0 rfl ?_
   refine r0 rfl ?_
   refine rs (v := .bool false) (pkf (v := .bool false) rfl rfl) rfl ?_
   refine rs (v := .bool false) (av (v := .bool false) rfl) rfl ?_
   refine rn ?_
   refine qn ?_
   refine Wret ?_
   replace hc := hc.pull 1 rfl rfl
   replace hc := hc.pull 1 rfl rfl
   replace hc : Ctx w (S_ledger_Ledger.hp b0 x0 :: Fr) := Ctx.exB _ _ (Ctx.sepB hc)
   injection hp with hp; subst hp
   refine f1 (v := .bool false) Try.results17 Try.ntmps17 rfl ?_
   exact ⟨_, rfl, k _ hc⟩
 · rename_i y3
   replace hp := optS hp hb2
   replace hc := hc.pull 1 rfl rfl
   replace hc := Ctx.mpVF hc; obtain ⟨lh4, hK5, hc⟩ := hc
   replace hc := Ctx.bigGetS hc.swap hb2; obtain ⟨c7, hg6, hc⟩ := hc
   replace hc := Ctx.exF hc; obtain ⟨b9, hc⟩ := hc
   replace hc := Ctx.sepF hc
   replace hc := Ctx.puF hc; obtain ⟨u8, hc⟩ := hc; subst u8
   replace hc : Ctx w (S_ledger_entry.hp b9 y3 :: Big (VK (vPt S_ledger_entry.hp)) (mdel lh4 x1) (mdel x0.m x1) :: Mp (ekI .i64) (HV vf1 (pAny 1)) v1 lh4 :: B b0 [.map (some v1)] 83 :: Fr) := hc
   refine rs (v := .pointer (some ⟨b9, 0, none⟩)) (Ctx.mpGetH (k := x1) false (keyL_int Try.underlying3) hc (i := 2) rfl rfl Try.underlying81 rfl rfl hg6) rfl ?_
   refine rs (v := .bool true) (npf Try.underlying84 rfl rfl) rfl ?_
   refine rs (v := .bool true) (mv (v := .bool true) rfl) rfl ?_
   refine rs (v := .pointer (some ⟨b0, 0, none⟩)) (mv (v := .pointer (some ⟨b0, 0, none⟩)) rfl) rfl ?_
   refine rs (v := .pointer (some ⟨b0, 0, none⟩)) (nl rfl) rfl ?_
   refine rs (v := .pointer (some ⟨b0, 0, none⟩)) (fax 0 rfl Try.underlying83 rfl Try.sizeOf81 rfl rfl rfl) rfl ?_
   refine rs (v := .map (some v1)) (ld rfl Try.isAgg81 (Ctx.cell hc (k := 3) rfl rfl rfl)) rfl ?_
   refine rs (v := .int .i64 x1) (mv (v := .int .i64 x1) rfl) rfl ?_
   refine rs (v := .pointer (some ⟨b9, 0, none⟩)) (Ctx.mpGetH (k := x1) false (keyL_int Try.underlying3) hc (i := 2) rfl rfl Try.underlying81 rfl rfl hg6) rfl ?_
   replace hp := bind_some hp; obtain ⟨r10, hr10, hp⟩ := hp
   refine rc (cl Try.call29 rfl rfl) rfl ?_
   refine ledger_entry_done_any hc hr10 ?_
   clear hc; intro w11 hc
   refine rs (v := .bool r10) (pkt (v := .bool r10) rfl rfl) rfl ?_
   refine rs (v := .bool r10) (av (v := .bool r10) rfl) rfl ?_
   refine rn ?_
   refine qn ?_
   refine Wret ?_
   replace hc : Ctx w11 ((vPt S_ledger_entry.hp).r [.pointer (some ⟨b9, 0, none⟩)] y3 :: Big (VK (vPt S_ledger_entry.hp)) (mdel lh4 x1) (mdel x0.m x1) :: Mp (ekI .i64) (HV vf1 (pAny 1)) v1 lh4 :: B b0 [.map (some v1)] 83 :: Fr) := Ctx.exB _ _ (Ctx.sepB (Ctx.puB rfl hc))
   replace hc := hc.pull 2 rfl rfl
   replace hc := hc.pull 2 rfl rfl
   replace hc := hc.pull 2 rfl rfl
   replace hc := Ctx.bigBack0 hc hK5 hg6 hb2
   replace hc : Ctx w11 (MpV (ekI .i64) vf1 (vPt S_ledger_entry.hp) v1 x0.m :: B b0 [.map (some v1)] 83 :: Fr) := Ctx.mpVB hc.swap
   replace hc := hc.pull 1 rfl rfl
   replace hc : Ctx w11 (S_ledger_Ledger.hp b0 x0 :: Fr) := Ctx.exB _ _ (Ctx.sepB hc)
   injection hp with hp; subst hp
   refine f1 (v := .bool r10) Try.results17 Try.ntmps17 rfl ?_
   exact ⟨_, rfl, k _ hc⟩

-- FN peloton/pelotonref09.Ints
def ref09_Ints.L1 (x0 : (List Int)) (x1 : (List Int)) : Nat → Int → Option (Bool)
  | 0, _ => none
  | m1 + 1, j2 =>
    if j2 < ((x0.length : Nat) : Int) then
      (idx x0 j2).bind fun y6 =>
      (idx x1 j2).bind fun y15 =>
      if y6 ≠ y15 then
        some false
      else
        (ref09_Ints.L1 x0 x1 m1) (IntKind.i64.wrap (j2 + 1))
    else
      some true

def ref09_Ints (N : Nat) (x0 : (List Int)) (x1 : (List Int)) : Option (Bool) :=
  if ((x0.length : Nat) : Int) ≠ ((x1.length : Nat) : Int) then
    some false
  else
    ref09_Ints.L1 x0 x1 N 0

set_option maxHeartbeats 8000000 in
theorem ref09_Ints_any {N : Nat} {x0 : (List Int)} {ax0 : Option Addr} {nx0 : Nat} {qx0 : Nat} {P0 : HP} {x1 : (List Int)} {ax1 : Option Addr} {nx1 : Nat} {qx1 : Nat} {P1 : HP} {Fr : List HP} {w : World} {r : Bool} {K : Value → World → Prop} (hrd0 : Reads P0 (pInt .i64) (.slice ax0 nx0 qx0) x0) (hrd1 : Reads P1 (pInt .i64) (.slice ax1 nx1 qx1) x1) (hc : Ctx w (P0 :: P1 :: Fr)) (hp : ref09_Ints N x0 x1 = some r)
    (k : ∀ w', Ctx w' (P0 :: P1 :: Fr) → K (.bool r) w') : Calls Try.prog 11 #[.slice ax0 nx0 qx0, .slice ax1 nx1 qx1] w (Ret K) := by
 unfold ref09_Ints at hp
 refine Center (args := [.slice ax0 nx0 qx0, .slice ax1 nx1 qx1]) (l := [(0, .slice ax0 nx0 qx0), (1, .slice ax1 nx1 qx1)]) Try.func11 Try.ntmps11 rfl rfl rfl ?_
 obtain ⟨hn0, _⟩ := Ctx.rdLen hc (k := 0) rfl rfl hrd0; subst hn0
 obtain ⟨hn1, _⟩ := Ctx.rdLen hc (k := 1) rfl rfl hrd1; subst hn1
 refine Wseq ?_
 refine Wreg ?_
 refine rs (v := .bool false) (av (v := .bool false) rfl) rfl ?_
 refine rn ?_
 refine qn ?_
 refine Wseq ?_
 refine Wseq ?_
 refine Wreg ?_
 refine rs (v := .slice ax0 x0.length qx0) (mv (v := .slice ax0 x0.length qx0) rfl) rfl ?_
 refine rs (v := .int .i64 ((x0.length : Nat) : Int)) (ln rfl Try.underlying23) rfl ?_
 refine rs (v := .slice ax1 x1.length qx1) (mv (v := .slice ax1 x1.length qx1) rfl) rfl ?_
 refine rs (v := .int .i64 ((x1.length : Nat) : Int)) (ln rfl Try.underlying23) rfl ?_
 refine rs (v := .bool (decide (((x0.length : Nat) : Int) ≠ ((x1.length : Nat) : Int)))) (ned rfl rfl) rfl ?_
 refine rn ?_
 refine qn ?_
 cases hb1 : (decide (((x0.length : Nat) : Int) ≠ ((x1.length : Nat) : Int)))
 · replace hp := gneg hp (of_decide_eq_false hb1)
   refine Wcf rfl ?_
   refine Wskip ?_
   refine qn ?_
   refine Wseq ?_
   refine Wseq ?_
   refine Wreg ?_
   refine rs (v := .int .i64 0) (av (v := .int .i64 0) rfl) rfl ?_
   refine rn ?_
   refine qn ?_
   refine Wblk ?_
   refine Wloop [4, 5, 11, 12, 13, 14, 15, 16, 17, 18, 19, 20, 21, 22, 23, 24, 25] [5] (fun m vs w' => ∃ j2 : Int, vs = [.int .i64 j2] ∧ ref09_Ints.L1 x0 x1 m j2 = some r ∧ Ctx w' (P0 :: P1 :: Fr)) N ?_ ?_
   · exact ⟨0, rfl, hp, hc⟩
   · clear hp hc; intro m vs u w3 hJ
     obtain ⟨j2, rfl, hp, hc⟩ := hJ
     rcases m with _ | m1
     · cases (show none = some r from hp)
     rw [ref09_Ints.L1] at hp
     refine Wseq ?_
     refine Wseq ?_
     refine Wreg ?_
     refine rs (v := .int .i64 j2) (mv (v := .int .i64 j2) rfl) rfl ?_
     refine rs (v := .slice ax0 x0.length qx0) (mv (v := .slice ax0 x0.length qx0) rfl) rfl ?_
     refine rs (v := .int .i64 ((x0.length : Nat) : Int)) (ln rfl Try.underlying23) rfl ?_
     refine rs (v := .bool (decide (j2 < ((x0.length : Nat) : Int)))) (lt' rfl rfl) rfl ?_
     refine rn ?_
     refine qn ?_
     cases hb4 : (decide (j2 < ((x0.length : Nat) : Int)))
     · replace hp := gneg hp (of_decide_eq_false hb4)
       refine Wcf rfl ?_
       refine Wexit ?_
       refine qx ?_
       refine qx ?_
       refine be ?_
       refine qn ?_
       refine Wseq ?_
       refine Wreg ?_
       refine rs (v := .bool true) (av (v := .bool true) rfl) rfl ?_
       refine rn ?_
       refine qn ?_
       refine Wret ?_
       injection hp with hp; subst hp
       refine f1 (v := .bool true) Try.results11 Try.ntmps11 rfl ?_
       exact ⟨_, rfl, k _ hc⟩
     · replace hp := gpos hp (of_decide_eq_true hb4)
       refine Wct rfl ?_
       refine Wskip ?_
       refine qn ?_
       refine Wseq ?_
       refine Wblk ?_
       refine Wseq ?_
       replace hc := hc.drew
       refine Wdrw (fun _ w' => w' = World.drew w3) [0, 0, 3, 7, 0, 0, 48, 112, 255] 0 0 rfl (by kernel_rfl) (fun _ _ => rfl) ?_
       generalize hw : World.drew w3 = w5 at *
       clear hw
       refine ds (v := .slice ax0 x0.length qx0) rfl (fun w' hF => by subst hF; exact mv (v := .slice ax0 x0.length qx0) rfl) rfl ?_
       refine ds (v := .int .i64 j2) rfl (fun w' hF => by subst hF; exact mv (v := .int .i64 j2) rfl) rfl ?_
       replace hp := bind_some hp; obtain ⟨y6, hy6, hp⟩ := hp
       obtain ⟨b9, o10, u11, hi7, hi8⟩ := Ctx.rdAt hc (k := 0) rfl rfl hrd0 hy6
       subst u11
       refine ds (v := .pointer (some ⟨b9, o10 + (j2).toNat * 1, none⟩)) rfl (fun w' hF => by subst hF; exact ixx rfl rfl Try.underlying23 Try.sizeOf3 hi7 hi8 rfl) rfl ?_
       replace hc := Ctx.rdCell hc (k := 0) rfl rfl hrd0 hy6; obtain ⟨cs12, hc, hcell13⟩ := hc
       replace hc := Ctx.holdC hc; obtain ⟨u14, hc⟩ := hc; subst u14
       refine ds (v := .int .i64 y6) rfl (fun w' hF => by subst hF; exact ld rfl Try.isAgg3 (hcell13 0 _ rfl)) rfl ?_
       refine ds (v := .slice ax1 x1.length qx1) rfl (fun w' hF => by subst hF; exact mv (v := .slice ax1 x1.length qx1) rfl) rfl ?_
       refine ds (v := .int .i64 j2) rfl (fun w' hF => by subst hF; exact mv (v := .int .i64 j2) rfl) rfl ?_
       replace hp := bind_some hp; obtain ⟨y15, hy15, hp⟩ := hp
       obtain ⟨b18, o19, u20, hi16, hi17⟩ := Ctx.rdAt hc (k := 1) rfl rfl hrd1 hy15
       subst u20
       refine ds (v := .pointer (some ⟨b18, o19 + (j2).toNat * 1, none⟩)) rfl (fun w' hF => by subst hF; exact ixx rfl rfl Try.underlying23 Try.sizeOf3 hi16 hi17 rfl) rfl ?_
       replace hc := Ctx.rdCell hc (k := 1) rfl rfl hrd1 hy15; obtain ⟨cs21, hc, hcell22⟩ := hc
       replace hc := Ctx.holdC hc; obtain ⟨u23, hc⟩ := hc; subst u23
       refine ds (v := .int .i64 y15) rfl (fun w' hF => by subst hF; exact ld rfl Try.isAgg3 (hcell22 0 _ rfl)) rfl ?_
       refine ds (v := .bool (decide (y6 ≠ y15))) rfl (fun w' hF => by subst hF; exact ned rfl rfl) rfl ?_
       refine dn ?_
       refine qn ?_
       cases hb24 : (decide (y6 ≠ y15))
       · replace hp := gneg hp (of_decide_eq_false hb24)
         refine Wcf rfl ?_
         refine Wskip ?_
         refine bn ?_
         refine qn ?_
         refine Wreg ?_
         refine rs (v := .int .i64 j2) (mv (v := .int .i64 j2) rfl) rfl ?_
         refine rs (v := .int .i64 (IntKind.i64.wrap (j2 + 1))) (adw rfl rfl) rfl ?_
         refine rs (v := .int .i64 (IntKind.i64.wrap (j2 + 1))) (av (v := .int .i64 (IntKind.i64.wrap (j2 + 1))) rfl) rfl ?_
         refine rn ?_
         refine qn ?_
         exact ⟨m1, Nat.lt_succ_self _, ⟨(IntKind.i64.wrap (j2 + 1)), rfl, hp, hc⟩, (kl rfl k0)⟩
       · replace hp := gpos hp (of_decide_eq_true hb24)
         refine Wct rfl ?_
         refine Wseq ?_
         refine Wreg ?_
         refine rs (v := .bool false) (av (v := .bool false) rfl) rfl ?_
         refine rn ?_
         refine qn ?_
         refine Wret ?_
         refine br ?_
         refine qr ?_
         refine qr ?_
         refine br ?_
         refine qr ?_
         injection hp with hp; subst hp
         refine f1 (v := .bool false) Try.results11 Try.ntmps11 rfl ?_
         exact ⟨_, rfl, k _ hc⟩
 · replace hp := gpos hp (of_decide_eq_true hb1)
   refine Wct rfl ?_
   refine Wseq ?_
   refine Wreg ?_
   refine rs (v := .bool false) (av (v := .bool false) rfl) rfl ?_
   refine rn ?_
   refine qn ?_
   refine Wret ?_
   refine qr ?_
   injection hp with hp; subst hp
   refine f1 (v := .bool false) Try.results11 Try.ntmps11 rfl ?_
   exact ⟨_, rfl, k _ hc⟩

-- FN peloton/pelotonlaw23.awake
theorem bd_29_0_1_2 {ρ : Operand → Value} {w : World} {dst : Option Nat} {ty : TypeId} {pos : String} {after : Array Edge} {g : Option (Nat × Bool)} {x0 x1 x2 : Operand} {k0 : IntKind} {a0 : Int} {k1 : IntKind} {a1 : Int} {a2 : Option Addr} {l2 c2 : Nat} (h0 : ρ x0 = (.int k0 a0)) (h1 : ρ x1 = (.int k1 a1)) (h2 : ρ x2 = (.slice a2 l2 c2)) :
    (execOp ρ ⟨dst, .build 29 #[(0, x0), (1, x1), (2, x2)], ty, pos, after, g⟩).run Try.prog w = .ok (.value (.agg #[(.int k0 a0), (.int k1 a1), (.slice a2 l2 c2)])) w := by
  simp [execOp, Instr.build, Instr.fill, Try.zeroValue29, Try.runUnderlying29, Try.sizeOf23, Try.sizeOf3, h0, h1, h2, Value.cells]

theorem bd_35_0_2 {ρ : Operand → Value} {w : World} {dst : Option Nat} {ty : TypeId} {pos : String} {after : Array Edge} {g : Option (Nat × Bool)} {x0 x2 : Operand} {k0 : IntKind} {a0 : Int} {k2 : IntKind} {a2 : Int} (h0 : ρ x0 = (.int k0 a0)) (h2 : ρ x2 = (.int k2 a2)) :
    (execOp ρ ⟨dst, .build 35 #[(0, x0), (2, x2)], ty, pos, after, g⟩).run Try.prog w = .ok (.value (.agg #[(.int k0 a0), (.int .i64 0), (.int k2 a2)])) w := by
  simp [execOp, Instr.build, Instr.fill, Try.zeroValue35, Try.runUnderlying35, Try.sizeOf3, h0, h2, Value.cells]

def law23_awake (N : Nat) : Option (Bool) :=
  (ledger_New).bind fun r1 =>
  (ledger_Ledger_Open r1 (⟨5, 2, [3, 4]⟩ : S_api_Request)).bind fun r6 =>
  if r6.1 ≠ 0 then
    some false
  else
    (ledger_Ledger_Next r6.2 5).bind fun r9 =>
    (ledger_Ledger_Answer r6.2 5 0 9).bind fun r11 =>
    (ledger_Ledger_Next r11.2.2.2 5).bind fun r17 =>
    (ledger_Ledger_Answer r11.2.2.2 5 1 7).bind fun r19 =>
    (ledger_Ledger_Next r19.2.2.2 5).bind fun r25 =>
    (ledger_Ledger_Rewind N r19.2.2.2 ([])).bind fun r27 =>
    (ledger_Ledger_Next r27 5).bind fun r29 =>
    if r9.1 = 0 then
      if r9.2.1 = 3 then
        if r11.2.1 = true then
          some false
        else
          if r17.1 = 1 then
            if r17.2.1 = 4 then
              if r19.2.1 = true then
                if (⟨r19.1.Request, r19.1.Place, r19.1.Token⟩ : S_api_Say) = (⟨5, 0, 7⟩ : S_api_Say) then
                  if r25.1 = 2 then
                    if r25.2.1 = 7 then
                      if r29.1 = 0 then
                        some (decide (r29.2.1 = 3))
                      else
                        some false
                    else
                      some false
                  else
                    some false
                else
                  some false
              else
                some false
            else
              some false
          else
            some false
      else
        some false
    else
      some false

set_option maxHeartbeats 8000000 in
theorem law23_awake_any {N : Nat} {Fr : List HP} {w : World} {r : Bool} {K : Value → World → Prop}  (hc : Ctx w (Fr)) (hp : law23_awake N = some r)
    (k : ∀ w', Ctx w' (Fr) → K (.bool r) w') : Calls Try.prog 6 #[] w (Ret K) := by
 unfold law23_awake at hp
 refine Center (args := []) (l := []) Try.func6 Try.ntmps6 rfl rfl rfl ?_
 refine Wseq ?_
 refine Wreg ?_
 refine rs (v := .bool false) (av (v := .bool false) rfl) rfl ?_
 refine rn ?_
 refine qn ?_
 refine Wseq ?_
 refine Wreg ?_
 replace hp := bind_some hp; obtain ⟨r1, hr1, hp⟩ := hp
 refine rc (cl Try.call7 rfl rfl) rfl ?_
 refine ledger_New_any hc hr1 ?_
 clear hc; intro b2 w3 hc
 refine rs (v := .pointer (some ⟨b2, 0, none⟩)) (av (v := .pointer (some ⟨b2, 0, none⟩)) rfl) rfl ?_
 refine rn ?_
 refine qn ?_
 refine Wseq ?_
 refine Wseq ?_
 refine Wreg ?_
 refine rs (v := .pointer (some ⟨b2, 0, none⟩)) (mv (v := .pointer (some ⟨b2, 0, none⟩)) rfl) rfl ?_
 refine rs (v := .bool false) (epf Try.underlying25 rfl rfl) rfl ?_
 refine rs (v := .bool false) (mv (v := .bool false) rfl) rfl ?_
 refine rs (v := .pointer (some ⟨b2, 0, none⟩)) (mv (v := .pointer (some ⟨b2, 0, none⟩)) rfl) rfl ?_
 replace hc : Ctx w3 (Hold (pInt .i64) [.int .i64 4] 4 :: S_ledger_Ledger.hp b2 r1 :: Fr) := hc.add _ fun _ _ _ => ⟨rfl, rfl⟩
 replace hc : Ctx w3 (Hold (pInt .i64) [.int .i64 3] 3 :: Hold (pInt .i64) [.int .i64 4] 4 :: S_ledger_Ledger.hp b2 r1 :: Fr) := hc.add _ fun _ _ _ => ⟨rfl, rfl⟩
 refine rsE (Ctx.builtOp (css := [[.int .i64 3], [.int .i64 4]]) (xs := ([3, 4] : List Int)) (E := (pInt .i64)) hc Try.underlying23 Try.sizeOf3 Try.zeroValue3 rfl rfl rfl rfl rfl rfl rfl rfl) rfl ?_
 clear hc; rintro _ w5 ⟨a4, rfl, hc⟩
 refine rs (v := .agg #[.int .i64 5, .int .i64 2, .slice a4 2 2]) (bd_29_0_1_2 rfl rfl rfl) rfl ?_
 replace hc := hc.freeze (k := 0) rfl rfl rfl
 replace hc := hc.dup (k := 0) rfl rfl
 replace hp := bind_some hp; obtain ⟨r6, hr6, hp⟩ := hp
 replace hc := hc.pull 2 rfl rfl
 refine rc (cl Try.call8 rfl rfl) rfl ?_
 refine ledger_Ledger_Open_any (x1 := (⟨5, 2, [3, 4]⟩ : S_api_Request)) hc hr6 ?_
 clear hc; intro w7 hc
 refine rs (v := .bool (decide (r6.1 ≠ 0))) (ned rfl rfl) rfl ?_
 refine rs (v := .bool (decide (r6.1 ≠ 0))) (pkf (v := .bool (decide (r6.1 ≠ 0))) rfl rfl) rfl ?_
 refine rn ?_
 refine qn ?_
 cases hb8 : (decide (r6.1 ≠ 0))
 · replace hp := gneg hp (of_decide_eq_false hb8)
   refine Wcf rfl ?_
   refine Wskip ?_
   refine qn ?_
   refine Wseq ?_
   refine Wreg ?_
   refine rs (v := .pointer (some ⟨b2, 0, none⟩)) (mv (v := .pointer (some ⟨b2, 0, none⟩)) rfl) rfl ?_
   replace hp := bind_some hp; obtain ⟨r9, hr9, hp⟩ := hp
   refine rc (cl Try.call9 rfl rfl) rfl ?_
   refine ledger_Ledger_Next_any hc hr9 ?_
   clear hc; intro w10 hc
   refine rs (v := .tuple #[.int .i64 r9.1, .int .i64 r9.2.1, .bool r9.2.2]) (mv (v := .tuple #[.int .i64 r9.1, .int .i64 r9.2.1, .bool r9.2.2]) rfl) rfl ?_
   refine rs (v := .int .i64 r9.1) (ext (v := .int .i64 r9.1) rfl rfl) rfl ?_
   refine rs (v := .int .i64 r9.2.1) (ext (v := .int .i64 r9.2.1) rfl rfl) rfl ?_
   refine rs (v := .bool r9.2.2) (ext (v := .bool r9.2.2) rfl rfl) rfl ?_
   refine rs (v := .int .i64 r9.1) (av (v := .int .i64 r9.1) rfl) rfl ?_
   refine rs (v := .int .i64 r9.2.1) (av (v := .int .i64 r9.2.1) rfl) rfl ?_
   refine rs (v := .bool r9.2.2) (av (v := .bool r9.2.2) rfl) rfl ?_
   refine rn ?_
   refine qn ?_
   refine Wseq ?_
   refine Wreg ?_
   refine rs (v := .pointer (some ⟨b2, 0, none⟩)) (mv (v := .pointer (some ⟨b2, 0, none⟩)) rfl) rfl ?_
   replace hp := bind_some hp; obtain ⟨r11, hr11, hp⟩ := hp
   refine rc (cl Try.call10 rfl rfl) rfl ?_
   refine ledger_Ledger_Answer_any hc hr11 ?_
   clear hc; intro w12 hc
   refine rs (v := .tuple #[.agg #[.int .i64 r11.1.Request, .int .i64 r11.1.Place, .int .i64 r11.1.Token], .bool r11.2.1, .int .i64 r11.2.2.1]) (mv (v := .tuple #[.agg #[.int .i64 r11.1.Request, .int .i64 r11.1.Place, .int .i64 r11.1.Token], .bool r11.2.1, .int .i64 r11.2.2.1]) rfl) rfl ?_
   refine rs (v := .agg #[.int .i64 r11.1.Request, .int .i64 r11.1.Place, .int .i64 r11.1.Token]) (ext (v := .agg #[.int .i64 r11.1.Request, .int .i64 r11.1.Place, .int .i64 r11.1.Token]) rfl rfl) rfl ?_
   refine rs (v := .bool r11.2.1) (ext (v := .bool r11.2.1) rfl rfl) rfl ?_
   refine rs (v := .int .i64 r11.2.2.1) (ext (v := .int .i64 r11.2.2.1) rfl rfl) rfl ?_
   refine rsE (Ctx.allocOp (cs := [.int .i64 0, .int .i64 0, .int .i64 0]) hc Try.zeroValue35 rfl) rfl ?_
   clear hc; rintro _ w15 ⟨b13, rfl, hc⟩
   refine ruE (A := fun w' => Ctx w' (B b13 [.int .i64 r11.1.Request, .int .i64 r11.1.Place, .int .i64 r11.1.Token] 35 :: S_ledger_Ledger.hp b2 r11.2.2.2 :: Hold (pRo (pInt .i64)) [.slice a4 2 2] ([3, 4]) :: Fr)) (Ctx.putAgg hc (k := 0) rfl rfl (vs := [.int .i64 r11.1.Request, .int .i64 r11.1.Place, .int .i64 r11.1.Token]) rfl rfl rfl Try.sizeOf35 rfl rfl rfl) rfl ?_
   clear hc; rintro w16 hc
   refine rs (v := .bool r11.2.1) (av (v := .bool r11.2.1) rfl) rfl ?_
   refine rs (v := .int .i64 r11.2.2.1) (av (v := .int .i64 r11.2.2.1) rfl) rfl ?_
   refine rn ?_
   refine qn ?_
   refine Wseq ?_
   refine Wreg ?_
   refine rs (v := .pointer (some ⟨b2, 0, none⟩)) (mv (v := .pointer (some ⟨b2, 0, none⟩)) rfl) rfl ?_
   replace hp := bind_some hp; obtain ⟨r17, hr17, hp⟩ := hp
   replace hc := hc.pull 1 rfl rfl
   refine rc (cl Try.call9 rfl rfl) rfl ?_
   refine ledger_Ledger_Next_any hc hr17 ?_
   clear hc; intro w18 hc
   refine rs (v := .tuple #[.int .i64 r17.1, .int .i64 r17.2.1, .bool r17.2.2]) (mv (v := .tuple #[.int .i64 r17.1, .int .i64 r17.2.1, .bool r17.2.2]) rfl) rfl ?_
   refine rs (v := .int .i64 r17.1) (ext (v := .int .i64 r17.1) rfl rfl) rfl ?_
   refine rs (v := .int .i64 r17.2.1) (ext (v := .int .i64 r17.2.1) rfl rfl) rfl ?_
   refine rs (v := .bool r17.2.2) (ext (v := .bool r17.2.2) rfl rfl) rfl ?_
   refine rs (v := .int .i64 r17.1) (av (v := .int .i64 r17.1) rfl) rfl ?_
   refine rs (v := .int .i64 r17.2.1) (av (v := .int .i64 r17.2.1) rfl) rfl ?_
   refine rs (v := .bool r17.2.2) (av (v := .bool r17.2.2) rfl) rfl ?_
   refine rn ?_
   refine qn ?_
   refine Wseq ?_
   refine Wreg ?_
   refine rs (v := .pointer (some ⟨b2, 0, none⟩)) (mv (v := .pointer (some ⟨b2, 0, none⟩)) rfl) rfl ?_
   replace hp := bind_some hp; obtain ⟨r19, hr19, hp⟩ := hp
   refine rc (cl Try.call10 rfl rfl) rfl ?_
   refine ledger_Ledger_Answer_any hc hr19 ?_
   clear hc; intro w20 hc
   refine rs (v := .tuple #[.agg #[.int .i64 r19.1.Request, .int .i64 r19.1.Place, .int .i64 r19.1.Token], .bool r19.2.1, .int .i64 r19.2.2.1]) (mv (v := .tuple #[.agg #[.int .i64 r19.1.Request, .int .i64 r19.1.Place, .int .i64 r19.1.Token], .bool r19.2.1, .int .i64 r19.2.2.1]) rfl) rfl ?_
   refine rs (v := .agg #[.int .i64 r19.1.Request, .int .i64 r19.1.Place, .int .i64 r19.1.Token]) (ext (v := .agg #[.int .i64 r19.1.Request, .int .i64 r19.1.Place, .int .i64 r19.1.Token]) rfl rfl) rfl ?_
   refine rs (v := .bool r19.2.1) (ext (v := .bool r19.2.1) rfl rfl) rfl ?_
   refine rs (v := .int .i64 r19.2.2.1) (ext (v := .int .i64 r19.2.2.1) rfl rfl) rfl ?_
   refine rsE (Ctx.allocOp (cs := [.int .i64 0, .int .i64 0, .int .i64 0]) hc Try.zeroValue35 rfl) rfl ?_
   clear hc; rintro _ w23 ⟨b21, rfl, hc⟩
   refine ruE (A := fun w' => Ctx w' (B b21 [.int .i64 r19.1.Request, .int .i64 r19.1.Place, .int .i64 r19.1.Token] 35 :: S_ledger_Ledger.hp b2 r19.2.2.2 :: B b13 [.int .i64 r11.1.Request, .int .i64 r11.1.Place, .int .i64 r11.1.Token] 35 :: Hold (pRo (pInt .i64)) [.slice a4 2 2] ([3, 4]) :: Fr)) (Ctx.putAgg hc (k := 0) rfl rfl (vs := [.int .i64 r19.1.Request, .int .i64 r19.1.Place, .int .i64 r19.1.Token]) rfl rfl rfl Try.sizeOf35 rfl rfl rfl) rfl ?_
   clear hc; rintro w24 hc
   refine rs (v := .bool r19.2.1) (av (v := .bool r19.2.1) rfl) rfl ?_
   refine rs (v := .int .i64 r19.2.2.1) (av (v := .int .i64 r19.2.2.1) rfl) rfl ?_
   refine rn ?_
   refine qn ?_
   refine Wseq ?_
   refine Wreg ?_
   refine rs (v := .pointer (some ⟨b2, 0, none⟩)) (mv (v := .pointer (some ⟨b2, 0, none⟩)) rfl) rfl ?_
   replace hp := bind_some hp; obtain ⟨r25, hr25, hp⟩ := hp
   replace hc := hc.pull 1 rfl rfl
   refine rc (cl Try.call9 rfl rfl) rfl ?_
   refine ledger_Ledger_Next_any hc hr25 ?_
   clear hc; intro w26 hc
   refine rs (v := .tuple #[.int .i64 r25.1, .int .i64 r25.2.1, .bool r25.2.2]) (mv (v := .tuple #[.int .i64 r25.1, .int .i64 r25.2.1, .bool r25.2.2]) rfl) rfl ?_
   refine rs (v := .int .i64 r25.1) (ext (v := .int .i64 r25.1) rfl rfl) rfl ?_
   refine rs (v := .int .i64 r25.2.1) (ext (v := .int .i64 r25.2.1) rfl rfl) rfl ?_
   refine rs (v := .bool r25.2.2) (ext (v := .bool r25.2.2) rfl rfl) rfl ?_
   refine rs (v := .int .i64 r25.1) (av (v := .int .i64 r25.1) rfl) rfl ?_
   refine rs (v := .int .i64 r25.2.1) (av (v := .int .i64 r25.2.1) rfl) rfl ?_
   refine rs (v := .bool r25.2.2) (av (v := .bool r25.2.2) rfl) rfl ?_
   refine rn ?_
   refine qn ?_
   refine Wseq ?_
   refine Wreg ?_
   refine rs (v := .pointer (some ⟨b2, 0, none⟩)) (mv (v := .pointer (some ⟨b2, 0, none⟩)) rfl) rfl ?_
   replace hc := hc.nilRo (pInt .i64)
   replace hc := hc.dup (k := 0) rfl rfl
   replace hp := bind_some hp; obtain ⟨r27, hr27, hp⟩ := hp
   replace hc := hc.pull 2 rfl rfl
   refine rc (cl Try.call13 rfl rfl) rfl ?_
   refine ledger_Ledger_Rewind_any reads_ro hc hr27 ?_
   clear hc; intro w28 hc
   refine rn ?_
   refine qn ?_
   refine Wseq ?_
   refine Wreg ?_
   refine rs (v := .pointer (some ⟨b2, 0, none⟩)) (mv (v := .pointer (some ⟨b2, 0, none⟩)) rfl) rfl ?_
   replace hp := bind_some hp; obtain ⟨r29, hr29, hp⟩ := hp
   refine rc (cl Try.call9 rfl rfl) rfl ?_
   refine ledger_Ledger_Next_any hc hr29 ?_
   clear hc; intro w30 hc
   refine rs (v := .tuple #[.int .i64 r29.1, .int .i64 r29.2.1, .bool r29.2.2]) (mv (v := .tuple #[.int .i64 r29.1, .int .i64 r29.2.1, .bool r29.2.2]) rfl) rfl ?_
   refine rs (v := .int .i64 r29.1) (ext (v := .int .i64 r29.1) rfl rfl) rfl ?_
   refine rs (v := .int .i64 r29.2.1) (ext (v := .int .i64 r29.2.1) rfl rfl) rfl ?_
   refine rs (v := .bool r29.2.2) (ext (v := .bool r29.2.2) rfl rfl) rfl ?_
   refine rs (v := .int .i64 r29.1) (av (v := .int .i64 r29.1) rfl) rfl ?_
   refine rs (v := .int .i64 r29.2.1) (av (v := .int .i64 r29.2.1) rfl) rfl ?_
   refine rs (v := .bool r29.2.2) (av (v := .bool r29.2.2) rfl) rfl ?_
   refine rn ?_
   refine qn ?_
   refine Wseq ?_
   refine Wreg ?_
   refine rs (v := .int .i64 r9.1) (mv (v := .int .i64 r9.1) rfl) rfl ?_
   refine rs (v := .bool (decide (r9.1 = 0))) (eqd rfl rfl) rfl ?_
   refine rs (v := .bool (decide (r9.1 = 0))) (mv (v := .bool (decide (r9.1 = 0))) rfl) rfl ?_
   cases hb31 : (decide (r9.1 = 0))
   · replace hp := gneg hp (of_decide_eq_false hb31)
     refine r0 rfl ?_
     refine r0 rfl ?_
     refine rs (v := .bool false) (pkf (v := .bool false) rfl rfl) rfl ?_
     refine rs (v := .bool false) (mv (v := .bool false) rfl) rfl ?_
     refine r0 rfl ?_
     refine r0 rfl ?_
     refine rs (v := .bool false) (pkf (v := .bool false) rfl rfl) rfl ?_
     refine rs (v := .bool false) (mv (v := .bool false) rfl) rfl ?_
     refine r0 rfl ?_
     refine r0 rfl ?_
     refine rs (v := .bool false) (pkf (v := .bool false) rfl rfl) rfl ?_
     refine rs (v := .bool false) (mv (v := .bool false) rfl) rfl ?_
     refine r0 rfl ?_
     refine r0 rfl ?_
     refine rs (v := .bool false) (pkf (v := .bool false) rfl rfl) rfl ?_
     refine rs (v := .bool false) (mv (v := .bool false) rfl) rfl ?_
     refine r0 rfl ?_
     refine rs (v := .bool false) (pkf (v := .bool false) rfl rfl) rfl ?_
     refine rs (v := .bool false) (mv (v := .bool false) rfl) rfl ?_
     refine r0 rfl ?_
     refine r0 rfl ?_
     refine r0 rfl ?_
     refine rs (v := .bool false) (pkf (v := .bool false) rfl rfl) rfl ?_
     refine rs (v := .bool false) (mv (v := .bool false) rfl) rfl ?_
     refine r0 rfl ?_
     refine r0 rfl ?_
     refine rs (v := .bool false) (pkf (v := .bool false) rfl rfl) rfl ?_
     refine rs (v := .bool false) (mv (v := .bool false) rfl) rfl ?_
     refine r0 rfl ?_
     refine r0 rfl ?_
     refine rs (v := .bool false) (pkf (v := .bool false) rfl rfl) rfl ?_
     refine rs (v := .bool false) (mv (v := .bool false) rfl) rfl ?_
     refine r0 rfl ?_
     refine r0 rfl ?_
     refine rs (v := .bool false) (pkf (v := .bool false) rfl rfl) rfl ?_
     refine rs (v := .bool false) (mv (v := .bool false) rfl) rfl ?_
     refine r0 rfl ?_
     refine r0 rfl ?_
     refine rs (v := .bool false) (pkf (v := .bool false) rfl rfl) rfl ?_
     refine rs (v := .bool false) (av (v := .bool false) rfl) rfl ?_
     refine rn ?_
     refine qn ?_
     refine Wret ?_
     replace hc := hc.rem 5 rfl rfl
     replace hc := hc.rem 4 rfl rfl
     replace hc := hc.rem 3 rfl rfl
     replace hc := hc.rem 2 rfl rfl
     replace hc := hc.rem 1 rfl rfl
     replace hc := hc.rem 0 rfl rfl
     injection hp with hp; subst hp
     refine f1 (v := .bool false) Try.results6 Try.ntmps6 rfl ?_
     exact ⟨_, rfl, k _ hc⟩
   · replace hp := gpos hp (of_decide_eq_true hb31)
     refine rs (v := .int .i64 r9.2.1) (mv (v := .int .i64 r9.2.1) rfl) rfl ?_
     refine rs (v := .bool (decide (r9.2.1 = 3))) (eqd rfl rfl) rfl ?_
     refine rs (v := .bool (decide (r9.2.1 = 3))) (pkt (v := .bool (decide (r9.2.1 = 3))) rfl rfl) rfl ?_
     refine rs (v := .bool (decide (r9.2.1 = 3))) (mv (v := .bool (decide (r9.2.1 = 3))) rfl) rfl ?_
     cases hb32 : (decide (r9.2.1 = 3))
     · replace hp := gneg hp (of_decide_eq_false hb32)
       refine r0 rfl ?_
       refine r0 rfl ?_
       refine rs (v := .bool false) (pkf (v := .bool false) rfl rfl) rfl ?_
       refine rs (v := .bool false) (mv (v := .bool false) rfl) rfl ?_
       refine r0 rfl ?_
       refine r0 rfl ?_
       refine rs (v := .bool false) (pkf (v := .bool false) rfl rfl) rfl ?_
       refine rs (v := .bool false) (mv (v := .bool false) rfl) rfl ?_
       refine r0 rfl ?_
       refine r0 rfl ?_
       refine rs (v := .bool false) (pkf (v := .bool false) rfl rfl) rfl ?_
       refine rs (v := .bool false) (mv (v := .bool false) rfl) rfl ?_
       refine r0 rfl ?_
       refine rs (v := .bool false) (pkf (v := .bool false) rfl rfl) rfl ?_
       refine rs (v := .bool false) (mv (v := .bool false) rfl) rfl ?_
       refine r0 rfl ?_
       refine r0 rfl ?_
       refine r0 rfl ?_
       refine rs (v := .bool false) (pkf (v := .bool false) rfl rfl) rfl ?_
       refine rs (v := .bool false) (mv (v := .bool false) rfl) rfl ?_
       refine r0 rfl ?_
       refine r0 rfl ?_
       refine rs (v := .bool false) (pkf (v := .bool false) rfl rfl) rfl ?_
       refine rs (v := .bool false) (mv (v := .bool false) rfl) rfl ?_
       refine r0 rfl ?_
       refine r0 rfl ?_
       refine rs (v := .bool false) (pkf (v := .bool false) rfl rfl) rfl ?_
       refine rs (v := .bool false) (mv (v := .bool false) rfl) rfl ?_
       refine r0 rfl ?_
       refine r0 rfl ?_
       refine rs (v := .bool false) (pkf (v := .bool false) rfl rfl) rfl ?_
       refine rs (v := .bool false) (mv (v := .bool false) rfl) rfl ?_
       refine r0 rfl ?_
       refine r0 rfl ?_
       refine rs (v := .bool false) (pkf (v := .bool false) rfl rfl) rfl ?_
       refine rs (v := .bool false) (av (v := .bool false) rfl) rfl ?_
       refine rn ?_
       refine qn ?_
       refine Wret ?_
       replace hc := hc.rem 5 rfl rfl
       replace hc := hc.rem 4 rfl rfl
       replace hc := hc.rem 3 rfl rfl
       replace hc := hc.rem 2 rfl rfl
       replace hc := hc.rem 1 rfl rfl
       replace hc := hc.rem 0 rfl rfl
       injection hp with hp; subst hp
       refine f1 (v := .bool false) Try.results6 Try.ntmps6 rfl ?_
       exact ⟨_, rfl, k _ hc⟩
     · replace hp := gpos hp (of_decide_eq_true hb32)
       refine rs (v := .bool r11.2.1) (mv (v := .bool r11.2.1) rfl) rfl ?_
       cases hb33 : r11.2.1
       · replace hp := gneg hp (by rw [hb33]; exact Bool.false_ne_true)
         refine rs (v := .bool true) (ntf rfl) rfl ?_
         refine rs (v := .bool true) (pkt (v := .bool true) rfl rfl) rfl ?_
         refine rs (v := .bool true) (mv (v := .bool true) rfl) rfl ?_
         refine rs (v := .int .i64 r17.1) (mv (v := .int .i64 r17.1) rfl) rfl ?_
         refine rs (v := .bool (decide (r17.1 = 1))) (eqd rfl rfl) rfl ?_
         refine rs (v := .bool (decide (r17.1 = 1))) (pkt (v := .bool (decide (r17.1 = 1))) rfl rfl) rfl ?_
         refine rs (v := .bool (decide (r17.1 = 1))) (mv (v := .bool (decide (r17.1 = 1))) rfl) rfl ?_
         cases hb34 : (decide (r17.1 = 1))
         · replace hp := gneg hp (of_decide_eq_false hb34)
           refine r0 rfl ?_
           refine r0 rfl ?_
           refine rs (v := .bool false) (pkf (v := .bool false) rfl rfl) rfl ?_
           refine rs (v := .bool false) (mv (v := .bool false) rfl) rfl ?_
           refine r0 rfl ?_
           refine rs (v := .bool false) (pkf (v := .bool false) rfl rfl) rfl ?_
           refine rs (v := .bool false) (mv (v := .bool false) rfl) rfl ?_
           refine r0 rfl ?_
           refine r0 rfl ?_
           refine r0 rfl ?_
           refine rs (v := .bool false) (pkf (v := .bool false) rfl rfl) rfl ?_
           refine rs (v := .bool false) (mv (v := .bool false) rfl) rfl ?_
           refine r0 rfl ?_
           refine r0 rfl ?_
           refine rs (v := .bool false) (pkf (v := .bool false) rfl rfl) rfl ?_
           refine rs (v := .bool false) (mv (v := .bool false) rfl) rfl ?_
           refine r0 rfl ?_
           refine r0 rfl ?_
           refine rs (v := .bool false) (pkf (v := .bool false) rfl rfl) rfl ?_
           refine rs (v := .bool false) (mv (v := .bool false) rfl) rfl ?_
           refine r0 rfl ?_
           refine r0 rfl ?_
           refine rs (v := .bool false) (pkf (v := .bool false) rfl rfl) rfl ?_
           refine rs (v := .bool false) (mv (v := .bool false) rfl) rfl ?_
           refine r0 rfl ?_
           refine r0 rfl ?_
           refine rs (v := .bool false) (pkf (v := .bool false) rfl rfl) rfl ?_
           refine rs (v := .bool false) (av (v := .bool false) rfl) rfl ?_
           refine rn ?_
           refine qn ?_
           refine Wret ?_
           replace hc := hc.rem 5 rfl rfl
           replace hc := hc.rem 4 rfl rfl
           replace hc := hc.rem 3 rfl rfl
           replace hc := hc.rem 2 rfl rfl
           replace hc := hc.rem 1 rfl rfl
           replace hc := hc.rem 0 rfl rfl
           injection hp with hp; subst hp
           refine f1 (v := .bool false) Try.results6 Try.ntmps6 rfl ?_
           exact ⟨_, rfl, k _ hc⟩
         · replace hp := gpos hp (of_decide_eq_true hb34)
           refine rs (v := .int .i64 r17.2.1) (mv (v := .int .i64 r17.2.1) rfl) rfl ?_
           refine rs (v := .bool (decide (r17.2.1 = 4))) (eqd rfl rfl) rfl ?_
           refine rs (v := .bool (decide (r17.2.1 = 4))) (pkt (v := .bool (decide (r17.2.1 = 4))) rfl rfl) rfl ?_
           refine rs (v := .bool (decide (r17.2.1 = 4))) (mv (v := .bool (decide (r17.2.1 = 4))) rfl) rfl ?_
           cases hb35 : (decide (r17.2.1 = 4))
           · replace hp := gneg hp (of_decide_eq_false hb35)
             refine r0 rfl ?_
             refine rs (v := .bool false) (pkf (v := .bool false) rfl rfl) rfl ?_
             refine rs (v := .bool false) (mv (v := .bool false) rfl) rfl ?_
             refine r0 rfl ?_
             refine r0 rfl ?_
             refine r0 rfl ?_
             refine rs (v := .bool false) (pkf (v := .bool false) rfl rfl) rfl ?_
             refine rs (v := .bool false) (mv (v := .bool false) rfl) rfl ?_
             refine r0 rfl ?_
             refine r0 rfl ?_
             refine rs (v := .bool false) (pkf (v := .bool false) rfl rfl) rfl ?_
             refine rs (v := .bool false) (mv (v := .bool false) rfl) rfl ?_
             refine r0 rfl ?_
             refine r0 rfl ?_
             refine rs (v := .bool false) (pkf (v := .bool false) rfl rfl) rfl ?_
             refine rs (v := .bool false) (mv (v := .bool false) rfl) rfl ?_
             refine r0 rfl ?_
             refine r0 rfl ?_
             refine rs (v := .bool false) (pkf (v := .bool false) rfl rfl) rfl ?_
             refine rs (v := .bool false) (mv (v := .bool false) rfl) rfl ?_
             refine r0 rfl ?_
             refine r0 rfl ?_
             refine rs (v := .bool false) (pkf (v := .bool false) rfl rfl) rfl ?_
             refine rs (v := .bool false) (av (v := .bool false) rfl) rfl ?_
             refine rn ?_
             refine qn ?_
             refine Wret ?_
             replace hc := hc.rem 5 rfl rfl
             replace hc := hc.rem 4 rfl rfl
             replace hc := hc.rem 3 rfl rfl
             replace hc := hc.rem 2 rfl rfl
             replace hc := hc.rem 1 rfl rfl
             replace hc := hc.rem 0 rfl rfl
             injection hp with hp; subst hp
             refine f1 (v := .bool false) Try.results6 Try.ntmps6 rfl ?_
             exact ⟨_, rfl, k _ hc⟩
           · replace hp := gpos hp (of_decide_eq_true hb35)
             refine rs (v := .bool r19.2.1) (mv (v := .bool r19.2.1) rfl) rfl ?_
             refine rs (v := .bool r19.2.1) (pkt (v := .bool r19.2.1) rfl rfl) rfl ?_
             refine rs (v := .bool r19.2.1) (mv (v := .bool r19.2.1) rfl) rfl ?_
             cases hb36 : r19.2.1
             · replace hp := gneg hp (by rw [hb36]; exact Bool.false_ne_true)
               refine r0 rfl ?_
               refine r0 rfl ?_
               refine r0 rfl ?_
               refine rs (v := .bool false) (pkf (v := .bool false) rfl rfl) rfl ?_
               refine rs (v := .bool false) (mv (v := .bool false) rfl) rfl ?_
               refine r0 rfl ?_
               refine r0 rfl ?_
               refine rs (v := .bool false) (pkf (v := .bool false) rfl rfl) rfl ?_
               refine rs (v := .bool false) (mv (v := .bool false) rfl) rfl ?_
               refine r0 rfl ?_
               refine r0 rfl ?_
               refine rs (v := .bool false) (pkf (v := .bool false) rfl rfl) rfl ?_
               refine rs (v := .bool false) (mv (v := .bool false) rfl) rfl ?_
               refine r0 rfl ?_
               refine r0 rfl ?_
               refine rs (v := .bool false) (pkf (v := .bool false) rfl rfl) rfl ?_
               refine rs (v := .bool false) (mv (v := .bool false) rfl) rfl ?_
               refine r0 rfl ?_
               refine r0 rfl ?_
               refine rs (v := .bool false) (pkf (v := .bool false) rfl rfl) rfl ?_
               refine rs (v := .bool false) (av (v := .bool false) rfl) rfl ?_
               refine rn ?_
               refine qn ?_
               refine Wret ?_
               replace hc := hc.rem 5 rfl rfl
               replace hc := hc.rem 4 rfl rfl
               replace hc := hc.rem 3 rfl rfl
               replace hc := hc.rem 2 rfl rfl
               replace hc := hc.rem 1 rfl rfl
               replace hc := hc.rem 0 rfl rfl
               injection hp with hp; subst hp
               refine f1 (v := .bool false) Try.results6 Try.ntmps6 rfl ?_
               exact ⟨_, rfl, k _ hc⟩
             · replace hp := gpos hp hb36
               refine rs (v := .agg #[.int .i64 r19.1.Request, .int .i64 r19.1.Place, .int .i64 r19.1.Token]) (ldg rfl Try.isAgg35 Try.sizeOf35 rfl (Ctx.cells hc (k := 3) rfl rfl 0 (vs := [.int .i64 r19.1.Request, .int .i64 r19.1.Place, .int .i64 r19.1.Token]) rfl)) rfl ?_
               refine rs (v := .agg #[.int .i64 5, .int .i64 0, .int .i64 7]) (bd_35_0_2 rfl rfl) rfl ?_
               refine rs (v := .bool (decide ((⟨r19.1.Request, r19.1.Place, r19.1.Token⟩ : S_api_Say) = (⟨5, 0, 7⟩ : S_api_Say)))) (eqs rfl rfl (by kernel_rfl) (fun w => S_api_Say.eql w (⟨r19.1.Request, r19.1.Place, r19.1.Token⟩ : S_api_Say) (⟨5, 0, 7⟩ : S_api_Say))) rfl ?_
               refine rs (v := .bool (decide ((⟨r19.1.Request, r19.1.Place, r19.1.Token⟩ : S_api_Say) = (⟨5, 0, 7⟩ : S_api_Say)))) (pkt (v := .bool (decide ((⟨r19.1.Request, r19.1.Place, r19.1.Token⟩ : S_api_Say) = (⟨5, 0, 7⟩ : S_api_Say)))) rfl rfl) rfl ?_
               refine rs (v := .bool (decide ((⟨r19.1.Request, r19.1.Place, r19.1.Token⟩ : S_api_Say) = (⟨5, 0, 7⟩ : S_api_Say)))) (mv (v := .bool (decide ((⟨r19.1.Request, r19.1.Place, r19.1.Token⟩ : S_api_Say) = (⟨5, 0, 7⟩ : S_api_Say)))) rfl) rfl ?_
               cases hb37 : (decide ((⟨r19.1.Request, r19.1.Place, r19.1.Token⟩ : S_api_Say) = (⟨5, 0, 7⟩ : S_api_Say)))
               · replace hp := gneg hp (of_decide_eq_false hb37)
                 refine r0 rfl ?_
                 refine r0 rfl ?_
                 refine rs (v := .bool false) (pkf (v := .bool false) rfl rfl) rfl ?_
                 refine rs (v := .bool false) (mv (v := .bool false) rfl) rfl ?_
                 refine r0 rfl ?_
                 refine r0 rfl ?_
                 refine rs (v := .bool false) (pkf (v := .bool false) rfl rfl) rfl ?_
                 refine rs (v := .bool false) (mv (v := .bool false) rfl) rfl ?_
                 refine r0 rfl ?_
                 refine r0 rfl ?_
                 refine rs (v := .bool false) (pkf (v := .bool false) rfl rfl) rfl ?_
                 refine rs (v := .bool false) (mv (v := .bool false) rfl) rfl ?_
                 refine r0 rfl ?_
                 refine r0 rfl ?_
                 refine rs (v := .bool false) (pkf (v := .bool false) rfl rfl) rfl ?_
                 refine rs (v := .bool false) (av (v := .bool false) rfl) rfl ?_
                 refine rn ?_
                 refine qn ?_
                 refine Wret ?_
                 replace hc := hc.rem 5 rfl rfl
                 replace hc := hc.rem 4 rfl rfl
                 replace hc := hc.rem 3 rfl rfl
                 replace hc := hc.rem 2 rfl rfl
                 replace hc := hc.rem 1 rfl rfl
                 replace hc := hc.rem 0 rfl rfl
                 injection hp with hp; subst hp
                 refine f1 (v := .bool false) Try.results6 Try.ntmps6 rfl ?_
                 exact ⟨_, rfl, k _ hc⟩
               · replace hp := gpos hp (of_decide_eq_true hb37)
                 refine rs (v := .int .i64 r25.1) (mv (v := .int .i64 r25.1) rfl) rfl ?_
                 refine rs (v := .bool (decide (r25.1 = 2))) (eqd rfl rfl) rfl ?_
                 refine rs (v := .bool (decide (r25.1 = 2))) (pkt (v := .bool (decide (r25.1 = 2))) rfl rfl) rfl ?_
                 refine rs (v := .bool (decide (r25.1 = 2))) (mv (v := .bool (decide (r25.1 = 2))) rfl) rfl ?_
                 cases hb38 : (decide (r25.1 = 2))
                 · replace hp := gneg hp (of_decide_eq_false hb38)
                   refine r0 rfl ?_
                   refine r0 rfl ?_
                   refine rs (v := .bool false) (pkf (v := .bool false) rfl rfl) rfl ?_
                   refine rs (v := .bool false) (mv (v := .bool false) rfl) rfl ?_
                   refine r0 rfl ?_
                   refine r0 rfl ?_
                   refine rs (v := .bool false) (pkf (v := .bool false) rfl rfl) rfl ?_
                   refine rs (v := .bool false) (mv (v := .bool false) rfl) rfl ?_
                   refine r0 rfl ?_
                   refine r0 rfl ?_
                   refine rs (v := .bool false) (pkf (v := .bool false) rfl rfl) rfl ?_
                   refine rs (v := .bool false) (av (v := .bool false) rfl) rfl ?_
                   refine rn ?_
                   refine qn ?_
                   refine Wret ?_
                   replace hc := hc.rem 5 rfl rfl
                   replace hc := hc.rem 4 rfl rfl
                   replace hc := hc.rem 3 rfl rfl
                   replace hc := hc.rem 2 rfl rfl
                   replace hc := hc.rem 1 rfl rfl
                   replace hc := hc.rem 0 rfl rfl
                   injection hp with hp; subst hp
                   refine f1 (v := .bool false) Try.results6 Try.ntmps6 rfl ?_
                   exact ⟨_, rfl, k _ hc⟩
                 · replace hp := gpos hp (of_decide_eq_true hb38)
                   refine rs (v := .int .i64 r25.2.1) (mv (v := .int .i64 r25.2.1) rfl) rfl ?_
                   refine rs (v := .bool (decide (r25.2.1 = 7))) (eqd rfl rfl) rfl ?_
                   refine rs (v := .bool (decide (r25.2.1 = 7))) (pkt (v := .bool (decide (r25.2.1 = 7))) rfl rfl) rfl ?_
                   refine rs (v := .bool (decide (r25.2.1 = 7))) (mv (v := .bool (decide (r25.2.1 = 7))) rfl) rfl ?_
                   cases hb39 : (decide (r25.2.1 = 7))
                   · replace hp := gneg hp (of_decide_eq_false hb39)
                     refine r0 rfl ?_
                     refine r0 rfl ?_
                     refine rs (v := .bool false) (pkf (v := .bool false) rfl rfl) rfl ?_
                     refine rs (v := .bool false) (mv (v := .bool false) rfl) rfl ?_
                     refine r0 rfl ?_
                     refine r0 rfl ?_
                     refine rs (v := .bool false) (pkf (v := .bool false) rfl rfl) rfl ?_
                     refine rs (v := .bool false) (av (v := .bool false) rfl) rfl ?_
                     refine rn ?_
                     refine qn ?_
                     refine Wret ?_
                     replace hc := hc.rem 5 rfl rfl
                     replace hc := hc.rem 4 rfl rfl
                     replace hc := hc.rem 3 rfl rfl
                     replace hc := hc.rem 2 rfl rfl
                     replace hc := hc.rem 1 rfl rfl
                     replace hc := hc.rem 0 rfl rfl
                     injection hp with hp; subst hp
                     refine f1 (v := .bool false) Try.results6 Try.ntmps6 rfl ?_
                     exact ⟨_, rfl, k _ hc⟩
                   · replace hp := gpos hp (of_decide_eq_true hb39)
                     refine rs (v := .int .i64 r29.1) (mv (v := .int .i64 r29.1) rfl) rfl ?_
                     refine rs (v := .bool (decide (r29.1 = 0))) (eqd rfl rfl) rfl ?_
                     refine rs (v := .bool (decide (r29.1 = 0))) (pkt (v := .bool (decide (r29.1 = 0))) rfl rfl) rfl ?_
                     refine rs (v := .bool (decide (r29.1 = 0))) (mv (v := .bool (decide (r29.1 = 0))) rfl) rfl ?_
                     cases hb40 : (decide (r29.1 = 0))
                     · replace hp := gneg hp (of_decide_eq_false hb40)
                       refine r0 rfl ?_
                       refine r0 rfl ?_
                       refine rs (v := .bool false) (pkf (v := .bool false) rfl rfl) rfl ?_
                       refine rs (v := .bool false) (av (v := .bool false) rfl) rfl ?_
                       refine rn ?_
                       refine qn ?_
                       refine Wret ?_
                       replace hc := hc.rem 5 rfl rfl
                       replace hc := hc.rem 4 rfl rfl
                       replace hc := hc.rem 3 rfl rfl
                       replace hc := hc.rem 2 rfl rfl
                       replace hc := hc.rem 1 rfl rfl
                       replace hc := hc.rem 0 rfl rfl
                       injection hp with hp; subst hp
                       refine f1 (v := .bool false) Try.results6 Try.ntmps6 rfl ?_
                       exact ⟨_, rfl, k _ hc⟩
                     · replace hp := gpos hp (of_decide_eq_true hb40)
                       refine rs (v := .int .i64 r29.2.1) (mv (v := .int .i64 r29.2.1) rfl) rfl ?_
                       refine rs (v := .bool (decide (r29.2.1 = 3))) (eqd rfl rfl) rfl ?_
                       refine rs (v := .bool (decide (r29.2.1 = 3))) (pkt (v := .bool (decide (r29.2.1 = 3))) rfl rfl) rfl ?_
                       refine rs (v := .bool (decide (r29.2.1 = 3))) (av (v := .bool (decide (r29.2.1 = 3))) rfl) rfl ?_
                       refine rn ?_
                       refine qn ?_
                       refine Wret ?_
                       replace hc := hc.rem 5 rfl rfl
                       replace hc := hc.rem 4 rfl rfl
                       replace hc := hc.rem 3 rfl rfl
                       replace hc := hc.rem 2 rfl rfl
                       replace hc := hc.rem 1 rfl rfl
                       replace hc := hc.rem 0 rfl rfl
                       injection hp with hp; subst hp
                       refine f1 (v := .bool (decide (r29.2.1 = 3))) Try.results6 Try.ntmps6 rfl ?_
                       exact ⟨_, rfl, k _ hc⟩
       · replace hp := gpos hp hb33
         refine rs (v := .bool false) (ntt rfl) rfl ?_
         refine rs (v := .bool false) (pkt (v := .bool false) rfl rfl) rfl ?_
         refine rs (v := .bool false) (mv (v := .bool false) rfl) rfl ?_
         refine r0 rfl ?_
         refine r0 rfl ?_
         refine rs (v := .bool false) (pkf (v := .bool false) rfl rfl) rfl ?_
         refine rs (v := .bool false) (mv (v := .bool false) rfl) rfl ?_
         refine r0 rfl ?_
         refine r0 rfl ?_
         refine rs (v := .bool false) (pkf (v := .bool false) rfl rfl) rfl ?_
         refine rs (v := .bool false) (mv (v := .bool false) rfl) rfl ?_
         refine r0 rfl ?_
         refine rs (v := .bool false) (pkf (v := .bool false) rfl rfl) rfl ?_
         refine rs (v := .bool false) (mv (v := .bool false) rfl) rfl ?_
         refine r0 rfl ?_
         refine r0 rfl ?_
         refine r0 rfl ?_
         refine rs (v := .bool false) (pkf (v := .bool false) rfl rfl) rfl ?_
         refine rs (v := .bool false) (mv (v := .bool false) rfl) rfl ?_
         refine r0 rfl ?_
         refine r0 rfl ?_
         refine rs (v := .bool false) (pkf (v := .bool false) rfl rfl) rfl ?_
         refine rs (v := .bool false) (mv (v := .bool false) rfl) rfl ?_
         refine r0 rfl ?_
         refine r0 rfl ?_
         refine rs (v := .bool false) (pkf (v := .bool false) rfl rfl) rfl ?_
         refine rs (v := .bool false) (mv (v := .bool false) rfl) rfl ?_
         refine r0 rfl ?_
         refine r0 rfl ?_
         refine rs (v := .bool false) (pkf (v := .bool false) rfl rfl) rfl ?_
         refine rs (v := .bool false) (mv (v := .bool false) rfl) rfl ?_
         refine r0 rfl ?_
         refine r0 rfl ?_
         refine rs (v := .bool false) (pkf (v := .bool false) rfl rfl) rfl ?_
         refine rs (v := .bool false) (av (v := .bool false) rfl) rfl ?_
         refine rn ?_
         refine qn ?_
         refine Wret ?_
         replace hc := hc.rem 5 rfl rfl
         replace hc := hc.rem 4 rfl rfl
         replace hc := hc.rem 3 rfl rfl
         replace hc := hc.rem 2 rfl rfl
         replace hc := hc.rem 1 rfl rfl
         replace hc := hc.rem 0 rfl rfl
         injection hp with hp; subst hp
         refine f1 (v := .bool false) Try.results6 Try.ntmps6 rfl ?_
         exact ⟨_, rfl, k _ hc⟩
 · replace hp := gpos hp (of_decide_eq_true hb8)
   refine Wct rfl ?_
   refine Wseq ?_
   refine Wreg ?_
   refine rs (v := .bool false) (av (v := .bool false) rfl) rfl ?_
   refine rn ?_
   refine qn ?_
   refine Wret ?_
   refine qr ?_
   replace hc := hc.rem 1 rfl rfl
   replace hc := hc.rem 0 rfl rfl
   injection hp with hp; subst hp
   refine f1 (v := .bool false) Try.results6 Try.ntmps6 rfl ?_
   exact ⟨_, rfl, k _ hc⟩

end Go.Proofs.Ytfhpmaphgkiegaa
